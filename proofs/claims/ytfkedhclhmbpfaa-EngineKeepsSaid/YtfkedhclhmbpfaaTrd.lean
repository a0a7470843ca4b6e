/-
  The engine's turned.
-/
import Derived.Test.YtfkedhclhmbpfaaTrn
import Derived.Outline
namespace Go.Proofs.Ytfkedhclhmbpfaa
open Go.RowKit Go.Maps
set_option linter.unusedVariables false
set_option linter.unusedSimpArgs false

theorem look_in {w : World} {L : Lay} {loc : Int → Nat} {av : Int → Value} {wF uF F : Nat → Prop} {rv : Value} {st : St} (h : EngP w L loc av wF uF F rv st) {k : Int} (hk : ok k) :
    (Instr.lookup 59 (.map (some L.im)) (enc k) true).run Try.prog w = .ok (.tuple #[inV ((st.inputs k).getD (noBytes, 0)), .bool (st.inputs k).isSome]) w := by
  obtain ⟨n, hn⟩ := h.ins
  have := hn.look keyK Try.underlying59 (zeroN w) true hk
  cases hb : st.inputs k <;> simpa [inF, hb] using this

/-- 'turned', as it is said. -/
def turnedUp (step : St → Int → Option (St × ByteArray)) (turned : St → Int → Option (St × Int)) (st : St) (k : Int) : Option (St × Int) :=
  match st.inputs k with
  | some x => some (st, x.2)
  | none => match underM st k () (turnedIn step turned k) with
    | none => none
    | some (st1, _) => some (st1, match st1.cells k with | none => 0 | some c => c.turned)

set_option maxRecDepth 100000 in
set_option maxHeartbeats 8000000 in
theorem turned_any (L : Lay) (rv : Value) (A : Option Addr) (rs : List Rule) (step : St → Int → Option (St × ByteArray)) (turned : St → Int → Option (St × Int)) (hS : StepOK L rv A rs step) (hT : TurnedOK L rv A rs turned) :
    TurnedOK L rv A rs (turnedUp step turned) := by
  intro w p st k st' t h hR hk hm
  obtain ⟨loc, wF, uF, F⟩ := p
  obtain ⟨av, h⟩ := h
  dsimp only at h hR ⊢
  obtain ⟨w1, hw1⟩ : ∃ w1, (w.alloc (.cells #[En L] 26)).alloc (.cells #[enc k] 3) = w1 := ⟨_, rfl⟩
  have g1 : Chg (fun _ => False) w w1 := by rw [← hw1]; exact ((Chg.refl _ _).alloc _).alloc _
  have x1 : Blk w1 w.heap.size 26 #[En L] := by rw [← hw1]; exact (Blk.new w 26 _).alloc _
  have k1 : Blk w1 (w.heap.size + 1) 3 #[enc k] := by
    rw [← hw1]
    have := Blk.new (w.alloc (.cells #[En L] 26)) 3 #[enc k]
    rwa [World.size_alloc] at this
  have hz1 : w1.heap.size = w.heap.size + 2 := by rw [← hw1]; simp
  have hxF : ¬ F w.heap.size := fun hf => by have := h.lt _ hf; omega
  have hkF : ¬ F (w.heap.size + 1) := fun hf => by have := h.lt _ hf; omega
  have h1 := h.mono g1
  have e2 := h1.e2
  have ex : w1.cell? ⟨w.heap.size, 0, none⟩ = some (En L) := by rw [x1.cell]; rfl
  have ek : w1.cell? ⟨w.heap.size + 1, 0, none⟩ = some (enc k) := by rw [k1.cell]; rfl
  have hel := h.eng.lt
  unfold turnedUp at hm
  obtain ⟨y, hy⟩ : ∃ y, y = (st.inputs k).getD (noBytes, 0) := ⟨_, rfl⟩
  obtain ⟨b, hb⟩ : ∃ b, b = (st.inputs k).isSome := ⟨_, rfl⟩
  have hlook := look_in h1 hk
  have hlook2 := look_in (h1.mono (Chg.refl (fun _ => False) w1).drew) hk
  have hlook3 := fun o => look_in (h1.mono ((Chg.refl (fun _ => False) w1).alloc o).drew) hk
  have hlook4 := fun o => look_in (h1.mono ((Chg.refl (fun _ => False) w1).alloc o)) hk
  simp only [← hy, ← hb] at hlook hlook2 hlook3 hlook4
  unfold inV at hlook hlook2 hlook3 hlook4
  have hel1 : L.eb < w1.heap.size := h1.eng.lt
  have hxl1 : w.heap.size < w1.heap.size := by omega
  have hkl1 : w.heap.size + 1 < w1.heap.size := by omega
  have e2a := fun o => ((Chg.refl (fun _ => False) w1).alloc o).cell e2 (fun h => h)
  have exa := fun o => ((Chg.refl (fun _ => False) w1).alloc o).cell ex (fun h => h)
  have eka := fun o => ((Chg.refl (fun _ => False) w1).alloc o).cell ek (fun h => h)
  have HW1 := hid hw1
  have HX1 := hid x1
  have HK1 := hid k1
  have HXF : Hid (¬ F w.heap.size ∧ ¬ F (w.heap.size + 1)) := hid ⟨hxF, hkF⟩
  have HG1 := hid ((Got.refl h.at_).mono g1)
  have HE1 := hid h1
  have HR := hid hR
  have HM := hid hm
  have HK := hid hk
  have HS := hid hS
  have HT := hid hT
  have HY := hid hy
  have HB := hid hb
  clear hw1 g1 x1 k1 hxF hkF h1 h hR hm hk hS hT hy hb
  go_enter Try.func44, Try.ntmps44
  go_upto_region 1 with fail
  rw [HW1.out]
  go_cut [5, 6] (fun v5 v6 wx => ∃ g, v5 = .pointer (some ⟨g, 0, none⟩) ∧ v6 = .bool b ∧ Blk wx g 71 #[.string y.1, .int .i64 y.2] ∧ Chg (fun _ => False) w1 wx)
  case first =>
    go_region
    go_wp2_with fail
    go_meet
    refine ⟨_, rfl, rfl, ?_, ((Chg.refl _ _).alloc _).drew⟩
    have := Blk.new w1 71 #[.string y.1, .int .i64 y.2]
    rw [hz1] at this
    exact this.drew
  case rest =>
    obtain ⟨g, rfl, rfl, hb1, hc1⟩ := hcut
    have ex := hc1.cell ex (fun h => h)
    have ek := hc1.cell ek (fun h => h)
    have hgo := HG1.out.mono hc1
    have HXw := hid (hc1.blk HX1.out (fun h => h))
    have HKw := hid (hc1.blk HK1.out (fun h => h))
    have HGw := hid hgo
    clear hlook hlook2 hlook3 hlook4 e2 e2a exa eka hel1 hxl1 hkl1 hgo
    cases hin : st.inputs k with
    | some z =>
      have hm := HM.out
      rw [hin] at hm
      simp only [Option.some.injEq, Prod.mk.injEq] at hm
      obtain ⟨rfl, rfl⟩ := hm
      have hbt : b = true := by rw [HB.out, hin]; rfl
      have hyz : y = z := by rw [HY.out, hin]; rfl
      subst hbt hyz
      have c1 : wc.cell? ⟨g, 1, none⟩ = some (.int .i64 y.2) := by rw [hb1.cell]; rfl
      clear hin hb1
      go_wp2_with fail
      go_ret
      exact ⟨rfl, _, HGw.out⟩
    | none =>
      have hm := HM.out
      rw [hin] at hm
      simp only at hm
      have hbt : b = false := by rw [HB.out, hin]; rfl
      subst hbt
      cases hun : underM st k () (turnedIn step turned k) with
      | none => rw [hun] at hm; cases hm
      | some u =>
        obtain ⟨st1, u⟩ := u
        rw [hun] at hm
        simp only [Option.some.injEq, Prod.mk.injEq] at hm
        obtain ⟨rfl, ht⟩ := hm
        have HTT := hid ht
        have HUN := hid hun
        have HUND : Hid (Calls Try.prog 34 #[En L, enc k, .func (.func 50) #[] #[.pointer (some ⟨w.heap.size, 0, none⟩), .pointer (some ⟨w.heap.size + 1, 0, none⟩)]] wc fun e w' => e = .returned (.tuple #[]) ∧ ∃ p2, Got L rv ⟨loc, wF, uF, F⟩ wc st p2 w' st1) := hid (by
          have hun := HUN.out
          unfold underM at hun
          by_cases hbz : st.busy k = true
          · rw [if_pos hbz] at hun
            simp only [Option.some.injEq, Prod.mk.injEq] at hun
            obtain ⟨rfl, -⟩ := hun
            refine (under_busy wc L _ rv st k _ HGw.out.eng HK.out hbz).mono ?_
            rintro e w' ⟨he, hg, -⟩
            exact ⟨he, _, hg⟩
          · rw [if_neg hbz] at hun
            cases hti : turnedIn step turned k { st with busy := setF st.busy k true } with
            | none => rw [hti] at hun; cases hun
            | some v =>
              obtain ⟨st2, u2⟩ := v
              rw [hti] at hun
              simp only [Option.some.injEq, Prod.mk.injEq] at hun
              obtain ⟨rfl, -⟩ := hun
              refine (under_free wc L _ rv st st2 k 50 _ (fun _ => True) _ wc st (Got.refl HGw.out.eng) HK.out (by simpa using hbz) (enters_of Try.func50 (by kernel_rfl) rfl) ?_ (fun _ _ _ _ => trivial)).mono ?_
              · intro w2 he hc2
                refine (turned_in L rv A rs step turned HS.out HT.out w2 ⟨loc, wF, uF, F⟩ _ st2 k w.heap.size (w.heap.size + 1) he.eng ((HR.out.got HGw.out).chg hc2 (fun k hk => .inl hk)) HK.out (hc2.blk HXw.out HXF.out.1) (hc2.blk HKw.out HXF.out.2) HXF.out.1 HXF.out.2 hti).mono ?_
                rintro e w3 ⟨hee, p3, g3⟩
                exact ⟨hee, p3, he.trans g3, trivial⟩
              · rintro e w' ⟨he, p2, hg, -⟩
                exact ⟨he, p2, hg⟩)
        clear hin hb1 hun ht
        go_wp2_with fail
        refine HUND.out.mono ?_
        rintro e w2 ⟨rfl, ⟨loc2, wF2, uF2, F2⟩, g2⟩
        have ex := (g2.chg.blk HXw.out HXF.out.1).cell 0
        have ek := (g2.chg.blk HKw.out HXF.out.2).cell 0
        have HG2 := hid (HGw.out.trans g2)
        obtain ⟨av2, h2⟩ := id g2.eng
        dsimp only at h2
        have e3 := h2.e3
        have HE2 := hid h2
        clear g2 h2
        cases hck : st1.cells k with
        | none =>
          have hlook := fun n => look_none (HE2.out.mono ((Chg.refl (fun _ => False) w2).drewN n)) HK.out hck
          have htt : t = 0 := by rw [← HTT.out, hck]
          subst htt
          clear hck
          go_wp2_with fail
          go_quiet (fail)
          go_wp2_with fail
          go_ret
          exact ⟨rfl, _, HG2.out.mono ((Chg.refl _ _).drewN _)⟩
        | some c =>
          have hlook := fun n => look_cell (HE2.out.mono ((Chg.refl (fun _ => False) w2).drewN n)) HK.out hck
          have htt : c.turned = t := by rw [← HTT.out, hck]
          have k3 := HE2.out.k3 hck
          rw [htt] at k3
          clear hck htt
          go_wp2_with fail
          go_quiet (fail)
          go_wp2_with fail
          go_ret
          exact ⟨rfl, _, HG2.out.mono ((Chg.refl _ _).drewN _)⟩
end Go.Proofs.Ytfkedhclhmbpfaa
