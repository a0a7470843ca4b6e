/-
  The engine's Set, Budget, Forget, New.
-/
import Derived.Test.YtfkedhclhmbpfaaTop
import Derived.Outline
namespace Go.Proofs.Ytfkedhclhmbpfaa
open Go.RowKit Go.Maps
set_option linter.unusedVariables false
set_option linter.unusedSimpArgs false

/-- What a call from outside leaves of an engine. -/
def Kept (L : Lay) (p : Fp) (rv : Value) (w : World) (st' : St) (w' : World) : Prop := ∃ p', EngAt w' L p' rv st' ∧ (∀ k, p'.F k → p.F k ∨ w.heap.size ≤ k) ∧ Chg p.F w w'
theorem Left.kept {L : Lay} {p : Fp} {rv : Value} {w w' : World} {st st' : St} (h : Left L p rv w st st' w') : Kept L p rv w st' w' := by
  obtain ⟨p', h⟩ := h
  exact ⟨p', h.eng, h.blocks, h.chg⟩

theorem Set_nil (w : World) (k : Int) (s : ByteArray) : Calls Try.prog 12 #[.pointer none, enc k, .string s] w fun e w' => e = .returned (.tuple #[]) ∧ w = w' := by
  go_enter Try.func12, Try.ntmps12
  go_wp2_with fail
  exact bodyPost_ret (results_none rfl _ _ _) rfl ⟨rfl, rfl⟩

set_option maxRecDepth 100000 in
set_option maxHeartbeats 4000000 in
theorem Set_any (w : World) (L : Lay) (p : Fp) (rv : Value) (st : St) (k : Int) (s : ByteArray) (st' : St) (h : EngAt w L p rv st) (hk : ok k) (hs : s.size ≤ 1000000) (hm : setM st k s = some st') :
    Calls Try.prog 12 #[En L, enc k, .string s] w fun e w' => e = .returned (.tuple #[]) ∧ Kept L p rv w st' w' := by
  obtain ⟨loc, wF, uF, F⟩ := p
  obtain ⟨av, h⟩ := h
  dsimp only at h
  have e2 := h.e2
  obtain ⟨y, hy⟩ : ∃ y, y = (st.inputs k).getD (noBytes, 0) := ⟨_, rfl⟩
  obtain ⟨b, hb⟩ : ∃ b, b = (st.inputs k).isSome := ⟨_, rfl⟩
  have hlook := look_in h hk
  rw [← hy, ← hb] at hlook
  unfold inV at hlook
  obtain ⟨w1, hw1⟩ : ∃ w1, w.alloc (.cells #[.string y.1, .int .i64 y.2] 71) = w1 := ⟨_, rfl⟩
  have g1 : Chg (fun _ => False) w w1 := by rw [← hw1]; exact (Chg.refl _ _).alloc _
  have b1 : Blk w1 w.heap.size 71 #[.string y.1, .int .i64 y.2] := by rw [← hw1]; exact Blk.new w 71 _
  have HG1 := hid ((Got.refl h.at_).mono g1)
  have HB1 := hid b1
  have HW1 := hid hw1
  have HM := hid hm
  have HK := hid hk
  have HY := hid hy
  have HB := hid hb
  clear h hk hm hy hb hw1 g1 b1
  go_enter Try.func12, Try.ntmps12
  go_upto_region 2 with fail
  rw [HW1.out]
  have c0 : w1.cell? ⟨w.heap.size, 0, none⟩ = some (.string y.1) := by rw [HB1.out.cell]; rfl
  by_cases hsame : (st.inputs k).map (fun x => x.1) = some s
  · have hm := HM.out
    unfold setM at hm
    rw [if_pos hsame] at hm
    obtain rfl := Option.some.inj hm
    cases hin : st.inputs k with
    | none => rw [hin] at hsame; cases hsame
    | some z =>
      have hbt : b = true := by rw [HB.out, hin]; rfl
      have hyz : y.1 = s := by
        rw [HY.out, hin]
        rw [hin] at hsame
        simpa using hsame
      subst hbt
      rw [hyz] at c0
      clear hm hin hsame hyz hlook e2
      go_wp2_with fail
      exact bodyPost_ret (results_none rfl _ _ _) rfl ⟨rfl, _, HG1.out.eng, HG1.out.blocks, HG1.out.chg⟩
  · have hm := HM.out
    unfold setM at hm
    rw [if_neg hsame] at hm
    cases hd : dropM st k with
    | none => rw [hd] at hm; cases hm
    | some st1 =>
      rw [hd] at hm
      simp only at hm
      split at hm
      · rename_i hrev
        have HST := hid (Option.some.inj hm).symm
        have HD := hid hd
        have HREV : Hid (st1.rev ≤ 1000000) := hid hrev
        have HDR := hid (drop_any w1 L _ rv st k st1 HG1.out.eng HK.out hd)
        have hcond : b = false ∨ (b = true ∧ (y.1.toList == s.toList) = false) := by
          cases hin : st.inputs k with
          | none => left; rw [HB.out, hin]; rfl
          | some z =>
            right
            have hne : ¬ y.1 = s := fun e => hsame (by rw [hin]; rw [HY.out, hin] at e; simpa using e)
            exact ⟨by rw [HB.out, hin]; rfl, ba_ne hne⟩
        clear hm hd hrev hsame hlook e2
        rcases hcond with rfl | ⟨rfl, hne⟩
        all_goals
          go_wp2_with fail
          refine HDR.out.mono ?_
          rintro e w2 ⟨rfl, ⟨loc2, wF2, uF2, F2⟩, g2⟩
          obtain ⟨av2, h2⟩ := id g2.eng
          dsimp only at h2
          obtain ⟨w3, hdel, hm3, hc3, hz3⟩ := h2.cls.del keyK Try.underlying60 HK.out
          have hd := fun ty => hdel 3 ty
          have e3 := h2.e3
          have hm4 := hm3.congr (g := cellF (setF st1.cells k none) loc2) (fun x => by
            unfold cellF delF setF
            by_cases e : x = k <;> simp [e])
          rw [show (cellF st1.cells loc2 k).isSome = (st1.cells k).isSome by unfold cellF; simp] at hm4
          have hgone := h2.gone (k := k) hm4 hc3
          have e1 := hgone.e1
          have f1 := hgone.f 1
          have HE3 := hid hgone
          have HC3 : Hid (Chg F2 w2 w3) := hid (hc3.weaken (fun x _ e => e ▸ h2.fcm))
          have HG2 := hid (HG1.out.trans g2)
          have hrb : 0 ≤ st1.rev ∧ st1.rev ≤ 1000000 := ⟨h2.rev0, HREV.out⟩
          clear g2 h2 hdel hm3 hm4 hc3 hz3 hgone c0
          go_upto_region 6 with fail
          obtain ⟨w4, hw4⟩ : ∃ w4, w3.setCell ⟨L.eb, 1, none⟩ (.int .i64 (st1.rev + 1)) = w4 := ⟨_, rfl⟩
          have hS : Chg (fun x => x = L.eb) w3 w4 := by rw [← hw4]; exact (Chg.refl (fun x => x = L.eb) w3).setCell (p := ⟨L.eb, 1, none⟩) rfl _
          have h4 := HE3.out.own (st' := { st1 with cells := setF st1.cells k none, nc := (if (st1.cells k).isSome then st1.nc - 1 else st1.nc), rev := st1.rev + 1 }) hS (by rw [← hw4]; exact HE3.out.eng.set_ 1 _) rfl rfl rfl rfl rfl rfl rfl rfl rfl (by show 0 ≤ st1.rev + 1; omega) (by show st1.rev + 1 ≤ 1000001; omega)
          have h4d := h4.mono (Chg.refl (fun _ => False) w4).drew
          obtain ⟨n5, hn5⟩ := h4d.ins
          obtain ⟨w5, hst, hm5, hc5, hz5⟩ := hn5.store keyK Try.underlying59 HK.out (inV (s, st1.rev + 1))
          have h5 := h4d.input (f := setF st1.inputs k (some (s, st1.rev + 1))) (hm5.congr (fun x => by
            unfold inF putF setF
            by_cases e : x = k <;> simp [e])) hc5 (fun q x hx => by
              by_cases e : q = k
              · subst e
                rw [setF_same] at hx
                cases hx
                exact hs
              · rw [setF_other _ _ e] at hx
                exact HE3.out.ints q x hx)
          unfold inV at hst
          have e1 := h4.e1
          have e2 := h4.e2
          have HE5 := hid h5
          have HCH : Hid (Chg F2 w3 w5) := hid (((hS.weaken (fun x _ e => e ▸ HE3.out.feb)).drew).trans (hc5.weaken (fun x _ e => e ▸ HE3.out.fim)))
          rw [hw4]
          clear hw4 hS h4 h4d hn5 hm5 hc5 hz5 h5 f1 e3 hd
          go_region
          go_wp2_with fail
          refine bodyPost_end (results_none rfl _ _ _) rfl ⟨rfl, ⟨loc2, wF2, uF2, F2⟩, ?_, HG2.out.blocks, HG2.out.chg.into (HC3.out.trans HCH.out) (fun q hq h => ?_)⟩
          · rw [HST.out]
            exact HE5.out.at_
          · rcases HG2.out.blocks q h with h | h
            · exact h
            · omega
      · cases hm
end Go.Proofs.Ytfkedhclhmbpfaa
