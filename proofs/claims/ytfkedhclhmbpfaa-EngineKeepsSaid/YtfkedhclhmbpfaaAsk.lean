/-
  The engine's ask.
-/
import Derived.Test.YtfkedhclhmbpfaaAsn
import Derived.Outline
namespace Go.Proofs.Ytfkedhclhmbpfaa
open Go.RowKit Go.Maps
set_option linter.unusedVariables false
set_option linter.unusedSimpArgs false

/-- 'ask', as it is said. -/
def askUp (step : St → Int → Option (St × ByteArray)) (turned : St → Int → Option (St × Int)) (st : St) (k : Int) : Option (St × ByteArray) :=
  match st.inputs k with
  | some x => some (st, x.1)
  | none =>
    if st.cycle = true then some (st, noBytes)
    else if hitM st k = true then (useM { st with hits := st.hits + 1 } k).map fun st1 => (st1, ((st.cells k).getD zeroCell).s)
    else underM st k noBytes (askIn step turned k)

set_option maxRecDepth 100000 in
set_option maxHeartbeats 16000000 in
theorem ask_any (L : Lay) (rv : Value) (A : Option Addr) (rs : List Rule) (step : St → Int → Option (St × ByteArray)) (turned : St → Int → Option (St × Int)) (hS : StepOK L rv A rs step) (hT : TurnedOK L rv A rs turned) :
    AskOK L rv A rs (askUp step turned) := by
  intro w p st k st' s h hR hk hm
  obtain ⟨loc, wF, uF, F⟩ := p
  obtain ⟨av, h⟩ := h
  dsimp only at h hR ⊢
  obtain ⟨w1, hw1⟩ : ∃ w1, (w.alloc (.cells #[En L] 26)).alloc (.cells #[enc k] 3) = w1 := ⟨_, rfl⟩
  have g1 : Chg (fun _ => False) w w1 := by rw [← hw1]; exact ((Chg.refl _ _).alloc _).alloc _
  have x1 : Blk w1 w.heap.size 26 #[En L] := by rw [← hw1]; exact (Blk.new w 26 _).alloc _
  have k1 : Blk w1 (w.heap.size + 1) 3 #[enc k] := by
    rw [← hw1]
    have := Blk.new (w.alloc (.cells #[En L] 26)) 3 #[enc k]
    rwa [World.size_alloc] at this
  have hz1 : w1.heap.size = w.heap.size + 2 := by rw [← hw1]; simp
  have hxF : ¬ F w.heap.size := fun hf => by have := h.lt _ hf; omega
  have hkF : ¬ F (w.heap.size + 1) := fun hf => by have := h.lt _ hf; omega
  have h1 := h.mono g1
  have e2 := h1.e2
  have ex : w1.cell? ⟨w.heap.size, 0, none⟩ = some (En L) := by rw [x1.cell]; rfl
  have ek : w1.cell? ⟨w.heap.size + 1, 0, none⟩ = some (enc k) := by rw [k1.cell]; rfl
  have hel := h.eng.lt
  unfold askUp at hm
  obtain ⟨y, hy⟩ : ∃ y, y = (st.inputs k).getD (noBytes, 0) := ⟨_, rfl⟩
  obtain ⟨b, hb⟩ : ∃ b, b = (st.inputs k).isSome := ⟨_, rfl⟩
  have hlook := look_in h1 hk
  have hlook2 := look_in (h1.mono (Chg.refl (fun _ => False) w1).drew) hk
  have hlook3 := fun o => look_in (h1.mono ((Chg.refl (fun _ => False) w1).alloc o).drew) hk
  have hlook4 := fun o => look_in (h1.mono ((Chg.refl (fun _ => False) w1).alloc o)) hk
  simp only [← hy, ← hb] at hlook hlook2 hlook3 hlook4
  unfold inV at hlook hlook2 hlook3 hlook4
  have e2a := fun o => ((Chg.refl (fun _ => False) w1).alloc o).cell e2 (fun h => h)
  have exa := fun o => ((Chg.refl (fun _ => False) w1).alloc o).cell ex (fun h => h)
  have eka := fun o => ((Chg.refl (fun _ => False) w1).alloc o).cell ek (fun h => h)
  have HW1 := hid hw1
  have HX1 := hid x1
  have HK1 := hid k1
  have HXF : Hid (¬ F w.heap.size ∧ ¬ F (w.heap.size + 1)) := hid ⟨hxF, hkF⟩
  have HG1 := hid ((Got.refl h.at_).mono g1)
  have HE1 := hid h1
  have HR := hid hR
  have HM := hid hm
  have HK := hid hk
  have HS := hid hS
  have HT := hid hT
  have HY := hid hy
  have HB := hid hb
  clear hw1 g1 x1 k1 hxF hkF h1 h hR hm hk hS hT hy hb
  go_enter Try.func23, Try.ntmps23
  go_upto_region 1 with fail
  rw [HW1.out]
  go_cut [5, 6] (fun v5 v6 wx => ∃ g, v5 = .pointer (some ⟨g, 0, none⟩) ∧ v6 = .bool b ∧ Blk wx g 71 #[.string y.1, .int .i64 y.2] ∧ Chg (fun _ => False) w1 wx)
  case first =>
    go_region
    go_wp2_with fail
    go_meet
    refine ⟨_, rfl, rfl, ?_, ((Chg.refl _ _).alloc _).drew⟩
    have := Blk.new w1 71 #[.string y.1, .int .i64 y.2]
    rw [hz1] at this
    exact this.drew
  case rest =>
    obtain ⟨g, rfl, rfl, hb1, hc1⟩ := hcut
    have ex := hc1.cell ex (fun h => h)
    have ek := hc1.cell ek (fun h => h)
    have hgo := HG1.out.mono hc1
    have HXw := hid (hc1.blk HX1.out (fun h => h))
    have HKw := hid (hc1.blk HK1.out (fun h => h))
    have HEw := hid (HE1.out.mono hc1)
    have HGw := hid hgo
    have hsz := hc1.size
    clear hlook hlook2 hlook3 hlook4 e2 e2a exa eka hgo
    cases hin : st.inputs k with
    | some z =>
      have hm := HM.out
      rw [hin] at hm
      simp only [Option.some.injEq, Prod.mk.injEq] at hm
      obtain ⟨rfl, rfl⟩ := hm
      have hbt : b = true := by rw [HB.out, hin]; rfl
      have hyz : y = z := by rw [HY.out, hin]; rfl
      have HSZ := hid (HE1.out.ints k z hin)
      subst hbt hyz
      have c1 : wc.cell? ⟨g, 0, none⟩ = some (.string y.1) := by rw [hb1.cell]; rfl
      clear hin hb1
      go_wp2_with fail
      go_ret
      exact ⟨rfl, HSZ.out, _, HGw.out⟩
    | none =>
      have hm := HM.out
      rw [hin] at hm
      simp only at hm
      have hbt : b = false := by rw [HB.out, hin]; rfl
      subst hbt
      have e8 := HEw.out.e8
      have HM := hid hm
      clear hin hb1 hm
      cases hcy : st.cycle with
      | true =>
        have hm := HM.out
        rw [if_pos hcy] at hm
        simp only [Option.some.injEq, Prod.mk.injEq] at hm
        obtain ⟨rfl, rfl⟩ := hm
        rw [hcy] at e8
        clear hcy HM
        go_wp2_with fail
        go_ret
        exact ⟨rfl, Nat.zero_le _, _, HGw.out⟩
      | false =>
        have hm := HM.out
        rw [if_neg (by rw [hcy]; simp)] at hm
        have HM := hid hm
        rw [hcy] at e8
        have e3 := HEw.out.e3
        clear hcy hm
        obtain ⟨pv, hpv⟩ : ∃ pv : Option Addr, pv = (st.cells k).map (fun _ => (⟨loc k, 0, none⟩ : Addr)) := ⟨_, rfl⟩
        have hlook : ∀ n, (Instr.lookup 60 (.map (some L.cm)) (enc k) false).run Try.prog (wc.drewN n) = .ok (.pointer pv) (wc.drewN n) := fun n => by
          have hh := HEw.out.mono ((Chg.refl (fun _ => False) wc).drewN n)
          cases hck : st.cells k with
          | none =>
            rw [hpv, hck]
            exact look_none hh HK.out hck
          | some c =>
            rw [hpv, hck]
            exact look_cell hh HK.out hck
        have HPV := hid hpv
        clear hpv
        go_wp2_with fail
        go_quiet (fail)
        generalize hw2 : wc.drewN _ = w2
        have g2 : Chg (fun _ => False) wc w2 := by rw [← hw2]; exact (Chg.refl _ _).drewN _
        have ex := g2.cell ex (fun h => h)
        have ek := g2.cell ek (fun h => h)
        have HE2 := hid (HEw.out.mono g2)
        have HG2 := hid (HGw.out.mono g2)
        have HX2 := hid (g2.blk HXw.out (fun h => h))
        have HK2 := hid (g2.blk HKw.out (fun h => h))
        have hsz2 : w1.heap.size ≤ w2.heap.size := Nat.le_trans hsz g2.size
        clear hw2 g2 hlook e8 e3
        go_upto_region 7 with fail
        go_cut [58] (fun v wx => v = .bool (hitM st k) ∧ Chg (fun _ => False) w2 wx)
        case first =>
          cases hck : st.cells k with
          | none =>
            have hpn : pv = none := by rw [HPV.out, hck]; rfl
            subst hpn
            have hitv : hitM st k = false := by unfold hitM; rw [hck]
            clear hck
            go_quiet (fail)
            go_wp2_with fail
            go_meet
            exact ⟨by rw [hitv], (Chg.refl _ _).drewN _⟩
          | some c =>
            have hpn : pv = some ⟨loc k, 0, none⟩ := by rw [HPV.out, hck]; rfl
            subst hpn
            have e1 := HE2.out.e1
            have e7 := HE2.out.e7
            have k2 := HE2.out.k2 hck
            have k4 := HE2.out.k4 hck
            have hlb := fun n => look_busy (HE2.out.mono ((Chg.refl (fun _ => False) w2).drewN n)) HK.out
            have hith : hitM st k = (decide (c.at_ = st.rev) && c.has && !st.busy k) := by unfold hitM; rw [hck]
            obtain ⟨a, ha⟩ : ∃ a, a = c.at_ := ⟨_, rfl⟩
            obtain ⟨r, hr⟩ : ∃ r, r = st.rev := ⟨_, rfl⟩
            obtain ⟨hs, hhs⟩ : ∃ hs, hs = c.has := ⟨_, rfl⟩
            obtain ⟨bz, hbz⟩ : ∃ bz, bz = st.busy k := ⟨_, rfl⟩
            rw [← ha] at k2
            rw [← hr] at e1
            rw [← hhs] at k4
            simp only [← hbz] at hlb
            rw [← ha, ← hr, ← hhs, ← hbz] at hith
            have HH := hid hith
            clear hck ha hr hhs hbz hith
            by_cases hat : a = r
            · have hq1 : (a == r) = true := beq_iff_eq.2 hat
              have HAT := hid hat
              clear hat
              cases hs with
              | true =>
                cases bz with
                | true =>
                  have hitv : hitM st k = false := by rw [HH.out]; simp
                  go_quiet (fail)
                  go_wp2_with fail
                  go_meet
                  exact ⟨by rw [hitv], (Chg.refl _ _).drewN _⟩
                | false =>
                  have hitv : hitM st k = true := by rw [HH.out, decide_eq_true HAT.out]; rfl
                  go_quiet (fail)
                  go_wp2_with fail
                  go_meet
                  exact ⟨by rw [hitv], (Chg.refl _ _).drewN _⟩
              | false =>
                have hitv : hitM st k = false := by rw [HH.out]; simp
                go_quiet (fail)
                go_wp2_with fail
                go_meet
                exact ⟨by rw [hitv], (Chg.refl _ _).drewN _⟩
            · have hq1 : (a == r) = false := beq_eq_false_iff_ne.2 hat
              have hitv : hitM st k = false := by rw [HH.out, decide_eq_false hat]; rfl
              clear hat
              go_quiet (fail)
              go_wp2_with fail
              go_meet
              exact ⟨by rw [hitv], (Chg.refl _ _).drewN _⟩
        case rest =>
          obtain ⟨rfl, hc3⟩ := hcut
          obtain ⟨w3, rfl⟩ : ∃ q, q = wc := ⟨_, rfl⟩
          have ex := hc3.cell ex (fun h => h)
          have ek := hc3.cell ek (fun h => h)
          have HE3 := hid (HE2.out.mono hc3)
          have HG3 := hid (HG2.out.mono hc3)
          have HX3 := hid (hc3.blk HX2.out (fun h => h))
          have HK3 := hid (hc3.blk HK2.out (fun h => h))
          have hsz3 : w1.heap.size ≤ w3.heap.size := Nat.le_trans hsz2 hc3.size
          have hxl : w.heap.size < w3.heap.size := by omega
          have hkl : w.heap.size + 1 < w3.heap.size := by omega
          clear hc3 hsz hsz2
          cases hh : hitM st k with
          | true =>
            have hm := HM.out
            rw [if_pos hh] at hm
            cases hck : st.cells k with
            | none => unfold hitM at hh; rw [hck] at hh; cases hh
            | some c =>
              have hpn : pv = some ⟨loc k, 0, none⟩ := by rw [HPV.out, hck]; rfl
              subst hpn
              rw [hck, Option.getD_some] at hm
              simp only [Option.map_eq_some_iff, Prod.mk.injEq] at hm
              obtain ⟨st9, hus, rfl, rfl⟩ := hm
              unfold useM at hus
              split at hus
              · rename_i hul
                obtain rfl := (Option.some.inj hus).symm
                have HUL : Hid (st.used.length ≤ 90000) := hid hul
                have HCK := hid hck
                have e11 := HE3.out.e11
                have f11 := HE3.out.f 11
                have hwr := wrap_add st.hits
                have hne : L.eb ≠ w.heap.size := by omega
                have hnk : L.eb ≠ w.heap.size + 1 := by omega
                clear hh hus hul hck HM
                go_upto_region 9 with fail
                obtain ⟨w4, hw4⟩ : ∃ w4, w3.setCell ⟨L.eb, 11, none⟩ (.int .i64 (wrap64 (st.hits + 1))) = w4 := ⟨_, rfl⟩
                have hS : Chg (fun q => q = L.eb) w3 w4 := by rw [← hw4]; exact (Chg.refl (fun q => q = L.eb) w3).setCell (p := ⟨L.eb, 11, none⟩) rfl _
                have g4 := HE3.out.gotOwn (st' := { st with hits := st.hits + 1 }) hS (by rw [← hw4]; exact HE3.out.eng.set_ 11 _) rfl rfl rfl rfl rfl rfl rfl rfl rfl HE3.out.rev0 HE3.out.rev1
                obtain ⟨av4, h4⟩ := id g4.eng
                dsimp only at h4
                have ex := hS.cell ex (fun e => hne e.symm)
                have ek := hS.cell ek (fun e => hnk e.symm)
                have e6 := h4.e6
                have HLU := hid h4.usd
                have HE4 := hid h4
                have HG4 := hid (HG3.out.trans g4)
                rw [hw4]
                clear hw4 hS g4 h4 e11 f11 hwr
                go_cut [73] (fun v wx => ∃ uF3 F3, Got L rv ⟨loc, wF, uF, F⟩ w4 { st with hits := st.hits + 1 } ⟨loc, wF, uF3, F3⟩ wx { st with hits := st.hits + 1, used := useL st.used k })
                case first =>
                  go_region_with (go_at_call 33; (refine (LI.use_any _ L.ub uF st.used k (by first | exact HLU.out | exact HLU.out.chg (Chg.refl (fun _ => False) _).drew (fun _ _ h => h)) HK.out (by have := HUL.out; omega)).mono ?_); rintro e w5 ⟨rfl, hl3, hc3⟩; have g3 : ∃ uF3 F3, Got L rv ⟨loc, wF, uF, F⟩ w4 { st with hits := st.hits + 1 } ⟨loc, wF, uF3, F3⟩ w5 { st with hits := st.hits + 1, used := useL st.used k } := (by first | exact ⟨_, _, HE4.out.gotUse hl3 hc3⟩ | exact ⟨_, _, ((Got.refl HE4.out.at_).mono (Chg.refl _ _).drew).trans ((HE4.out.mono (Chg.refl (fun _ => False) _).drew).gotUse hl3 hc3)⟩); clear hl3 hc3)
                  all_goals (go_wp2_with fail; go_meet; obtain ⟨uF3, F3, g3⟩ := g3; exact ⟨uF3, F3, by first | exact g3 | exact g3.mono (Chg.refl _ _).drew⟩)
                case rest =>
                  obtain ⟨uF3, F3, g3⟩ := hcut
                  obtain ⟨av3, h3⟩ := id g3.eng
                  dsimp only at h3
                  have k5 := h3.k5 (k := k) (c := c) HCK.out
                  have HCS := hid (h3.celt k c HCK.out)
                  have HG5 := hid (HG4.out.trans g3)
                  clear g3 h3 e6
                  go_wp2_with fail
                  go_ret
                  exact ⟨rfl, HCS.out, _, HG5.out⟩
              · cases hus
          | false =>
            have hm := HM.out
            rw [if_neg (by rw [hh]; simp)] at hm
            have HM := hid hm
            clear hh hm
            obtain ⟨w4, hw4⟩ : ∃ w4, w3.alloc (.cells #[.string ⟨#[]⟩] 9) = w4 := ⟨_, rfl⟩
            have g4 : Chg (fun _ => False) w3 w4 := by rw [← hw4]; exact (Chg.refl _ _).alloc _
            have HB4 : Hid (Blk w4 w3.heap.size 9 #[.string noBytes]) := hid (by rw [← hw4]; exact Blk.new w3 9 _)
            have HG4 := hid (HG3.out.mono g4)
            have HX4 := hid (g4.blk HX3.out (fun h => h))
            have HK4 := hid (g4.blk HK3.out (fun h => h))
            have HSF : Hid (¬ F w3.heap.size) := hid (fun hf => by have := HE3.out.lt _ hf; omega)
            have HUND : Hid (Calls Try.prog 34 #[En L, enc k, .func (.func 35) #[] #[.pointer (some ⟨w.heap.size, 0, none⟩), .pointer (some ⟨w.heap.size + 1, 0, none⟩), .pointer (some ⟨w3.heap.size, 0, none⟩)]] w4 fun e w' => e = .returned (.tuple #[]) ∧ ∃ p2, Got L rv ⟨loc, wF, uF, F⟩ w st p2 w' st' ∧ Blk w' w3.heap.size 9 #[.string s] ∧ s.size ≤ 1000000) := hid (by
              have hun := HM.out
              unfold underM at hun
              by_cases hbz : st.busy k = true
              · rw [if_pos hbz] at hun
                simp only [Option.some.injEq, Prod.mk.injEq] at hun
                obtain ⟨rfl, rfl⟩ := hun
                refine (under_busy w4 L _ rv st k _ HG4.out.eng HK.out hbz).mono ?_
                rintro e w' ⟨he, hg, hch⟩
                exact ⟨he, _, HG4.out.trans hg, hch.blk HB4.out (fun e => HSF.out (e ▸ HE3.out.feb)), Nat.zero_le _⟩
              · rw [if_neg hbz] at hun
                cases hti : askIn step turned k { st with busy := setF st.busy k true } with
                | none => rw [hti] at hun; cases hun
                | some v =>
                  obtain ⟨st2, s2⟩ := v
                  rw [hti] at hun
                  simp only [Option.some.injEq, Prod.mk.injEq] at hun
                  obtain ⟨rfl, rfl⟩ := hun
                  refine (under_free w4 L _ rv st st2 k 35 _ (fun W => Blk W w3.heap.size 9 #[.string s2] ∧ s2.size ≤ 1000000) _ w st HG4.out HK.out (by simpa using hbz) (enters_of Try.func35 (by kernel_rfl) rfl) ?_ ?_).mono ?_
                  · intro w5 he hc5
                    refine (ask_in L rv A rs step turned HS.out HT.out ⟨loc, wF, uF, F⟩ w st w5 ⟨loc, wF, uF, F⟩ _ st2 k s2 w.heap.size (w.heap.size + 1) w3.heap.size he ((HR.out.got HG4.out).chg hc5 (fun k hk => .inl hk)) HK.out (hc5.blk HX4.out HXF.out.1) (hc5.blk HK4.out HXF.out.2) (hc5.blk HB4.out HSF.out) HXF.out.1 HXF.out.2 HSF.out (by omega) hti).mono ?_
                    rintro e w6 ⟨hee, p3, g3, hb3, hs3⟩
                    exact ⟨hee, p3, g3, hb3, hs3⟩
                  · rintro w5 w6 ⟨hb5, hs5⟩ hc5
                    exact ⟨hc5.blk hb5 (fun e => HSF.out (e ▸ HE3.out.fbm)), hs5⟩
                  · rintro e w' ⟨he, p2, hg, hb5, hs5⟩
                    exact ⟨he, p2, hg, hb5, hs5⟩)
            have HW4 := hid hw4
            clear hw4 g4 HM
            go_wp2_with fail
            rw [show w3.alloc (.cells #[.string ⟨#[]⟩] 9) = w4 from HW4.out]
            refine HUND.out.mono ?_
            rintro e w6 ⟨rfl, p6, g6, hb6, hs6⟩
            have c6 : w6.cell? ⟨w3.heap.size, 0, none⟩ = some (.string s) := by rw [hb6.cell]; rfl
            have HG6 := hid g6
            clear g6 hb6
            go_wp2_with fail
            go_ret
            exact ⟨rfl, hs6, _, HG6.out⟩
end Go.Proofs.Ytfkedhclhmbpfaa
