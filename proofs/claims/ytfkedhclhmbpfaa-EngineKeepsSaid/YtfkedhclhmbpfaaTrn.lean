/-
  The engine's turned.
-/
import Derived.Test.YtfkedhclhmbpfaaStp
import Derived.Outline
namespace Go.Proofs.Ytfkedhclhmbpfaa
open Go.RowKit Go.Maps
set_option linter.unusedVariables false
set_option linter.unusedSimpArgs false

set_option maxRecDepth 100000 in
set_option maxHeartbeats 8000000 in
theorem turned_in (L : Lay) (rv : Value) (A : Option Addr) (rs : List Rule) (step : St → Int → Option (St × ByteArray)) (turned : St → Int → Option (St × Int)) (hS : StepOK L rv A rs step) (hT : TurnedOK L rv A rs turned)
    (w : World) (p : Fp) (st st' : St) (k : Int) (x kb : Nat) (h : EngAt w L p rv st) (hR : RulesAt w p.F A rs) (hk : ok k) (hx : Blk w x 26 #[En L]) (hkb : Blk w kb 3 #[enc k]) (hxF : ¬ p.F x) (hkF : ¬ p.F kb) (hm : turnedIn step turned k st = some (st', ())) :
    Calls Try.prog 50 #[.pointer (some ⟨x, 0, none⟩), .pointer (some ⟨kb, 0, none⟩)] w fun e w' => e = .returned (.tuple #[]) ∧ Left L p rv w st st' w' := by
  obtain ⟨loc, wF, uF, F⟩ := p
  obtain ⟨av, h⟩ := h
  dsimp only at h hR hxF hkF ⊢
  have ex : w.cell? ⟨x, 0, none⟩ = some (En L) := by rw [hx.cell]; rfl
  have ek : w.cell? ⟨kb, 0, none⟩ = some (enc k) := by rw [hkb.cell]; rfl
  have e3 := h.e3
  unfold turnedIn at hm
  cases hc : st.cells k with
  | none =>
    rw [hc] at hm
    simp only at hm
    have hlook := fun n => look_none (h.mono ((Chg.refl (fun _ => False) w).drewN n)) hk hc
    have HH := hid h
    have HR := hid hR
    have HM := hid hm
    have HX := hid hx
    have HKB := hid hkb
    have HK := hid hk
    have HS := hid hS
    clear h hR hm hx hkb hk hS hT hc
    go_enter Try.func50, Try.ntmps50
    go_wp2_with fail
    go_quiet (fail)
    generalize hw1 : w.drewN _ = w1
    have g1 : Chg (fun _ => False) w w1 := by rw [← hw1]; exact (Chg.refl _ _).drewN _
    have ex := g1.cell ex (fun h => h)
    have ek := g1.cell ek (fun h => h)
    have HE := hid (HH.out.mono g1)
    have e8 := HE.out.e8
    clear hw1
    go_wp2_with fail
    go_quiet (fail)
    generalize hw2 : w1.drewN _ = w2
    have g2 : Chg (fun _ => False) w1 w2 := by rw [← hw2]; exact (Chg.refl _ _).drewN _
    have ex := g2.cell ex (fun h => h)
    have ek := g2.cell ek (fun h => h)
    have HG := hid ((Got.refl HH.out.at_).mono (g1.trans g2))
    have HE := hid (HE.out.mono g2)
    clear hw2 g1 g2 e8 e3 hlook HX HKB
    obtain ⟨stm, hstm⟩ : ∃ q, q = st := ⟨_, rfl⟩
    have HG : Hid (Got L rv ⟨loc, wF, uF, F⟩ w st ⟨loc, wF, uF, F⟩ w2 stm) := hid (by rw [hstm]; exact HG.out)
    rw [← hstm] at HE HM
    clear hstm
    cases hcy : stm.cycle with
    | true =>
      have hm := HM.out
      rw [if_pos hcy] at hm
      simp only [Option.some.injEq, Prod.mk.injEq] at hm
      obtain ⟨rfl, -⟩ := hm
      have e8 := HE.out.e8
      rw [hcy] at e8
      clear hcy HM
      go_wp2_with fail
      refine bodyPost_end (results_none rfl _ _ _) rfl ⟨rfl, _, HG.out⟩
    | false =>
      have hm := HM.out
      rw [if_neg (by rw [hcy]; simp)] at hm
      cases hst : step stm k with
      | none => rw [hst] at hm; cases hm
      | some y =>
        obtain ⟨st9, s9⟩ := y
        rw [hst] at hm
        simp only [Option.map_some, Option.some.injEq, Prod.mk.injEq] at hm
        obtain ⟨rfl, -⟩ := hm
        have e8 := HE.out.e8
        rw [hcy] at e8
        have HST := hid hst
        clear hcy HM hst
        go_wp2_with fail
        refine (HS.out w2 _ stm k _ _ HE.out.at_ (HR.out.got HG.out) HK.out HST.out).mono ?_
        rintro e w9 ⟨rfl, -, p9, g9⟩
        have HG9 := hid (HG.out.trans g9)
        clear g9
        go_wp2_with fail
        refine bodyPost_end (results_none rfl _ _ _) rfl ⟨rfl, _, HG9.out⟩
  | some c =>
    rw [hc] at hm
    simp only at hm
    have hlook := fun n => look_cell (h.mono ((Chg.refl (fun _ => False) w).drewN n)) hk hc
    have HH := hid h
    have HR := hid hR
    have HM := hid hm
    have HX := hid hx
    have HKB := hid hkb
    have HK := hid hk
    have HS := hid hS
    have HT := hid hT
    have HC := hid hc
    have HXF : Hid (¬ F x ∧ ¬ F kb) := hid ⟨hxF, hkF⟩
    clear h hR hm hx hkb hk hS hT hc hxF hkF
    go_enter Try.func50, Try.ntmps50
    go_wp2_with fail
    go_quiet (fail)
    generalize hw1 : w.drewN _ = w1
    have g1 : Chg (fun _ => False) w w1 := by rw [← hw1]; exact (Chg.refl _ _).drewN _
    have ex := g1.cell ex (fun h => h)
    have ek := g1.cell ek (fun h => h)
    have HE := hid (HH.out.mono g1)
    have HG := hid ((Got.refl HH.out.at_).mono g1)
    have e1 := HE.out.e1
    have k2 := HE.out.k2 HC.out
    have HX1 := hid (g1.blk HX.out (fun h => h))
    have HKB1 := hid (g1.blk HKB.out (fun h => h))
    obtain ⟨a, ha⟩ : ∃ a, a = c.at_ := ⟨_, rfl⟩
    obtain ⟨r, hr⟩ : ∃ r, r = st.rev := ⟨_, rfl⟩
    rw [← ha] at k2
    rw [← hr] at e1
    have hm := HM.out
    rw [← ha, ← hr] at hm
    have HM := hid hm
    clear hw1 g1 e3 hlook ha hr hm
    by_cases hat : a = r
    · have hq1 : (a == r) = true := beq_iff_eq.2 hat
      have hq2 : (a != r) = false := by rw [bne, hq1]; rfl
      have hm := HM.out
      rw [if_pos hat] at hm
      simp only [Option.some.injEq, Prod.mk.injEq] at hm
      obtain ⟨rfl, -⟩ := hm
      clear hat HM
      go_wp2_with fail
      go_quiet (fail)
      go_wp2_with fail
      exact bodyPost_end (results_none rfl _ _ _) rfl ⟨rfl, _, HG.out.mono ((Chg.refl _ _).drewN _)⟩
    · have hq1 : (a == r) = false := beq_eq_false_iff_ne.2 hat
      have hq2 : (a != r) = true := by rw [bne, hq1]; rfl
      have hm := HM.out
      rw [if_neg hat] at hm
      have HM := hid hm
      clear hat hm
      cases hri : rightM turned k st with
      | none => have := HM.out; rw [hri] at this; cases this
      | some y =>
        obtain ⟨st1, b⟩ := y
        have HRI := hid hri
        have hm := HM.out
        rw [hri] at hm
        have HM := hid hm
        clear hri hm
        go_upto_region 1 with fail
        go_cut [27] (fun v wx => v = .bool (!b) ∧ ∃ p2, Got L rv ⟨loc, wF, uF, F⟩ w st p2 wx st1)
        case first =>
          go_region_with (go_at_call 36; ((with_reducible refine (right_any turned L rv A rs HT.out _ ⟨loc, wF, uF, F⟩ st k c st1 b (by first | exact HE.out.at_ | exact (HE.out.mono (Chg.refl _ _).drew).at_) (by first | exact HR.out.got HG.out | exact HR.out.got (HG.out.mono (Chg.refl _ _).drew)) (HH.out.aok k c HC.out) HC.out HRI.out).mono ?_)); rintro e w2 ⟨rfl, p2, g2⟩; have g3 : Got L rv ⟨loc, wF, uF, F⟩ w st p2 w2 st1 := (by first | exact HG.out.trans g2 | exact (HG.out.mono (Chg.refl _ _).drew).trans g2); clear g2)
          all_goals (go_wp2_with fail; go_meet; exact ⟨rfl, p2, by first | exact g3 | exact g3.mono (Chg.refl _ _).drew⟩)
        case rest =>
          obtain ⟨rfl, ⟨loc2, wF2, uF2, F2⟩, g2⟩ := hcut
          have ex := (g2.chg.blk HX.out HXF.out.1).cell 0
          have ek := (g2.chg.blk HKB.out HXF.out.2).cell 0
          obtain ⟨av2, h2⟩ := id g2.eng
          dsimp only at h2
          obtain ⟨w2, rfl⟩ : ∃ q, q = wc := ⟨_, rfl⟩
          have HG := hid g2
          have HE := hid h2
          clear g2 h2 e1 k2 hq1 hq2
          cases b with
          | true =>
            have hm := HM.out
            simp only [Option.some.injEq, Prod.mk.injEq] at hm
            obtain ⟨rfl, -⟩ := hm
            clear HM
            go_wp2_with fail
            exact bodyPost_end (results_none rfl _ _ _) rfl ⟨rfl, _, HG.out⟩
          | false =>
            obtain ⟨stm, rfl⟩ : ∃ q, q = st1 := ⟨_, rfl⟩
            have HM : Hid ((if stm.cycle = true then some (stm, ()) else (step stm k).map fun x => (x.1, ())) = some (st', ())) := HM
            cases hcy : stm.cycle with
            | true =>
              have hm := HM.out
              rw [if_pos hcy] at hm
              simp only [Option.some.injEq, Prod.mk.injEq] at hm
              obtain ⟨rfl, -⟩ := hm
              have e8 := HE.out.e8
              rw [hcy] at e8
              clear hcy HM
              go_wp2_with fail
              refine bodyPost_end (results_none rfl _ _ _) rfl ⟨rfl, _, HG.out⟩
            | false =>
              have hm := HM.out
              rw [if_neg (by rw [hcy]; simp)] at hm
              cases hst : step stm k with
              | none => rw [hst] at hm; cases hm
              | some y =>
                obtain ⟨st9, s9⟩ := y
                rw [hst] at hm
                simp only [Option.map_some, Option.some.injEq, Prod.mk.injEq] at hm
                obtain ⟨rfl, -⟩ := hm
                have e8 := HE.out.e8
                rw [hcy] at e8
                have HST := hid hst
                clear hcy HM hst
                go_wp2_with fail
                refine (HS.out w2 _ stm k _ _ HE.out.at_ (HR.out.got HG.out) HK.out HST.out).mono ?_
                rintro e w9 ⟨rfl, -, p9, g9⟩
                have HG9 := hid (HG.out.trans g9)
                clear g9
                go_wp2_with fail
                refine bodyPost_end (results_none rfl _ _ _) rfl ⟨rfl, _, HG9.out⟩
end Go.Proofs.Ytfkedhclhmbpfaa
