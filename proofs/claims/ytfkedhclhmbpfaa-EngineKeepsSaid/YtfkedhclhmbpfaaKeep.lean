/-
  The engine's keep.
-/
import Derived.Test.YtfkedhclhmbpfaaDrop
import Derived.Outline
namespace Go.Proofs.Ytfkedhclhmbpfaa
open Go.RowKit Go.Maps
set_option linter.unusedVariables false
set_option linter.unusedSimpArgs false

theorem fits_yes (b : Nat) (n B C H : Int) (w : World) (h : LE.Led w b B C H) (hB0 : 0 ≤ C) (hCB : C ≤ B) (hB : B ≤ 1099511627776) (h0 : 0 ≤ n) (hn : n ≤ B - C) :
    Calls Try.prog 52 #[.pointer (some ⟨b, 0, none⟩), .int .i64 n] w fun e w' => e = .returned (.bool true) ∧ Chg (fun _ => False) w w' := by
  refine (LE.fits_any b n B C H w h hB0 hCB hB).mono ?_
  rintro e w' ⟨rfl, k, rfl⟩
  refine ⟨?_, (Chg.refl _ _).drewN k⟩
  unfold LE.mayE
  rw [if_neg (by omega), if_neg (by omega)]
  rfl
theorem fits_not (b : Nat) (n B C H : Int) (w : World) (h : LE.Led w b B C H) (hB0 : 0 ≤ C) (hCB : C ≤ B) (hB : B ≤ 1099511627776) (h0 : 0 ≤ n) (hn : B - C < n) :
    Calls Try.prog 52 #[.pointer (some ⟨b, 0, none⟩), .int .i64 n] w fun e w' => e = .returned (.bool false) ∧ Chg (fun _ => False) w w' := by
  refine (LE.fits_any b n B C H w h hB0 hCB hB).mono ?_
  rintro e w' ⟨rfl, k, rfl⟩
  refine ⟨?_, (Chg.refl _ _).drewN k⟩
  unfold LE.mayE
  rw [if_neg (by omega), if_pos (by omega)]
  rfl
theorem getLast_lastV (l : List Int) : (l.getLast? = none ∧ LI.lastV l.getLast? = .tuple #[enc 0, .bool false]) ∨ ∃ x, l.getLast? = some x ∧ LI.lastV l.getLast? = .tuple #[enc x, .bool true] := by
  cases h : l.getLast? with
  | none => exact .inl ⟨rfl, rfl⟩
  | some x => exact .inr ⟨x, rfl, rfl⟩
theorem used_ok {w : World} {L : Lay} {p : Fp} {rv : Value} {st : St} (h : EngAt w L p rv st) {k : Int} (hk : k ∈ st.used) : ok k := by
  obtain ⟨av, h⟩ := h
  exact h.usd.good k hk

set_option maxHeartbeats 4000000 in
theorem keep_any (w : World) (L : Lay) (p : Fp) (rv : Value) (st : St) (k : Int) (c : Cell) (s : ByteArray) (st' : St) (h : EngAt w L p rv st) (hk : ok k) (hc : st.cells k = some c) (hs : s.size ≤ 1000000) (hm : keepM st k s = some st') :
    Calls Try.prog 48 #[En L, enc k, .pointer (some ⟨p.loc k, 0, none⟩), .string s] w fun e w' => e = .returned (.tuple #[]) ∧ Left L p rv w st st' w' := by
  unfold keepM at hm
  cases hd : dropM st k with
  | none => rw [hd] at hm; cases hm
  | some st1 =>
    rw [hd] at hm
    simp only at hm
    have HD := hid hd
    have HC := hid hc
    have HM := hid hm
    have HH := hid h
    have HK := hid hk
    clear hd hc hm h hk
    go_enter Try.func48, Try.ntmps48
    go_wp2_with fail
    refine (drop_any w L p rv st k st1 HH.out HK.out HD.out).mono ?_
    rintro e w1 ⟨rfl, p1, g1⟩
    have G1 := hid g1
    cases hr : roomM (st1.used.length + 1) st1 (cost s) with
    | none => have := HM.out; rw [hr] at this; cases this
    | some x =>
      obtain ⟨st2, b⟩ := x
      have HR := hid hr
      have HM2 : Hid (keptM st2 b k s = some st') := hid (by
        have := HM.out
        rw [hr] at this
        exact this)
      clear hr g1 HM
      go_wp2_with fail
      go_loopg [8, 9] (st1.used.length + 1) (fun g u8 u9 wx => ∃ stj pj, Got L rv p w st pj wx stj ∧ roomM g stj (cost s) = some (st2, b))
      case atStart => exact ⟨st1, p1, G1.out, HR.out⟩
      case round =>
        obtain ⟨stj, ⟨locj, wFj, uFj, Fj⟩, hgot, hroom⟩ := hrel
        have HG := hid hgot
        have HRM := hid hroom
        clear hgot hroom HR G1
        obtain ⟨avj, hj⟩ := id HG.out.eng
        dsimp only at hj
        have e5 := hj.e5
        have e6 := hj.e6
        have HJ := hid hj
        clear hj
        cases gk with
        | zero => exact absurd HRM.out (by simp [roomM])
        | succ f =>
          have hp : 0 ≤ cost s := by unfold cost; omega
          by_cases hfit : cost s ≤ stj.budget - stj.charged
          · have hroom : st2 = stj ∧ b = true := by
              have := HRM.out
              unfold roomM at this
              rw [if_pos hfit] at this
              simp only [Option.some.injEq, Prod.mk.injEq] at this
              exact ⟨this.1.symm, this.2.symm⟩
            obtain ⟨rfl, rfl⟩ := hroom
            have HFIT := hid hfit
            have HP := hid hp
            clear hfit hp
            go_upto_region 1 with fail
            go_cut [20] (fun v wx => v = .bool false ∧ Chg (fun _ => False) wr wx)
            case first =>
              go_region_with (first
                | (go_at_call 32; refine (cost_any _ s hs).mono ?_; rintro e w' ⟨rfl, rfl⟩)
                | (go_at_call 52; refine (fits_yes L.lb (cost s) st2.budget st2.charged st2.high _ (by first | exact HJ.out.led | exact HJ.out.led.drew) HJ.out.led0 HJ.out.led1 HJ.out.led2 HP.out (by have := HFIT.out; omega)).mono ?_; rintro e w2 ⟨rfl, ha⟩))
              all_goals (go_wp2_with fail; go_meet; exact ⟨rfl, ((Chg.refl _ _).drew).trans ha⟩)
            case rest =>
              obtain ⟨rfl, hc⟩ := hcut
              cases hce : st2.cells k with
              | none => exact absurd HM2.out (by unfold keptM; rw [if_pos rfl, hce]; simp)
              | some c2 =>
                have hm3 : useM { st2 with charged := st2.charged + cost s, high := max st2.high (st2.charged + cost s), cells := setF st2.cells k (some { c2 with has := true, s := s }) } k = some st' := by
                  have := HM2.out
                  unfold keptM at this
                  rw [if_pos rfl, hce] at this
                  exact this
                unfold useM at hm3
                split at hm3
                · rename_i hul
                  obtain rfl := (Option.some.inj hm3).symm
                  have HCE := hid hce
                  have HUL : Hid (st2.used.length ≤ 90000) := hid hul
                  have hjc := HJ.out.mono hc
                  have e5 := hjc.e5
                  have HJC := hid hjc
                  have HC1 := hid hc
                  have hlk : locj k = p.loc k := (HG.out.loc k (by rw [HC.out]; rfl)).2
                  have HLK := hid hlk
                  clear hm3 hul hce hc hjc hlk
                  go_upto_region 5 with fail
                  go_cut [40] (fun v wx => LE.After L.lb st2.budget (st2.charged + cost s) (max st2.high (st2.charged + cost s)) wc wx)
                  case first =>
                    go_region_with (first
                      | (go_at_call 32; refine (cost_any _ s hs).mono ?_; rintro e w' ⟨rfl, rfl⟩)
                      | (go_at_call 53; refine (LE.charge_ok L.lb (cost s) st2.budget st2.charged st2.high _ (by first | exact HJC.out.led | exact HJC.out.led.drew) HJ.out.led0 HJ.out.led1 HJ.out.led2 HJ.out.led3 HJ.out.led4 HP.out (by have := HFIT.out; omega)).mono ?_; rintro e w2 ⟨rfl, ha⟩))
                    all_goals (go_wp2_with fail; go_meet; exact ⟨ha.1, ((Chg.refl _ _).drew).trans ha.2.1, ha.2.2⟩)
                  case rest =>
                    have hh := HFIT.out
                    have hp := HP.out
                    have h4 := HJC.out.ledger hcut (by have := HJ.out.led0; omega) (by omega) HJ.out.led2 (by have := HJ.out.led3; omega) (by have := HJ.out.led2; have := HJ.out.led4; omega)
                    have GA := hid (HJC.out.gotLedger hcut (by have := HJ.out.led0; omega) (by omega) HJ.out.led2 (by have := HJ.out.led3; omega) (by have := HJ.out.led2; have := HJ.out.led4; omega))
                    have e6 := h4.e6
                    have hus := h4.usd
                    have H4 := hid h4
                    clear hh hp h4 hcut e5
                    go_wp2_with fail
                    refine (LI.use_any _ _ _ _ k hus HK.out (by have := HUL.out; show st2.used.length ≤ 99990; omega)).mono ?_
                    rintro e w6 ⟨rfl, hl6, hc6⟩
                    have h6 := H4.out.use hl6 hc6
                    have f4 := h6.kf (k := k) (c := c2) HCE.out 4
                    have f5 := h6.kf (k := k) (c := c2) HCE.out 5
                    have k4 := h6.k4 (k := k) (c := c2) HCE.out
                    have k5 := h6.k5 (k := k) (c := c2) HCE.out
                    rw [HLK.out] at f4 f5 k4 k5
                    have H6 := hid h6
                    have G6 := hid ((GA.out.trans (H4.out.gotUse hl6 hc6)))
                    clear h6 hl6 hc6 e6 hus
                    go_wp2_with fail
                    have hS : Chg (fun x => x = p.loc k) w6 ((w6.setCell ⟨p.loc k, 4, none⟩ (.bool true)).setCell ⟨p.loc k, 5, none⟩ (.string s)) := ((Chg.refl (fun x => x = p.loc k) w6).setCell (p := ⟨p.loc k, 4, none⟩) rfl _).setCell (p := ⟨p.loc k, 5, none⟩) rfl _
                    have hb := (((H6.out.cel k c2 HCE.out).1.set_ 4 (.bool true)).set_ 5 (.string s))
                    rw [HLK.out] at hb
                    have h7 := H6.out.gotCell (c := { c2 with has := true, s := s }) HCE.out (by rw [HLK.out]; exact hS) (by rw [HLK.out]; exact hb) rfl hs
                    exact bodyPost_end (results_none rfl _ _ _) rfl ⟨rfl, _, ((HG.out.mono HC1.out).trans G6.out).trans h7⟩
                · cases hm3
          · have hne : ∀ l, stj.used.getLast? = some l → ∃ stn, dropM stj l = some stn ∧ roomM f stn (cost s) = some (st2, b) := by
              intro l hl
              have := HRM.out
              unfold roomM at this
              rw [if_neg hfit, hl] at this
              simp only at this
              cases hd : dropM stj l with
              | none => rw [hd] at this; cases this
              | some stn => rw [hd] at this; exact ⟨stn, rfl, this⟩
            have hno : stj.used.getLast? = none → st2 = stj ∧ b = false := by
              intro hl
              have := HRM.out
              unfold roomM at this
              rw [if_neg hfit, hl] at this
              simp only [Option.some.injEq, Prod.mk.injEq] at this
              exact ⟨this.1.symm, this.2.symm⟩
            have HNE := hid hne
            have HNO := hid hno
            have HFIT := hid hfit
            have HP := hid hp
            clear hfit hp hne hno
            go_upto_region 1 with fail
            go_cut [20] (fun v wx => v = .bool true ∧ Chg (fun _ => False) wr wx)
            case first =>
              go_region_with (first
                | (go_at_call 32; refine (cost_any _ s hs).mono ?_; rintro e w' ⟨rfl, rfl⟩)
                | (go_at_call 52; refine (fits_not L.lb (cost s) stj.budget stj.charged stj.high _ (by first | exact HJ.out.led | exact HJ.out.led.drew) HJ.out.led0 HJ.out.led1 HJ.out.led2 HP.out (by have := HFIT.out; omega)).mono ?_; rintro e w2 ⟨rfl, ha⟩))
              all_goals (go_wp2_with fail; go_meet; exact ⟨rfl, ((Chg.refl _ _).drew).trans ha⟩)
            case rest =>
              obtain ⟨rfl, hc⟩ := hcut
              have hjc := HJ.out.mono hc
              have e6 := hjc.e6
              have hus := hjc.usd
              have HC1 := hid hc
              have HJC := hid hjc
              clear hc hjc e5
              go_wp2_with fail
              refine (LI.last_any _ _ _ _ hus).mono ?_
              rintro e w3 ⟨rfl, hc3⟩
              have hg3 := HG.out.mono (HC1.out.trans hc3)
              have HG3 := hid hg3
              clear hc3 hg3 e6
              rcases getLast_lastV stj.used with ⟨hl, hv⟩ | ⟨l, hl, hv⟩
              · obtain ⟨rfl, rfl⟩ := HNO.out hl
                rw [hv]
                clear hv hl hus
                have hst : st2 = st' := by
                  have := HM2.out
                  unfold keptM at this
                  simpa using this
                have HST := hid hst
                clear hst
                go_wp2_with fail
                refine bodyPost_ret (results_none rfl _ _ _) rfl ⟨rfl, ⟨locj, wFj, uFj, Fj⟩, ?_⟩
                rw [← HST.out]
                exact HG3.out
              · obtain ⟨stn, hd, hr2⟩ := HNE.out l hl
                rw [hv]
                have HD2 := hid hd
                have HR2 := hid hr2
                have hmem : l ∈ stj.used := List.mem_of_getLast? hl
                have HMEM := hid hmem
                clear hv hl hus hd hr2 hmem
                go_wp2_with fail
                refine (drop_any w3 L _ rv stj l stn HG3.out.eng (used_ok HG.out.eng HMEM.out) HD2.out).mono ?_
                rintro e w4 ⟨rfl, p4, g4⟩
                have hg4 := HG3.out.trans g4
                have HG4 := hid hg4
                clear g4 hg4
                go_wp2_with fail
                go_roundg f
                case measure => omega
                case rel => exact ⟨stn, p4, HG4.out, HR2.out⟩
end Go.Proofs.Ytfkedhclhmbpfaa
