/-
  The engine's Budget, Forget, New.
-/
import Derived.Test.YtfkedhclhmbpfaaSet
import Derived.Outline
namespace Go.Proofs.Ytfkedhclhmbpfaa
open Go.RowKit Go.Maps
set_option linter.unusedVariables false
set_option linter.unusedSimpArgs false

theorem Budget_nil (w : World) (n : Int) : Calls Try.prog 17 #[.pointer none, .int .i64 n] w fun e w' => e = .returned (.int .i64 2) ∧ w = w' := by
  go_enter Try.func17, Try.ntmps17
  go_wp2_with fail
  go_ret
  exact ⟨rfl, rfl⟩
theorem Budget_bad (w : World) (L : Lay) (n : Int) (hn : n < 0 ∨ 1099511627776 < n) : Calls Try.prog 17 #[En L, .int .i64 n] w fun e w' => e = .returned (.int .i64 1) ∧ Chg (fun _ => False) w w' := by
  have HN := hid hn
  clear hn
  go_enter Try.func17, Try.ntmps17
  go_wp2_with fail
  refine (LE.new_no n w HN.out).mono ?_
  rintro e w1 ⟨rfl, g1⟩
  go_wp2_with fail
  go_ret
  exact ⟨rfl, g1⟩

set_option maxRecDepth 100000 in
set_option maxHeartbeats 4000000 in
theorem Budget_any (w : World) (L : Lay) (p : Fp) (rv : Value) (st : St) (n : Int) (st' : St) (h : EngAt w L p rv st) (h0 : 0 ≤ n) (h1 : n ≤ 1099511627776) (hm : budgetM st n = some st') :
    Calls Try.prog 17 #[En L, .int .i64 n] w fun e w' => e = .returned (.int .i64 0) ∧ Kept L p rv w st' w' := by
  have HH := hid h
  have HM := hid hm
  clear h hm
  go_enter Try.func17, Try.ntmps17
  go_wp2_with fail
  refine (LE.new_ok n w h0 h1).mono ?_
  rintro e w1 ⟨rfl, -, g1, -⟩
  have HG1 := hid ((Got.refl HH.out).mono g1)
  clear g1
  go_wp2_with fail
  go_loopg [7, 8] (st.used.length + 1) (fun g u7 u8 wx => ∃ stj pj, Got L rv p w st pj wx stj ∧ budgetGo g stj n = some st')
  case atStart => exact ⟨st, p, HG1.out, HM.out⟩
  case round =>
    obtain ⟨stj, ⟨locj, wFj, uFj, Fj⟩, hg, hb⟩ := hrel
    have HG := hid hg
    have HB := hid hb
    clear hg hb HG1 HM
    obtain ⟨avj, hj⟩ := id HG.out.eng
    dsimp only at hj
    have e5 := hj.e5
    have e6 := hj.e6
    have HJ := hid hj
    clear hj
    cases gk with
    | zero => exact absurd HB.out (by simp [budgetGo])
    | succ f =>
      by_cases hc : stj.charged ≤ n
      · have hb := HB.out
        unfold budgetGo at hb
        rw [if_pos hc] at hb
        have HST := hid (Option.some.inj hb)
        have HC := hid hc
        clear hb hc
        go_wp2_with fail
        refine (LE.set_ok L.lb n stj.budget stj.charged stj.high _ HJ.out.led HJ.out.led0 h1 HC.out).mono ?_
        rintro e w2 ⟨rfl, ha⟩
        have HG2 := hid (HG.out.trans (HJ.out.gotLedger ha HJ.out.led0 HC.out h1 HJ.out.led3 HJ.out.led4))
        clear ha
        go_wp2_with fail
        go_ret
        have hl : Left L p rv w st _ w2 := ⟨_, HG2.out⟩
        rw [HST.out] at hl
        exact ⟨rfl, hl.kept⟩
      · have hne : ∃ l stn, stj.used.getLast? = some l ∧ dropM stj l = some stn ∧ budgetGo f stn n = some st' := by
          have hb := HB.out
          unfold budgetGo at hb
          rw [if_neg hc] at hb
          cases hl : stj.used.getLast? with
          | none => rw [hl] at hb; cases hb
          | some l =>
            rw [hl] at hb
            simp only at hb
            cases hd : dropM stj l with
            | none => rw [hd] at hb; cases hb
            | some stn => rw [hd] at hb; exact ⟨l, stn, rfl, hd, hb⟩
        obtain ⟨l, stn, hl, hd, hr⟩ := hne
        have hmem : l ∈ stj.used := List.mem_of_getLast? hl
        have HL := hid hl
        have HD := hid hd
        have HR := hid hr
        have HMEM := hid hmem
        have HC : Hid (n < stj.charged) := hid (by omega)
        have hus := HJ.out.usd
        clear hc hl hd hr hmem
        go_wp2_with fail
        refine (LE.set_no' L.lb n stj.budget stj.charged stj.high _ HJ.out.led HJ.out.led0 HJ.out.led1 HJ.out.led2 4 (.inr (.inr ⟨h0, HC.out, rfl⟩))).mono ?_
        rintro e w2 ⟨rfl, ha⟩
        have hg2 := HJ.out.gotLedger ha HJ.out.led0 HJ.out.led1 HJ.out.led2 HJ.out.led3 HJ.out.led4
        obtain ⟨av2, h2⟩ := id hg2.eng
        dsimp only at h2
        have e6 := h2.e6
        have hus2 := h2.usd
        have HG2 := hid (HG.out.trans hg2)
        clear ha hg2 h2 hus e5
        go_wp2_with fail
        refine (LI.last_any _ _ _ _ hus2).mono ?_
        rintro e w3 ⟨rfl, hc3⟩
        have HG3 := hid (HG2.out.mono hc3)
        clear hc3 hus2 e6
        rw [HL.out]
        rw [show LI.lastV (some l) = .tuple #[enc l, .bool true] from rfl]
        go_wp2_with fail
        refine (drop_any w3 L _ rv _ l stn HG3.out.eng (used_ok HG.out.eng HMEM.out) HD.out).mono ?_
        rintro e w4 ⟨rfl, p4, g4⟩
        have HG4 := hid (HG3.out.trans g4)
        clear g4
        go_wp2_with fail
        go_roundg f
        case measure => omega
        case rel => exact ⟨stn, p4, HG4.out, HR.out⟩

theorem Forget_nil (w : World) : Calls Try.prog 18 #[.pointer none] w fun e w' => e = .returned (.tuple #[]) ∧ w = w' := by
  go_enter Try.func18, Try.ntmps18
  go_wp2_with fail
  exact bodyPost_ret (results_none rfl _ _ _) rfl ⟨rfl, rfl⟩

set_option maxRecDepth 100000 in
set_option maxHeartbeats 4000000 in
theorem Forget_any (w : World) (L : Lay) (p : Fp) (rv : Value) (st : St) (st' : St) (h : EngAt w L p rv st) (hm : forgetM st = some st') :
    Calls Try.prog 18 #[En L] w fun e w' => e = .returned (.tuple #[]) ∧ Kept L p rv w st' w' := by
  obtain ⟨loc, wF, uF, F⟩ := p
  obtain ⟨av, h⟩ := h
  dsimp only at h
  have e6 := h.e6
  have hus := h.usd
  have HH := hid h
  have HM := hid hm
  have hul : st.used.length ≤ 100000 := by
    obtain ⟨⟨g, cap, mb, N, ky, nx, pv, fv, ps, fr, f, hmm⟩, _⟩ := hus
    have h1 := hmm.count
    have h2 := hmm.few
    rw [← hmm.keys, List.length_map]
    omega
  clear h hm
  go_enter Try.func18, Try.ntmps18
  go_wp2_with fail
  refine (LI.keys_any _ _ _ _ hus).mono ?_
  rintro e w1 ⟨g, rfl, hg, hB, g1⟩
  have HG1 := hid ((Got.refl HH.out.at_).mono g1)
  have HB := hid hB
  have HGF : Hid (¬ F g) := hid (fun hf => by have := HH.out.lt g hf; omega)
  have HOK := hid hus.good
  clear hB hg g1 e6 hus
  go_wp2_with fail
  go_loopw [3, 12] (fun u3 i wx => ∃ (j : Nat) (stj : St) (pj : Fp), j ≤ st.used.length ∧ i = .int .i64 j ∧ Got L rv ⟨loc, wF, uF, F⟩ w1 st pj wx stj ∧ forgetGo (st.used.drop j) stj = some st') (fun _ i _ => st.used.length - (intOf i).toNat)
  case atStart => exact ⟨0, st, _, Nat.zero_le _, rfl, Got.refl HG1.out.eng, HM.out⟩
  case round =>
    obtain ⟨j, stj, pj, hj, rfl, hgot, hgo⟩ := hrel
    have HG := hid hgot
    have HGO := hid hgo
    clear hgot hgo
    by_cases hlt : j < st.used.length
    · have hbw := HG.out.chg.blk HB.out HGF.out
      have hdr : st.used.drop j = st.used[j] :: st.used.drop (j + 1) := List.drop_eq_getElem_cons hlt
      have e0 : wr.cell? ⟨g, j, none⟩ = some (.int .i64 st.used[j]) := by
        rw [hbw.cell]
        simp [hlt, LI.enc]
      have hok := HOK.out st.used[j] (List.getElem_mem hlt)
      obtain ⟨d, hd⟩ : ∃ d, d = st.used[j] := ⟨_, rfl⟩
      rw [← hd] at hdr e0 hok
      have hgo := HGO.out
      rw [hdr] at hgo
      unfold forgetGo at hgo
      cases hdm : dropM stj d with
      | none => rw [hdm] at hgo; cases hgo
      | some stn =>
        rw [hdm] at hgo
        have HGO2 := hid hgo
        have HDM := hid hdm
        have HOKD : Hid (ok d) := hid hok
        clear hgo hdm hok hd hdr hbw HGO
        go_wp2_with fail
        refine (drop_any wr L _ rv stj d stn HG.out.eng HOKD.out HDM.out).mono ?_
        rintro e w4 ⟨rfl, p4, g4⟩
        have HG4 := hid (HG.out.trans g4)
        clear g4 e0
        go_wp2_with fail
        go_roundw
        case rel => exact ⟨j + 1, stn, p4, by omega, by go_num, HG4.out, HGO2.out⟩
        case measure => simp [intOf]; omega
    · have hje : j = st.used.length := by omega
      have hgo := HGO.out
      rw [hje, List.drop_length] at hgo
      unfold forgetGo at hgo
      have HST := hid (Option.some.inj hgo)
      clear hgo hje HGO
      go_wp2_with fail
      have hl : Left L ⟨loc, wF, uF, F⟩ rv w st _ wr := ⟨_, HG1.out.trans HG.out⟩
      rw [HST.out] at hl
      exact bodyPost_end (results_none rfl _ _ _) rfl ⟨rfl, hl.kept⟩
end Go.Proofs.Ytfkedhclhmbpfaa
