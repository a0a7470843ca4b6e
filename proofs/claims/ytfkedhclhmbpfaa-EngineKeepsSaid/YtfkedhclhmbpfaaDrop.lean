/-
  The engine's drop.
-/
import Derived.Test.YtfkedhclhmbpfaaSml
import Derived.Deep.DeepCutAuto
import Derived.Deep.RegionHeld3
import Derived.Deep.LoopGhost
import Derived.Outline
namespace Go.Proofs.Ytfkedhclhmbpfaa
open Go.RowKit Go.Maps
set_option linter.unusedVariables false
set_option linter.unusedSimpArgs false

theorem zeroP (w : World) : (zeroValue 92).run Try.prog w = .ok (.pointer none) w := by kernel_rfl
theorem zeroB (w : World) : (zeroValue 4).run Try.prog w = .ok (.bool false) w := by kernel_rfl
theorem zeroN (w : World) : (zeroValue 71).run Try.prog w = .ok (inV (noBytes, 0)) w := by kernel_rfl
abbrev keyK : KeyOfT Try.prog 3 enc ok := LI.keyK
abbrev En (L : Lay) : Value := .pointer (some ⟨L.eb, 0, none⟩)

theorem look_cell {w : World} {L : Lay} {loc : Int → Nat} {av : Int → Value} {wF uF F : Nat → Prop} {rv : Value} {st : St} (h : EngP w L loc av wF uF F rv st) {k : Int} (hk : ok k) {c : Cell} (hc : st.cells k = some c) :
    (Instr.lookup 60 (.map (some L.cm)) (enc k) false).run Try.prog w = .ok (.pointer (some ⟨loc k, 0, none⟩)) w := by
  have := h.cls.look keyK Try.underlying60 (zeroP w) false hk
  simpa [cellF, hc] using this
theorem look_none {w : World} {L : Lay} {loc : Int → Nat} {av : Int → Value} {wF uF F : Nat → Prop} {rv : Value} {st : St} (h : EngP w L loc av wF uF F rv st) {k : Int} (hk : ok k) (hc : st.cells k = none) :
    (Instr.lookup 60 (.map (some L.cm)) (enc k) false).run Try.prog w = .ok (.pointer none) w := by
  have := h.cls.look keyK Try.underlying60 (zeroP w) false hk
  simpa [cellF, hc] using this

set_option maxHeartbeats 1000000 in
theorem drop_any (w : World) (L : Lay) (p : Fp) (rv : Value) (st : St) (k : Int) (st' : St) (h : EngAt w L p rv st) (hk : ok k) (hm : dropM st k = some st') :
    Calls Try.prog 22 #[En L, enc k] w fun e w' => e = .returned (.tuple #[]) ∧ Left L p rv w st st' w' := by
  obtain ⟨loc, wF, uF, F⟩ := p
  obtain ⟨av, h⟩ := h
  dsimp only at h
  have e6 := h.e6
  unfold dropM at hm
  by_cases hu : k ∈ st.used
  · rw [if_pos hu] at hm
    cases hc : st.cells k with
    | none => rw [hc] at hm; cases hm
    | some c =>
      rw [hc] at hm
      simp only at hm
      split at hm
      · rename_i hcost
        obtain rfl := (Option.some.inj hm).symm
        clear hm
        have HC := hid hc
        have HK := hid hk
        have HH := hid h
        have hsz := h.celt k c hc
        have hlu := h.usd
        clear h hc hk
        go_enter Try.func22, Try.ntmps22
        go_wp2_with fail
        refine (LI.drop_some _ _ _ _ k hlu hu).mono ?_
        rintro e w1 ⟨rfl, hl1, hc1⟩
        have h1 := HH.out.use hl1 hc1
        have e3 := h1.e3
        have hlook := look_cell h1 HK.out (c := c) HC.out
        have e5 := h1.e5
        have k5 := h1.k5 (c := c) HC.out
        have H1 := hid h1
        have G1 := hid (HH.out.gotUse hl1 hc1)
        clear hl1 hc1 h1 hu e6 hlu
        go_wp2_with fail
        go_upto_region 2 with fail
        go_cut [27] (fun v wx => LE.After L.lb st.budget (st.charged - cost c.s) st.high w1 wx)
        case first =>
          go_region_with (first
            | (go_at_call 32; refine (cost_any _ c.s hsz).mono ?_; rintro e w' ⟨rfl, rfl⟩)
            | (go_at_call 31; refine (LE.refund_ok L.lb (cost c.s) st.budget st.charged st.high _ (by first | exact H1.out.led | exact H1.out.led.drew) H1.out.led0 H1.out.led1 H1.out.led2 (by unfold cost; omega) hcost).mono ?_; rintro e w2 ⟨rfl, ha⟩))
          all_goals (go_wp2_with fail; go_meet; exact ⟨ha.1, ((Chg.refl _ _).drew).trans ha.2.1, ha.2.2⟩)
        case rest =>
          have hld := H1.out.gotLedger hcut (by have := H1.out.led0; simp only at *; omega) (by have := H1.out.led1; unfold cost at *; simp only at *; omega) H1.out.led2 H1.out.led3 H1.out.led4
          have h2 := H1.out.ledger hcut (by have := H1.out.led0; simp only at *; omega) (by have := H1.out.led1; unfold cost at *; simp only at *; omega) H1.out.led2 H1.out.led3 H1.out.led4
          have f4 := h2.kf (c := c) HC.out 4
          have f5 := h2.kf (c := c) HC.out 5
          have k4 := h2.k4 (c := c) HC.out
          have k5' := h2.k5 (c := c) HC.out
          have H2 := hid h2
          have G2 := hid (G1.out.trans hld)
          clear h2 hld hcut e3 e5 k5 hlook
          go_wp2_with fail
          have hS : Chg (fun x => x = loc k) wc ((wc.setCell ⟨loc k, 4, none⟩ (.bool false)).setCell ⟨loc k, 5, none⟩ (.string noBytes)) := ((Chg.refl (fun x => x = loc k) wc).setCell (p := ⟨loc k, 4, none⟩) rfl _).setCell (p := ⟨loc k, 5, none⟩) rfl _
          have hb := ((H2.out.cel k c HC.out).1.set_ 4 (.bool false)).set_ 5 (.string noBytes)
          have h3 := H2.out.gotCell (c := { c with has := false, s := noBytes }) HC.out hS hb rfl (Nat.zero_le _)
          exact bodyPost_end (results_none rfl _ _ _) rfl ⟨rfl, _, G2.out.trans h3⟩
      · cases hm
  · rw [if_neg hu] at hm
    obtain rfl := Option.some.inj hm
    have hl := h.usd
    have HH := hid h
    clear h hm
    go_enter Try.func22, Try.ntmps22
    go_wp2_with fail
    refine (LI.drop_none _ _ _ _ k hl hu hk).mono ?_
    rintro e w1 ⟨rfl, rfl⟩
    go_wp2_with fail
    refine bodyPost_ret (results_none rfl _ _ _) rfl ?_
    exact ⟨rfl, _, Got.refl HH.out.at_⟩
end Go.Proofs.Ytfkedhclhmbpfaa
