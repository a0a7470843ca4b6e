/-
  The engine's functions as they are asked from outside: Ask.
-/
import Derived.Test.YtfkedhclhmbpfaaAsk
namespace Go.Proofs.Ytfkedhclhmbpfaa
open Go.RowKit Go.Maps
set_option linter.unusedVariables false
set_option linter.unusedSimpArgs false

theorem turned_up (rs : List Rule) (n : Nat) : turnedM rs (n + 1) = turnedUp (stepM rs (askM rs n)) (turnedM rs n) := by
  funext st k
  rw [turnedM]
  rfl
theorem ask_up (rs : List Rule) (n : Nat) : askM rs (n + 1) = askUp (stepM rs (askM rs n)) (turnedM rs n) := by
  funext st k
  rw [askM]
  rfl
theorem both_any (L : Lay) (A : Option Addr) (rs : List Rule) (cap : Nat) (n : Nat) : TurnedOK L (rvOf A rs cap) A rs (turnedM rs n) ∧ AskOK L (rvOf A rs cap) A rs (askM rs n) := by
  induction n with
  | zero =>
    refine ⟨?_, ?_⟩
    · intro w p st k st' t _ _ _ hm
      rw [turnedM] at hm
      cases hm
    · intro w p st k st' t _ _ _ hm
      rw [askM] at hm
      cases hm
  | succ n ih =>
    have hs := step_any L A rs cap (askM rs n) ih.2
    rw [turned_up, ask_up]
    exact ⟨turned_any L _ A rs _ _ hs ih.1, ask_any L _ A rs _ _ hs ih.1⟩

set_option maxHeartbeats 1000000 in
theorem Ask_any (L : Lay) (A : Option Addr) (rs : List Rule) (cap : Nat) (n : Nat) (w : World) (p : Fp) (st : St) (k : Int) (st' : St) (s : ByteArray) (er : Int) (h : EngAt w L p (rvOf A rs cap) st) (hR : RulesAt w p.F A rs) (hk : ok k) (hm : askTop rs n st k = some (st', s, er)) :
    Calls Try.prog 14 #[En L, enc k] w fun e w' => e = .returned (.tuple #[.string s, .int .i64 er]) ∧ s.size ≤ 1000000 ∧ Left L p (rvOf A rs cap) w st st' w' := by
  obtain ⟨loc, wF, uF, F⟩ := p
  obtain ⟨av, h⟩ := h
  dsimp only at h hR
  unfold askTop at hm
  cases ha : askM rs n { st with cycle := false } k with
  | none => rw [ha] at hm; cases hm
  | some y =>
    obtain ⟨st1, t⟩ := y
    rw [ha] at hm
    simp only [Option.some.injEq] at hm
    have e8 := h.e8
    have f8 := h.f 8
    obtain ⟨w1, hw1⟩ : ∃ w1, w.setCell ⟨L.eb, 8, none⟩ (.bool false) = w1 := ⟨_, rfl⟩
    have hS : Chg (fun x => x = L.eb) w w1 := by rw [← hw1]; exact (Chg.refl (fun x => x = L.eb) w).setCell (p := ⟨L.eb, 8, none⟩) rfl _
    have g1 := h.gotOwn (st' := { st with cycle := false }) hS (by rw [← hw1]; exact h.eng.set_ 8 _) rfl rfl rfl rfl rfl rfl rfl rfl rfl h.rev0 h.rev1
    have HC := hid ((both_any L A rs cap n).2 w1 ⟨loc, wF, uF, F⟩ _ k st1 t g1.eng (hR.got g1) hk ha)
    have HG1 := hid g1
    have HM := hid hm
    have HW := hid hw1
    clear h hR hm ha hS g1 hw1 hk
    go_enter Try.func14, Try.ntmps14
    go_wp2_with fail
    rw [show w.setCell ⟨L.eb, 8, none⟩ (.bool false) = w1 from HW.out]
    refine HC.out.mono ?_
    rintro e w2 ⟨rfl, hts, p2, g2⟩
    obtain ⟨av2, h2⟩ := id g2.eng
    have e8 := h2.e8
    have HG2 := hid (HG1.out.trans g2)
    clear g2 h2
    cases hcy : st1.cycle with
    | true =>
      have hm := HM.out
      rw [if_pos hcy] at hm
      simp only [Prod.mk.injEq] at hm
      obtain ⟨rfl, rfl, rfl⟩ := hm
      rw [hcy] at e8
      clear hcy HM
      go_wp2_with fail
      go_ret2
      exact ⟨rfl, Nat.zero_le _, _, HG2.out⟩
    | false =>
      have hm := HM.out
      rw [if_neg (by rw [hcy]; simp)] at hm
      simp only [Prod.mk.injEq] at hm
      obtain ⟨rfl, rfl, rfl⟩ := hm
      rw [hcy] at e8
      clear hcy HM
      go_wp2_with fail
      go_ret2
      exact ⟨rfl, hts, _, HG2.out⟩
theorem Ask_nil (w : World) (k : Int) : Calls Try.prog 14 #[.pointer none, enc k] w fun e w' => e = .returned (.tuple #[.string noBytes, .int .i64 2]) ∧ w = w' := by
  go_enter Try.func14, Try.ntmps14
  go_wp2_with fail
  go_ret2
  exact ⟨rfl, rfl⟩
end Go.Proofs.Ytfkedhclhmbpfaa
