/-
  The contracts of the ledger's functions.
-/
import Derived.Test.YtfkedhclhmbpfaaRows
import Derived.Test.YtfkedhclhmbpfaaBlk
import Derived.WalkKit
import Derived.WalkSpells
import Derived.WalkLawsBesides
import Derived.Deep.QuietTactic
import Derived.BigQuiet
import Derived.BigRegion
namespace Go.Proofs.Ytfkedhclhmbpfaa.LE
open Go.RowKit
set_option linter.unusedVariables false
set_option linter.unusedSimpArgs false

def led (B C H : Int) : Array Value := #[.int .i64 B, .int .i64 C, .int .i64 H]
abbrev Led (w : World) (b : Nat) (B C H : Int) : Prop := Blk w b 82 (led B C H)
theorem Led.c0 {w : World} {b : Nat} {B C H : Int} (h : Led w b B C H) : w.cell? ⟨b, 0, none⟩ = some (.int .i64 B) := by rw [h.cell]; rfl
theorem Led.c1 {w : World} {b : Nat} {B C H : Int} (h : Led w b B C H) : w.cell? ⟨b, 1, none⟩ = some (.int .i64 C) := by rw [h.cell]; rfl
theorem Led.c2 {w : World} {b : Nat} {B C H : Int} (h : Led w b B C H) : w.cell? ⟨b, 2, none⟩ = some (.int .i64 H) := by rw [h.cell]; rfl

/-- What 'may' says of n more. -/
def mayE (n B C : Int) : Int := if n < 0 then 1 else if n > B - C then 4 else 0

set_option maxHeartbeats 400000 in
theorem may_any (b : Nat) (n B C H : Int) (w : World) (h : Led w b B C H) (hB0 : 0 ≤ C) (hCB : C ≤ B) (hB : B ≤ 1099511627776) :
    Calls Try.prog 54 #[.pointer (some ⟨b, 0, none⟩), .int .i64 n] w fun e w' => e = .returned (.int .i64 (mayE n B C)) ∧ ∃ k, w.drewN k = w' := by
  have c0 := h.c0
  have c1 := h.c1
  clear h
  by_cases h1 : n < 0
  · go_enter Try.func54, Try.ntmps54
    go_wp2
    go_ret
    exact ⟨by simp [mayE, h1], 0, rfl⟩
  · by_cases h2 : B - C < n
    · go_enter Try.func54, Try.ntmps54
      go_wp2
      go_quiet (fail)
      go_wp2
      go_ret
      exact ⟨by simp [mayE, h1, h2], _, rfl⟩
    · go_enter Try.func54, Try.ntmps54
      go_wp2
      go_quiet (fail)
      go_wp2
      go_ret
      exact ⟨by unfold mayE; rw [if_neg (by omega), if_neg (by omega)]; rfl, _, rfl⟩

theorem may_nil (n : Int) (w : World) :
    Calls Try.prog 54 #[.pointer none, .int .i64 n] w fun e w' => e = .returned (.int .i64 2) ∧ w = w' := by
  go_enter Try.func54, Try.ntmps54
  go_wp2
  go_ret
  exact ⟨rfl, rfl⟩

/-- What the world is behind a call that may write the ledger's block alone. -/
def After (b : Nat) (B C H : Int) (w w' : World) : Prop := Led w' b B C H ∧ Chg (· = b) w w' ∧ w'.heap.size = w.heap.size

set_option maxHeartbeats 400000 in
theorem charge_no (b : Nat) (n B C H : Int) (w : World) (h : Led w b B C H) (hB0 : 0 ≤ C) (hCB : C ≤ B) (hB : B ≤ 1099511627776) (hn : n < 0 ∨ B - C < n) :
    Calls Try.prog 53 #[.pointer (some ⟨b, 0, none⟩), .int .i64 n] w fun e w' => e = .returned (.int .i64 (mayE n B C)) ∧ ∃ k, w.drewN k = w' := by
  have hm : (mayE n B C == 0) = false := by unfold mayE; split <;> (try split) <;> first | rfl | omega
  go_enter Try.func53, Try.ntmps53
  go_wp2_with (go_at_call 54; refine (may_any b n B C H _ h hB0 hCB hB).mono ?_; rintro e w' ⟨rfl, k, rfl⟩)
  go_ret
  exact ⟨rfl, _, rfl⟩

theorem After.two {b : Nat} {B C H C' H' : Int} {w : World} (h : Led w b B C H) (k : Nat) :
    After b B C' H' w (((w.drewN k).setCell ⟨b, 1, none⟩ (.int .i64 C')).setCell ⟨b, 2, none⟩ (.int .i64 H')).drew :=
  ⟨((h.drewN k).set_ 1 _).set_ 2 _, ((((Chg.refl (fun x => x = b) _).drewN k).setCell (p := ⟨b, 1, none⟩) rfl _).setCell (p := ⟨b, 2, none⟩) rfl _).drew, by simp [World.drew, World.drewN, World.setCell]⟩
theorem After.one {b : Nat} {B C H C' : Int} {w : World} (h : Led w b B C H) :
    After b B C' H w (w.setCell ⟨b, 1, none⟩ (.int .i64 C')) :=
  ⟨h.set_ 1 _, (Chg.refl (fun x => x = b) _).setCell (p := ⟨b, 1, none⟩) rfl _, by simp [World.setCell]⟩
theorem After.oneD {b : Nat} {B C H C' : Int} {w : World} (h : Led w b B C H) (k : Nat) :
    After b B C' H w ((w.drewN k).setCell ⟨b, 1, none⟩ (.int .i64 C')) :=
  ⟨(h.drewN k).set_ 1 _, ((Chg.refl (fun x => x = b) _).drewN k).setCell (p := ⟨b, 1, none⟩) rfl _, by simp [World.setCell, World.drewN]⟩
theorem After.zero {b : Nat} {B C H B' : Int} {w : World} (h : Led w b B C H) :
    After b B' C H w (w.setCell ⟨b, 0, none⟩ (.int .i64 B')) :=
  ⟨h.set_ 0 _, (Chg.refl (fun x => x = b) _).setCell (p := ⟨b, 0, none⟩) rfl _, by simp [World.setCell]⟩
theorem After.same {b : Nat} {B C H : Int} {w : World} (h : Led w b B C H) (k : Nat) : After b B C H w (w.drewN k) :=
  ⟨h.drewN k, (Chg.refl _ _).drewN k, by simp [World.drewN]⟩

set_option maxHeartbeats 400000 in
theorem charge_ok (b : Nat) (n B C H : Int) (w : World) (h : Led w b B C H) (hB0 : 0 ≤ C) (hCB : C ≤ B) (hB : B ≤ 1099511627776) (hH : 0 ≤ H) (hH2 : H ≤ 1099511627776) (hn0 : 0 ≤ n) (hn : n ≤ B - C) :
    Calls Try.prog 53 #[.pointer (some ⟨b, 0, none⟩), .int .i64 n] w fun e w' => e = .returned (.int .i64 0) ∧ After b B (C + n) (max H (C + n)) w w' := by
  have hm : mayE n B C = 0 := by unfold mayE; rw [if_neg (by omega), if_neg (by omega)]
  have c0 := h.c0
  have c1 := h.c1
  have c2 := h.c2
  have f0 := h.frozen 0
  have f1 := h.frozen 1
  have f2 := h.frozen 2
  go_enter Try.func53, Try.ntmps53
  go_wp2_with (go_at_call 54; refine (may_any b n B C H _ h hB0 hCB hB).mono ?_; rintro e w' ⟨rfl, k, rfl⟩)
  go_region
  go_wp2
  · go_ret
    refine ⟨rfl, ?_⟩
    rw [Int.max_eq_right (by omega)]
    exact After.two (by assumption) _
  · go_ret
    refine ⟨rfl, ?_⟩
    rw [Int.max_eq_left (by omega)]
    exact After.two (by assumption) _

theorem charge_nil (n : Int) (w : World) :
    Calls Try.prog 53 #[.pointer none, .int .i64 n] w fun e w' => e = .returned (.int .i64 2) ∧ w = w' := by
  go_enter Try.func53, Try.ntmps53
  go_wp2_with (go_at_call 54; refine (may_nil n _).mono ?_; rintro e w' ⟨rfl, rfl⟩)
  go_ret
  exact ⟨rfl, rfl⟩

set_option maxHeartbeats 400000 in
theorem refund_no (b : Nat) (n B C H : Int) (w : World) (h : Led w b B C H) (hB0 : 0 ≤ C) (hCB : C ≤ B) (hB : B ≤ 1099511627776) (hn : n < 0 ∨ C < n) :
    Calls Try.prog 31 #[.pointer (some ⟨b, 0, none⟩), .int .i64 n] w fun e w' => e = .returned (.int .i64 1) ∧ ∃ k, w.drewN k = w' := by
  have c1 := h.c1
  clear h
  by_cases h1 : n < 0
  · clear hn
    go_enter Try.func31, Try.ntmps31
    go_wp2
    go_ret
    exact ⟨rfl, 0, rfl⟩
  · have h2 : C < n := by omega
    clear hn
    go_enter Try.func31, Try.ntmps31
    go_wp2
    go_ret
    exact ⟨rfl, 0, rfl⟩

set_option maxHeartbeats 400000 in
theorem refund_ok (b : Nat) (n B C H : Int) (w : World) (h : Led w b B C H) (hB0 : 0 ≤ C) (hCB : C ≤ B) (hB : B ≤ 1099511627776) (hn0 : 0 ≤ n) (hn : n ≤ C) :
    Calls Try.prog 31 #[.pointer (some ⟨b, 0, none⟩), .int .i64 n] w fun e w' => e = .returned (.int .i64 0) ∧ After b B (C - n) H w w' := by
  have c1 := h.c1
  have f1 := h.frozen 1
  go_enter Try.func31, Try.ntmps31
  go_wp2
  go_ret
  exact ⟨rfl, After.one (by assumption)⟩

theorem refund_nil (n : Int) (w : World) :
    Calls Try.prog 31 #[.pointer none, .int .i64 n] w fun e w' => e = .returned (.int .i64 2) ∧ w = w' := by
  go_enter Try.func31, Try.ntmps31
  go_wp2
  go_ret
  exact ⟨rfl, rfl⟩

/-- What 'Set' says of a budget n. -/
def setE (n C : Int) : Int := if n < 0 ∨ 1099511627776 < n then 1 else if n < C then 4 else 0

set_option maxHeartbeats 400000 in
theorem set_no (b : Nat) (n B C H : Int) (w : World) (h : Led w b B C H) (hB0 : 0 ≤ C) (hCB : C ≤ B) (hB : B ≤ 1099511627776) (hn : n < 0 ∨ 1099511627776 < n ∨ n < C) :
    Calls Try.prog 27 #[.pointer (some ⟨b, 0, none⟩), .int .i64 n] w fun e w' => e = .returned (.int .i64 (setE n C)) ∧ w = w' := by
  have c1 := h.c1
  clear h
  by_cases h1 : n < 0
  · clear hn
    go_enter Try.func27, Try.ntmps27
    go_wp2
    go_ret
    exact ⟨by unfold setE; rw [if_pos (by omega)]; rfl, rfl⟩
  · by_cases h2 : 1099511627776 < n
    · clear hn
      go_enter Try.func27, Try.ntmps27
      go_wp2
      go_ret
      exact ⟨by unfold setE; rw [if_pos (by omega)]; rfl, rfl⟩
    · have h3 : n < C := by omega
      clear hn
      go_enter Try.func27, Try.ntmps27
      go_wp2
      go_ret
      exact ⟨by unfold setE; rw [if_neg (by omega), if_pos h3]; rfl, rfl⟩

set_option maxHeartbeats 400000 in
theorem set_ok (b : Nat) (n B C H : Int) (w : World) (h : Led w b B C H) (hB0 : 0 ≤ C) (hn : n ≤ 1099511627776) (hC : C ≤ n) :
    Calls Try.prog 27 #[.pointer (some ⟨b, 0, none⟩), .int .i64 n] w fun e w' => e = .returned (.int .i64 0) ∧ After b n C H w w' := by
  have c1 := h.c1
  have f0 := h.frozen 0
  have c0 := h.c0
  have hn0 : 0 ≤ n := by omega
  go_enter Try.func27, Try.ntmps27
  go_wp2
  go_ret
  exact ⟨rfl, After.zero (by assumption)⟩

theorem set_nil (n : Int) (w : World) :
    Calls Try.prog 27 #[.pointer none, .int .i64 n] w fun e w' => e = .returned (.int .i64 2) ∧ w = w' := by
  go_enter Try.func27, Try.ntmps27
  go_wp2
  go_ret
  exact ⟨rfl, rfl⟩

set_option maxHeartbeats 400000 in
theorem fits_any (b : Nat) (n B C H : Int) (w : World) (h : Led w b B C H) (hB0 : 0 ≤ C) (hCB : C ≤ B) (hB : B ≤ 1099511627776) :
    Calls Try.prog 52 #[.pointer (some ⟨b, 0, none⟩), .int .i64 n] w fun e w' => e = .returned (.bool (mayE n B C == 0)) ∧ ∃ k, w.drewN k = w' := by
  go_enter Try.func52, Try.ntmps52
  go_wp2_with (go_at_call 54; refine (may_any b n B C H _ h hB0 hCB hB).mono ?_; rintro e w' ⟨rfl, k, rfl⟩)
  go_ret
  exact ⟨rfl, _, rfl⟩

theorem fits_nil (n : Int) (w : World) :
    Calls Try.prog 52 #[.pointer none, .int .i64 n] w fun e w' => e = .returned (.bool false) ∧ w = w' := by
  go_enter Try.func52, Try.ntmps52
  go_wp2_with (go_at_call 54; refine (may_nil n _).mono ?_; rintro e w' ⟨rfl, rfl⟩)
  go_ret
  exact ⟨rfl, rfl⟩

set_option maxHeartbeats 400000 in
theorem numbers_any (b : Nat) (B C H : Int) (w : World) (h : Led w b B C H) :
    Calls Try.prog 24 #[.pointer (some ⟨b, 0, none⟩)] w fun e w' => e = .returned (.tuple #[.int .i64 B, .int .i64 C, .int .i64 H]) ∧ ∃ k, w.drewN k = w' := by
  have c0 := h.c0
  have c1 := h.c1
  have c2 := h.c2
  clear h
  go_enter Try.func24, Try.ntmps24
  go_wp2
  go_quiet (fail)
  go_wp2
  go_ret3
  exact ⟨rfl, _, rfl⟩

theorem numbers_nil (w : World) :
    Calls Try.prog 24 #[.pointer none] w fun e w' => e = .returned (.tuple #[.int .i64 0, .int .i64 0, .int .i64 0]) ∧ w = w' := by
  go_enter Try.func24, Try.ntmps24
  go_wp2
  go_ret3
  exact ⟨rfl, rfl⟩

set_option maxHeartbeats 400000 in
theorem new_ok (n : Int) (w : World) (h0 : 0 ≤ n) (h1 : n ≤ 1099511627776) :
    Calls Try.prog 19 #[.int .i64 n] w fun e w' => e = .returned (.tuple #[.pointer (some ⟨w.heap.size, 0, none⟩), .int .i64 0]) ∧ Led w' w.heap.size n 0 0 ∧ Chg (fun _ => False) w w' ∧ w'.heap.size = w.heap.size + 1 := by
  go_enter Try.func19, Try.ntmps19
  go_wp2_with (go_at_call 27; refine (set_ok _ n 0 0 0 _ (Blk.new _ _ _) (by omega) h1 h0).mono ?_; rintro e w' ⟨rfl, h2⟩)
  go_ret2
  refine ⟨rfl, h2.1, ((Chg.refl _ _).alloc _).into h2.2.1 (fun k hk e => by omega), ?_⟩
  rw [h2.2.2]
  simp

set_option maxHeartbeats 400000 in
theorem new_no (n : Int) (w : World) (h0 : n < 0 ∨ 1099511627776 < n) :
    Calls Try.prog 19 #[.int .i64 n] w fun e w' => e = .returned (.tuple #[.pointer none, .int .i64 1]) ∧ Chg (fun _ => False) w w' := by
  have hm : setE n 0 = 1 := by unfold setE; rw [if_pos (by omega)]
  go_enter Try.func19, Try.ntmps19
  go_wp2_with (go_at_call 27; refine (set_no _ n 0 0 0 _ (Blk.new _ _ _) (by omega) (by omega) (by omega) (by omega)).mono ?_; rintro e w' ⟨rfl, rfl⟩)
  go_ret2
  exact ⟨rfl, (Chg.refl _ _).alloc _⟩

theorem charge_no' (b : Nat) (n B C H : Int) (w : World) (h : Led w b B C H) (hB0 : 0 ≤ C) (hCB : C ≤ B) (hB : B ≤ 1099511627776) (E : Int) (hn : n < 0 ∧ E = 1 ∨ 0 ≤ n ∧ B - C < n ∧ E = 4) :
    Calls Try.prog 53 #[.pointer (some ⟨b, 0, none⟩), .int .i64 n] w fun e w' => e = .returned (.int .i64 E) ∧ After b B C H w w' := by
  have hE : mayE n B C = E := by unfold mayE; split <;> (try split) <;> omega
  refine (charge_no b n B C H w h hB0 hCB hB (by omega)).mono ?_
  rintro e w' ⟨he, k, rfl⟩
  exact ⟨by rw [he, hE], After.same h k⟩
theorem charge_up (b : Nat) (n B C H : Int) (w : World) (h : Led w b B C H) (hB0 : 0 ≤ C) (hCB : C ≤ B) (hB : B ≤ 1099511627776) (hH : 0 ≤ H) (hH2 : H ≤ 1099511627776) (hn0 : 0 ≤ n) (hn : n ≤ B - C) (hm : H ≤ C + n) :
    Calls Try.prog 53 #[.pointer (some ⟨b, 0, none⟩), .int .i64 n] w fun e w' => e = .returned (.int .i64 0) ∧ After b B (C + n) (C + n) w w' := by
  refine (charge_ok b n B C H w h hB0 hCB hB hH hH2 hn0 hn).mono ?_
  rintro e w' ⟨he, h2⟩
  rw [Int.max_eq_right (by omega)] at h2
  exact ⟨he, h2⟩
theorem charge_low (b : Nat) (n B C H : Int) (w : World) (h : Led w b B C H) (hB0 : 0 ≤ C) (hCB : C ≤ B) (hB : B ≤ 1099511627776) (hH : 0 ≤ H) (hH2 : H ≤ 1099511627776) (hn0 : 0 ≤ n) (hn : n ≤ B - C) (hm : C + n ≤ H) :
    Calls Try.prog 53 #[.pointer (some ⟨b, 0, none⟩), .int .i64 n] w fun e w' => e = .returned (.int .i64 0) ∧ After b B (C + n) H w w' := by
  refine (charge_ok b n B C H w h hB0 hCB hB hH hH2 hn0 hn).mono ?_
  rintro e w' ⟨he, h2⟩
  rw [Int.max_eq_left (by omega)] at h2
  exact ⟨he, h2⟩
theorem refund_no' (b : Nat) (n B C H : Int) (w : World) (h : Led w b B C H) (hB0 : 0 ≤ C) (hCB : C ≤ B) (hB : B ≤ 1099511627776) (hn : n < 0 ∨ C < n) :
    Calls Try.prog 31 #[.pointer (some ⟨b, 0, none⟩), .int .i64 n] w fun e w' => e = .returned (.int .i64 1) ∧ After b B C H w w' := by
  refine (refund_no b n B C H w h hB0 hCB hB hn).mono ?_
  rintro e w' ⟨he, k, rfl⟩
  exact ⟨he, After.same h k⟩
theorem set_no' (b : Nat) (n B C H : Int) (w : World) (h : Led w b B C H) (hB0 : 0 ≤ C) (hCB : C ≤ B) (hB : B ≤ 1099511627776) (E : Int) (hn : n < 0 ∧ E = 1 ∨ 1099511627776 < n ∧ E = 1 ∨ 0 ≤ n ∧ n < C ∧ E = 4) :
    Calls Try.prog 27 #[.pointer (some ⟨b, 0, none⟩), .int .i64 n] w fun e w' => e = .returned (.int .i64 E) ∧ After b B C H w w' := by
  have hE : setE n C = E := by unfold setE; split <;> (try split) <;> omega
  refine (set_no b n B C H w h hB0 hCB hB (by omega)).mono ?_
  rintro e w' ⟨he, rfl⟩
  exact ⟨by rw [he, hE], After.same h 0⟩
theorem fits_is (b : Nat) (n B C H : Int) (w : World) (h : Led w b B C H) (hB0 : 0 ≤ C) (hCB : C ≤ B) (hB : B ≤ 1099511627776) (r : Bool) (hr : r = decide (0 ≤ n ∧ n ≤ B - C)) :
    Calls Try.prog 52 #[.pointer (some ⟨b, 0, none⟩), .int .i64 n] w fun e w' => e = .returned (.bool r) ∧ After b B C H w w' := by
  have hE : (mayE n B C == 0) = r := by
    rw [hr, Bool.eq_iff_iff]
    simp only [beq_iff_eq, decide_eq_true_eq]
    unfold mayE
    split <;> (try split) <;> constructor <;> intro <;> omega
  refine (fits_any b n B C H w h hB0 hCB hB).mono ?_
  rintro e w' ⟨he, k, rfl⟩
  exact ⟨by rw [he, hE], After.same h k⟩
theorem numbers_is (b : Nat) (B C H : Int) (w : World) (h : Led w b B C H) :
    Calls Try.prog 24 #[.pointer (some ⟨b, 0, none⟩)] w fun e w' => e = .returned (.tuple #[.int .i64 B, .int .i64 C, .int .i64 H]) ∧ After b B C H w w' := by
  refine (numbers_any b B C H w h).mono ?_
  rintro e w' ⟨he, k, rfl⟩
  exact ⟨he, After.same h k⟩

end Go.Proofs.Ytfkedhclhmbpfaa.LE
