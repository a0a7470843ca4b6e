/-
  One act on a ledger: the document's and the program's.
-/
import Derived.Test.YtmhclhbiemifdaaLed
import Derived.ProofKit
namespace Go.Proofs.Ytmhclhbiemifdaa
open Go.ChangeShapes Go.WideShapes Go.ChangeAt Go.RowKit
set_option linter.unusedVariables false
set_option linter.unusedSimpArgs false

structure Inv (B C H : Int) : Prop where
  c0 : 0 ≤ C
  cb : C ≤ B
  b : B ≤ 1099511627776
  ch : C ≤ H
  h : H ≤ 1099511627776

inductive Step (B C H : Int) : Int → Int → Int → Int → Int → Int → Prop
  | neg (K N : Int) : N < 0 → Step B C H K N 1 B C H
  | large (N : Int) : 1099511627776 < N → Step B C H 2 N 1 B C H
  | more (N : Int) : 0 ≤ N → C < N → Step B C H 1 N 1 B C H
  | full (N : Int) : 0 ≤ N → B - C < N → Step B C H 0 N 4 B C H
  | up (N : Int) : 0 ≤ N → N ≤ B - C → H < C + N → Step B C H 0 N 0 B (C + N) (C + N)
  | low (N : Int) : 0 ≤ N → N ≤ B - C → C + N ≤ H → Step B C H 0 N 0 B (C + N) H
  | back (N : Int) : 0 ≤ N → N ≤ C → Step B C H 1 N 0 B (C - N) H
  | small (N : Int) : 0 ≤ N → N ≤ 1099511627776 → N < C → Step B C H 2 N 4 B C H
  | set (N : Int) : 0 ≤ N → N ≤ 1099511627776 → C ≤ N → Step B C H 2 N 0 N C H

theorem Step.ex (B C H K N : Int) (hi : Inv B C H) (h0 : 0 ≤ K) (h2 : K ≤ 2) : ∃ E B' C' H', Step B C H K N E B' C' H' ∧ Inv B' C' H' ∧ (E ≠ 0 → B' = B ∧ C' = C ∧ H' = H) ∧ H ≤ H' := by
  obtain ⟨a, b, c, d, e⟩ := hi
  by_cases hn : N < 0
  · exact ⟨_, _, _, _, .neg K N hn, ⟨a, b, c, d, e⟩, fun _ => ⟨rfl, rfl, rfl⟩, by omega⟩
  · have hn0 : 0 ≤ N := by omega
    by_cases k0 : K = 0
    · subst k0
      by_cases h : B - C < N
      · exact ⟨_, _, _, _, .full N hn0 h, ⟨a, b, c, d, e⟩, fun _ => ⟨rfl, rfl, rfl⟩, by omega⟩
      · by_cases h' : H < C + N
        · exact ⟨_, _, _, _, .up N hn0 (by omega) h', ⟨by omega, by omega, by omega, by omega, by omega⟩, fun h => absurd rfl h, by omega⟩
        · exact ⟨_, _, _, _, .low N hn0 (by omega) (by omega), ⟨by omega, by omega, by omega, by omega, by omega⟩, fun h => absurd rfl h, by omega⟩
    · by_cases k1 : K = 1
      · subst k1
        by_cases h : C < N
        · exact ⟨_, _, _, _, .more N hn0 h, ⟨a, b, c, d, e⟩, fun _ => ⟨rfl, rfl, rfl⟩, by omega⟩
        · exact ⟨_, _, _, _, .back N hn0 (by omega), ⟨by omega, by omega, by omega, by omega, by omega⟩, fun h => absurd rfl h, by omega⟩
      · obtain rfl : K = 2 := by omega
        by_cases h : 1099511627776 < N
        · exact ⟨_, _, _, _, .large N h, ⟨a, b, c, d, e⟩, fun _ => ⟨rfl, rfl, rfl⟩, by omega⟩
        · by_cases h' : N < C
          · exact ⟨_, _, _, _, .small N hn0 (by omega) h', ⟨a, b, c, d, e⟩, fun _ => ⟨rfl, rfl, rfl⟩, by omega⟩
          · exact ⟨_, _, _, _, .set N hn0 (by omega) (by omega), ⟨by omega, by omega, by omega, by omega, by omega⟩, fun h => absurd rfl h, by omega⟩

def actv (K N : Int) : Value := .agg #[.int .i64 K, .int .i64 N]
def ledv (B C H : Int) : Value := .agg #[.int .i64 B, .int .i64 C, .int .i64 H]

set_option maxHeartbeats 1000000 in
theorem do_0 (b : Nat) (N E : Int) (w : World) (P : World → Prop)
    (hc : Calls Try.prog 10 #[.pointer (some ⟨b, 0, none⟩), .int .i64 N] (w.alloc (.cells #[.int .i64 0, .int .i64 N] 40)) fun e w' => e = .returned (.int .i64 E) ∧ P w') :
    Calls Try.prog 15 #[.pointer (some ⟨b, 0, none⟩), .agg #[.int .i64 0, .int .i64 N]] w fun e w' => e = .returned (.int .i64 E) ∧ P w' := by
  have HC := hid hc
  clear hc
  go_enter Try.func15, Try.ntmps15
  go_wp2_with fail
  refine HC.out.mono ?_
  rintro e w' ⟨rfl, hp⟩
  have HP := hid hp
  clear hp
  go_wp2_with fail
  go_ret
  exact ⟨rfl, HP.out⟩

set_option maxHeartbeats 1000000 in
theorem do_1 (b : Nat) (N E : Int) (w : World) (P : World → Prop)
    (hc : Calls Try.prog 13 #[.pointer (some ⟨b, 0, none⟩), .int .i64 N] (w.alloc (.cells #[.int .i64 1, .int .i64 N] 40)) fun e w' => e = .returned (.int .i64 E) ∧ P w') :
    Calls Try.prog 15 #[.pointer (some ⟨b, 0, none⟩), .agg #[.int .i64 1, .int .i64 N]] w fun e w' => e = .returned (.int .i64 E) ∧ P w' := by
  have HC := hid hc
  clear hc
  go_enter Try.func15, Try.ntmps15
  go_wp2_with fail
  refine HC.out.mono ?_
  rintro e w' ⟨rfl, hp⟩
  have HP := hid hp
  clear hp
  go_wp2_with fail
  go_ret
  exact ⟨rfl, HP.out⟩

set_option maxHeartbeats 1000000 in
theorem do_2 (b : Nat) (N E : Int) (w : World) (P : World → Prop)
    (hc : Calls Try.prog 16 #[.pointer (some ⟨b, 0, none⟩), .int .i64 N] (w.alloc (.cells #[.int .i64 2, .int .i64 N] 40)) fun e w' => e = .returned (.int .i64 E) ∧ P w') :
    Calls Try.prog 15 #[.pointer (some ⟨b, 0, none⟩), .agg #[.int .i64 2, .int .i64 N]] w fun e w' => e = .returned (.int .i64 E) ∧ P w' := by
  have HC := hid hc
  clear hc
  go_enter Try.func15, Try.ntmps15
  go_wp2_with fail
  refine HC.out.mono ?_
  rintro e w' ⟨rfl, hp⟩
  have HP := hid hp
  clear hp
  go_wp2_with fail
  go_ret
  exact ⟨rfl, HP.out⟩

theorem do_any (b : Nat) (B C H K N E B' C' H' : Int) (w : World) (h : Led w b B C H) (hi : Inv B C H) (hs : Step B C H K N E B' C' H') (h0 : 0 ≤ K) (h2 : K ≤ 2) :
    Calls Try.prog 15 #[.pointer (some ⟨b, 0, none⟩), .agg #[.int .i64 K, .int .i64 N]] w fun e w' => e = .returned (.int .i64 E) ∧ Led w' b B' C' H' ∧ Chg (· = b) w w' := by
  obtain ⟨a1, a2, a3, a4, a5⟩ := hi
  have hl := fun K' => (h.alloc (.cells #[.int .i64 K', .int .i64 N] 40))
  have fin : ∀ (K' : Int) {B C H : Int} {w' : World}, After b B C H (w.alloc (.cells #[.int .i64 K', .int .i64 N] 40)) w' → Led w' b B C H ∧ Chg (· = b) w w' :=
    fun K' _ _ _ _ ha => ⟨ha.1, ((Chg.refl _ _).alloc _).trans ha.2.1⟩
  cases hs with
  | neg =>
    rename_i hn
    by_cases k0 : K = 0
    · subst k0
      exact do_0 b N _ w _ ((charge_no' _ N _ _ _ _ (hl 0) a1 a2 a3 1 (by omega)).mono fun e w' ⟨he, ha⟩ => ⟨he, fin _ ha⟩)
    · by_cases k1 : K = 1
      · subst k1
        exact do_1 b N _ w _ ((refund_no' _ N _ _ _ _ (hl 1) a1 a2 a3 (by omega)).mono fun e w' ⟨he, ha⟩ => ⟨he, fin _ ha⟩)
      · obtain rfl : K = 2 := by omega
        exact do_2 b N _ w _ ((set_no' _ N _ _ _ _ (hl 2) a1 a2 a3 1 (by omega)).mono fun e w' ⟨he, ha⟩ => ⟨he, fin _ ha⟩)
  | large => exact do_2 b N _ w _ ((set_no' _ N _ _ _ _ (hl 2) a1 a2 a3 1 (by omega)).mono fun e w' ⟨he, ha⟩ => ⟨he, fin _ ha⟩)
  | more => exact do_1 b N _ w _ ((refund_no' _ N _ _ _ _ (hl 1) a1 a2 a3 (by omega)).mono fun e w' ⟨he, ha⟩ => ⟨he, fin _ ha⟩)
  | full => exact do_0 b N _ w _ ((charge_no' _ N _ _ _ _ (hl 0) a1 a2 a3 4 (by omega)).mono fun e w' ⟨he, ha⟩ => ⟨he, fin _ ha⟩)
  | up => exact do_0 b N _ w _ ((charge_up _ N _ _ _ _ (hl 0) a1 a2 a3 (by omega) (by omega) (by omega) (by omega) (by omega)).mono fun e w' ⟨he, ha⟩ => ⟨he, fin _ ha⟩)
  | low => exact do_0 b N _ w _ ((charge_low _ N _ _ _ _ (hl 0) a1 a2 a3 (by omega) (by omega) (by omega) (by omega) (by omega)).mono fun e w' ⟨he, ha⟩ => ⟨he, fin _ ha⟩)
  | back => exact do_1 b N _ w _ ((refund_ok _ N _ _ _ _ (hl 1) a1 a2 a3 (by omega) (by omega)).mono fun e w' ⟨he, ha⟩ => ⟨he, fin _ ha⟩)
  | small => exact do_2 b N _ w _ ((set_no' _ N _ _ _ _ (hl 2) a1 a2 a3 4 (by omega)).mono fun e w' ⟨he, ha⟩ => ⟨he, fin _ ha⟩)
  | set => exact do_2 b N _ w _ ((set_ok _ N _ _ _ _ (hl 2) a1 (by omega) (by omega)).mono fun e w' ⟨he, ha⟩ => ⟨he, fin _ ha⟩)

set_option maxHeartbeats 1000000 in
theorem ref_neg0 (B C H N : Int) (w : World) (a1 : 0 ≤ C) (a2 : C ≤ B) (a3 : B ≤ 1099511627776) (a4 : C ≤ H) (a5 : H ≤ 1099511627776) (h1 : N < 0) :
    Calls Try.prog 14 #[.agg #[.int .i64 B, .int .i64 C, .int .i64 H], .agg #[.int .i64 0, .int .i64 N]] w fun e w' => e = .returned (.tuple #[.agg #[.int .i64 (B), .int .i64 (C), .int .i64 (H)], .int .i64 1]) ∧ Chg (fun _ => False) w w' := by
  go_enter Try.func14, Try.ntmps14
  go_wp2_with fail
  refine bodyPost_ret (v := .tuple #[.agg #[.int .i64 (B), .int .i64 (C), .int .i64 (H)], .int .i64 1]) (by simp [results, Try.results14, go_sem]) rfl ⟨rfl, ?_⟩
  exact (((Chg.refl _ _).alloc _).alloc _).alloc _

set_option maxHeartbeats 1000000 in
theorem ref_neg1 (B C H N : Int) (w : World) (a1 : 0 ≤ C) (a2 : C ≤ B) (a3 : B ≤ 1099511627776) (a4 : C ≤ H) (a5 : H ≤ 1099511627776) (h1 : N < 0) :
    Calls Try.prog 14 #[.agg #[.int .i64 B, .int .i64 C, .int .i64 H], .agg #[.int .i64 1, .int .i64 N]] w fun e w' => e = .returned (.tuple #[.agg #[.int .i64 (B), .int .i64 (C), .int .i64 (H)], .int .i64 1]) ∧ Chg (fun _ => False) w w' := by
  go_enter Try.func14, Try.ntmps14
  go_wp2_with fail
  refine bodyPost_ret (v := .tuple #[.agg #[.int .i64 (B), .int .i64 (C), .int .i64 (H)], .int .i64 1]) (by simp [results, Try.results14, go_sem]) rfl ⟨rfl, ?_⟩
  exact (((Chg.refl _ _).alloc _).alloc _).alloc _

set_option maxHeartbeats 1000000 in
theorem ref_neg2 (B C H N : Int) (w : World) (a1 : 0 ≤ C) (a2 : C ≤ B) (a3 : B ≤ 1099511627776) (a4 : C ≤ H) (a5 : H ≤ 1099511627776) (h1 : N < 0) :
    Calls Try.prog 14 #[.agg #[.int .i64 B, .int .i64 C, .int .i64 H], .agg #[.int .i64 2, .int .i64 N]] w fun e w' => e = .returned (.tuple #[.agg #[.int .i64 (B), .int .i64 (C), .int .i64 (H)], .int .i64 1]) ∧ Chg (fun _ => False) w w' := by
  go_enter Try.func14, Try.ntmps14
  go_wp2_with fail
  refine bodyPost_ret (v := .tuple #[.agg #[.int .i64 (B), .int .i64 (C), .int .i64 (H)], .int .i64 1]) (by simp [results, Try.results14, go_sem]) rfl ⟨rfl, ?_⟩
  exact (((Chg.refl _ _).alloc _).alloc _).alloc _

set_option maxHeartbeats 1000000 in
theorem ref_large (B C H N : Int) (w : World) (a1 : 0 ≤ C) (a2 : C ≤ B) (a3 : B ≤ 1099511627776) (a4 : C ≤ H) (a5 : H ≤ 1099511627776) (h1 : 1099511627776 < N) :
    Calls Try.prog 14 #[.agg #[.int .i64 B, .int .i64 C, .int .i64 H], .agg #[.int .i64 2, .int .i64 N]] w fun e w' => e = .returned (.tuple #[.agg #[.int .i64 (B), .int .i64 (C), .int .i64 (H)], .int .i64 1]) ∧ Chg (fun _ => False) w w' := by
  go_enter Try.func14, Try.ntmps14
  go_wp2_with fail
  refine bodyPost_ret (v := .tuple #[.agg #[.int .i64 (B), .int .i64 (C), .int .i64 (H)], .int .i64 1]) (by simp [results, Try.results14, go_sem]) rfl ⟨rfl, ?_⟩
  exact (((Chg.refl _ _).alloc _).alloc _).alloc _

set_option maxHeartbeats 1000000 in
theorem ref_more (B C H N : Int) (w : World) (a1 : 0 ≤ C) (a2 : C ≤ B) (a3 : B ≤ 1099511627776) (a4 : C ≤ H) (a5 : H ≤ 1099511627776) (h1 : 0 ≤ N) (h2 : C < N) :
    Calls Try.prog 14 #[.agg #[.int .i64 B, .int .i64 C, .int .i64 H], .agg #[.int .i64 1, .int .i64 N]] w fun e w' => e = .returned (.tuple #[.agg #[.int .i64 (B), .int .i64 (C), .int .i64 (H)], .int .i64 1]) ∧ Chg (fun _ => False) w w' := by
  go_enter Try.func14, Try.ntmps14
  go_wp2_with fail
  refine bodyPost_ret (v := .tuple #[.agg #[.int .i64 (B), .int .i64 (C), .int .i64 (H)], .int .i64 1]) (by simp [results, Try.results14, go_sem]) rfl ⟨rfl, ?_⟩
  exact (((Chg.refl _ _).alloc _).alloc _).alloc _

set_option maxHeartbeats 1000000 in
theorem ref_full (B C H N : Int) (w : World) (a1 : 0 ≤ C) (a2 : C ≤ B) (a3 : B ≤ 1099511627776) (a4 : C ≤ H) (a5 : H ≤ 1099511627776) (h1 : 0 ≤ N) (h2 : B - C < N) :
    Calls Try.prog 14 #[.agg #[.int .i64 B, .int .i64 C, .int .i64 H], .agg #[.int .i64 0, .int .i64 N]] w fun e w' => e = .returned (.tuple #[.agg #[.int .i64 (B), .int .i64 (C), .int .i64 (H)], .int .i64 4]) ∧ Chg (fun _ => False) w w' := by
  go_enter Try.func14, Try.ntmps14
  go_wp2_with fail
  refine bodyPost_ret (v := .tuple #[.agg #[.int .i64 (B), .int .i64 (C), .int .i64 (H)], .int .i64 4]) (by simp [results, Try.results14, go_sem]) rfl ⟨rfl, ?_⟩
  exact (((Chg.refl _ _).alloc _).alloc _).alloc _

set_option maxHeartbeats 1000000 in
theorem ref_up (B C H N : Int) (w : World) (a1 : 0 ≤ C) (a2 : C ≤ B) (a3 : B ≤ 1099511627776) (a4 : C ≤ H) (a5 : H ≤ 1099511627776) (h1 : 0 ≤ N) (h2 : N ≤ B - C) (h3 : H < C + N) :
    Calls Try.prog 14 #[.agg #[.int .i64 B, .int .i64 C, .int .i64 H], .agg #[.int .i64 0, .int .i64 N]] w fun e w' => e = .returned (.tuple #[.agg #[.int .i64 (B), .int .i64 (C + N), .int .i64 (C + N)], .int .i64 0]) ∧ Chg (fun _ => False) w w' := by
  go_enter Try.func14, Try.ntmps14
  go_wp2_with fail
  refine bodyPost_ret (v := .tuple #[.agg #[.int .i64 (B), .int .i64 (C + N), .int .i64 (C + N)], .int .i64 0]) (by simp [results, Try.results14, go_sem]) rfl ⟨rfl, ?_⟩
  exact (((Chg.refl _ _).alloc _).alloc _).alloc _

set_option maxHeartbeats 1000000 in
theorem ref_low (B C H N : Int) (w : World) (a1 : 0 ≤ C) (a2 : C ≤ B) (a3 : B ≤ 1099511627776) (a4 : C ≤ H) (a5 : H ≤ 1099511627776) (h1 : 0 ≤ N) (h2 : N ≤ B - C) (h3 : C + N ≤ H) :
    Calls Try.prog 14 #[.agg #[.int .i64 B, .int .i64 C, .int .i64 H], .agg #[.int .i64 0, .int .i64 N]] w fun e w' => e = .returned (.tuple #[.agg #[.int .i64 (B), .int .i64 (C + N), .int .i64 (H)], .int .i64 0]) ∧ Chg (fun _ => False) w w' := by
  go_enter Try.func14, Try.ntmps14
  go_wp2_with fail
  refine bodyPost_ret (v := .tuple #[.agg #[.int .i64 (B), .int .i64 (C + N), .int .i64 (H)], .int .i64 0]) (by simp [results, Try.results14, go_sem]) rfl ⟨rfl, ?_⟩
  exact (((Chg.refl _ _).alloc _).alloc _).alloc _

set_option maxHeartbeats 1000000 in
theorem ref_back (B C H N : Int) (w : World) (a1 : 0 ≤ C) (a2 : C ≤ B) (a3 : B ≤ 1099511627776) (a4 : C ≤ H) (a5 : H ≤ 1099511627776) (h1 : 0 ≤ N) (h2 : N ≤ C) :
    Calls Try.prog 14 #[.agg #[.int .i64 B, .int .i64 C, .int .i64 H], .agg #[.int .i64 1, .int .i64 N]] w fun e w' => e = .returned (.tuple #[.agg #[.int .i64 (B), .int .i64 (C - N), .int .i64 (H)], .int .i64 0]) ∧ Chg (fun _ => False) w w' := by
  go_enter Try.func14, Try.ntmps14
  go_wp2_with fail
  refine bodyPost_ret (v := .tuple #[.agg #[.int .i64 (B), .int .i64 (C - N), .int .i64 (H)], .int .i64 0]) (by simp [results, Try.results14, go_sem]) rfl ⟨rfl, ?_⟩
  exact (((Chg.refl _ _).alloc _).alloc _).alloc _

set_option maxHeartbeats 1000000 in
theorem ref_small (B C H N : Int) (w : World) (a1 : 0 ≤ C) (a2 : C ≤ B) (a3 : B ≤ 1099511627776) (a4 : C ≤ H) (a5 : H ≤ 1099511627776) (h1 : 0 ≤ N) (h2 : N ≤ 1099511627776) (h3 : N < C) :
    Calls Try.prog 14 #[.agg #[.int .i64 B, .int .i64 C, .int .i64 H], .agg #[.int .i64 2, .int .i64 N]] w fun e w' => e = .returned (.tuple #[.agg #[.int .i64 (B), .int .i64 (C), .int .i64 (H)], .int .i64 4]) ∧ Chg (fun _ => False) w w' := by
  go_enter Try.func14, Try.ntmps14
  go_wp2_with fail
  refine bodyPost_ret (v := .tuple #[.agg #[.int .i64 (B), .int .i64 (C), .int .i64 (H)], .int .i64 4]) (by simp [results, Try.results14, go_sem]) rfl ⟨rfl, ?_⟩
  exact (((Chg.refl _ _).alloc _).alloc _).alloc _

set_option maxHeartbeats 1000000 in
theorem ref_set (B C H N : Int) (w : World) (a1 : 0 ≤ C) (a2 : C ≤ B) (a3 : B ≤ 1099511627776) (a4 : C ≤ H) (a5 : H ≤ 1099511627776) (h1 : 0 ≤ N) (h2 : N ≤ 1099511627776) (h3 : C ≤ N) :
    Calls Try.prog 14 #[.agg #[.int .i64 B, .int .i64 C, .int .i64 H], .agg #[.int .i64 2, .int .i64 N]] w fun e w' => e = .returned (.tuple #[.agg #[.int .i64 (N), .int .i64 (C), .int .i64 (H)], .int .i64 0]) ∧ Chg (fun _ => False) w w' := by
  go_enter Try.func14, Try.ntmps14
  go_wp2_with fail
  refine bodyPost_ret (v := .tuple #[.agg #[.int .i64 (N), .int .i64 (C), .int .i64 (H)], .int .i64 0]) (by simp [results, Try.results14, go_sem]) rfl ⟨rfl, ?_⟩
  exact (((Chg.refl _ _).alloc _).alloc _).alloc _

theorem ref_any (B C H K N E B' C' H' : Int) (w : World) (hi : Inv B C H) (hs : Step B C H K N E B' C' H') (h0 : 0 ≤ K) (h2 : K ≤ 2) :
    Calls Try.prog 14 #[.agg #[.int .i64 B, .int .i64 C, .int .i64 H], .agg #[.int .i64 K, .int .i64 N]] w fun e w' => e = .returned (.tuple #[.agg #[.int .i64 B', .int .i64 C', .int .i64 H'], .int .i64 E]) ∧ Chg (fun _ => False) w w' := by
  obtain ⟨a1, a2, a3, a4, a5⟩ := hi
  cases hs with
  | neg =>
    rename_i hn
    by_cases k0 : K = 0
    · subst k0
      exact ref_neg0 _ _ _ _ w a1 a2 a3 a4 a5 hn
    · by_cases k1 : K = 1
      · subst k1
        exact ref_neg1 _ _ _ _ w a1 a2 a3 a4 a5 hn
      · obtain rfl : K = 2 := by omega
        exact ref_neg2 _ _ _ _ w a1 a2 a3 a4 a5 hn
  | large => exact ref_large _ _ _ _ w a1 a2 a3 a4 a5 (by assumption)
  | more => exact ref_more _ _ _ _ w a1 a2 a3 a4 a5 (by assumption) (by assumption)
  | full => exact ref_full _ _ _ _ w a1 a2 a3 a4 a5 (by assumption) (by assumption)
  | up => exact ref_up _ _ _ _ w a1 a2 a3 a4 a5 (by assumption) (by assumption) (by assumption)
  | low => exact ref_low _ _ _ _ w a1 a2 a3 a4 a5 (by assumption) (by assumption) (by assumption)
  | back => exact ref_back _ _ _ _ w a1 a2 a3 a4 a5 (by assumption) (by assumption)
  | small => exact ref_small _ _ _ _ w a1 a2 a3 a4 a5 (by assumption) (by assumption) (by assumption)
  | set => exact ref_set _ _ _ _ w a1 a2 a3 a4 a5 (by assumption) (by assumption) (by assumption)

end Go.Proofs.Ytmhclhbiemifdaa
