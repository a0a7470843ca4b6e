/-
  Numbers as texts: Value and Number.
-/
import Derived.Test.YtfkedhclhmbpfaaRig
import Derived.Laws.BytesArg
import Derived.IntWalk
namespace Go.Proofs.Ytfkedhclhmbpfaa
open Go.RowKit Go.Maps
set_option linter.unusedVariables false
set_option linter.unusedSimpArgs false

theorem conv1 (W : World) (b : Nat) (x : Int) (h : W.cell? ⟨b, 0, none⟩ = some (.int .u8 x)) : (convert 74 9 (.slice (some ⟨b, 0, none⟩) 1 1)).run Try.prog W = .ok (.string ⟨#[UInt8.ofNat x.toNat]⟩) W :=
  run_convert_bytes_arg W 74 5 Try.underlying74 Try.underlying5 b 0 1 1 [x] rfl (fun i hi => by
    obtain rfl : i = 0 := by omega
    exact h) 9 Try.underlying9

theorem value_size (f : Nat) : ∀ n, (valueF f n).size ≤ f + 1 := by
  induction f with
  | zero => intro n; exact Nat.le_refl _
  | succ f ih =>
    intro n
    unfold valueF
    split
    · rw [ByteArray.size_append]
      have h1 : (ByteArray.mk #[byteOf (48 + n % 10)]).size = 1 := rfl
      have := ih (n / 10)
      omega
    · have h1 : (ByteArray.mk #[byteOf (48 + n)]).size = 1 := rfl
      omega
theorem value_base (n : Int) (hn : n ≤ 9) (f : Nat) (w : World) : Calls Try.prog 13 #[.int .i64 n] w fun e w' => e = .returned (.string (valueF f n)) ∧ Chg (fun _ => False) w w' := by
  have hc : ∀ x, (convert 74 9 (.slice (some ⟨w.heap.size, 0, none⟩) 1 1)).run Try.prog (w.alloc (.cells #[.int .u8 x] 5)) = .ok (.string ⟨#[UInt8.ofNat x.toNat]⟩) (w.alloc (.cells #[.int .u8 x] 5)) := fun x => conv1 _ _ _ ((Blk.new w 5 #[.int .u8 x]).cell 0)
  go_enter Try.func13, Try.ntmps13
  go_wp2_with fail
  go_ret
  refine ⟨?_, (Chg.refl _ _).alloc _⟩
  have hw : wrap64 (48 + n) % 256 = (48 + n) % 256 := by unfold wrap64; omega
  rw [show valueF f n = ⟨#[byteOf (48 + n)]⟩ by cases f <;> simp [valueF, show ¬ 9 < n by omega]]
  show Ending.returned (.string ⟨#[UInt8.ofNat (wrap64 (48 + n) % 256).toNat]⟩) = _
  rw [hw]
  rfl

set_option maxRecDepth 100000 in
set_option maxHeartbeats 1000000 in
theorem value_any (f : Nat) : ∀ (n : Int) (w : World), f ≤ 1000 → n < 10 ^ (f + 1) → n ≤ 9223372036854775807 → Calls Try.prog 13 #[.int .i64 n] w fun e w' => e = .returned (.string (valueF f n)) ∧ Chg (fun _ => False) w w' := by
  induction f with
  | zero => intro n w _ h _; exact value_base n (by omega) 0 w
  | succ f ih =>
    intro n w hf h h2
    by_cases hn : n ≤ 9
    · exact value_base n hn _ w
    · have h9 : 9 < n := by omega
      have hlt : n / 10 < 10 ^ (f + 1) := by
        rw [Int.pow_succ] at h
        omega
      have hv : valueF (f + 1) n = valueF f (n / 10) ++ ⟨#[byteOf (48 + n % 10)]⟩ := by rw [valueF, if_pos h9]
      have HV := hid hv
      have HLT := hid hlt
      have HIH := hid ih
      clear hn h hlt hv ih
      go_enter Try.func13, Try.ntmps13
      go_wp2_with fail
      have hcv : ∀ (W : World) (x : Int), (convert 74 9 (.slice (some ⟨W.heap.size, 0, none⟩) 1 1)).run Try.prog (W.alloc (.cells #[.int .u8 x] 5)) = .ok (.string ⟨#[UInt8.ofNat x.toNat]⟩) (W.alloc (.cells #[.int .u8 x] 5)) := fun W x => conv1 _ _ _ ((Blk.new W 5 #[.int .u8 x]).cell 0)
      have hcd : ∀ (W : World) (x : Int), (convert 74 9 (.slice (some ⟨W.heap.size, 0, none⟩) 1 1)).run Try.prog (W.alloc (.cells #[.int .u8 x] 5)).drew = .ok (.string ⟨#[UInt8.ofNat x.toNat]⟩) (W.alloc (.cells #[.int .u8 x] 5)).drew := fun W x => conv1 _ _ _ (((Blk.new W 5 #[.int .u8 x]).drew).cell 0)
      obtain ⟨q, hq⟩ : ∃ q, q = n / 10 := ⟨_, rfl⟩
      obtain ⟨r, hr⟩ : ∃ r, r = (48 + n % 10) % 256 := ⟨_, rfl⟩
      have hq1 : IntKind.i64.wrap (n.tdiv 10) = q := by
        rw [Int.tdiv_eq_ediv_of_nonneg (by omega), IntKind.wrap_i64]
        omega
      have hr1 : IntKind.u8.wrap (IntKind.i64.wrap (48 + n.tmod 10)) = r := by
        rw [Int.tmod_eq_emod_of_nonneg (by omega), IntKind.wrap_i64]
        simp only [IntKind.wrap, IntKind.bits, IntKind.signed]
        simp
        omega
      have HQ := hid hq
      have HR := hid hr
      clear hq hr
      have HQL : q < 10 ^ (f + 1) ∧ q ≤ 9223372036854775807 := ⟨by rw [HQ.out]; exact HLT.out, by rw [HQ.out]; omega⟩
      have HQL := hid HQL
      have hvs := value_size f q
      go_region_with (go_at_call 13; ((with_reducible refine (HIH.out q _ (by omega) HQL.out.1 HQL.out.2).mono ?_)); rintro e w1 ⟨rfl, g1⟩; (first | (have c1 := conv1 w1 w.heap.size r (g1.cell ((Blk.new w 5 #[.int .u8 r]).cell 0) (fun h => h))) | (have c1 := conv1 w1 w.heap.size r (g1.cell (((Blk.new w 5 #[.int .u8 r]).drew).cell 0) (fun h => h))) | (have c1 := trivial)); have g2 := hid g1; clear g1)
      all_goals
        go_wp2_with fail
        go_ret
        refine ⟨?_, ?_⟩
        · rw [HV.out, ← HQ.out]
          show Ending.returned (.string (valueF f q ++ ⟨#[UInt8.ofNat r.toNat]⟩)) = _
          rw [HR.out]
          rfl
        · first
            | exact ((Chg.refl _ _).drew).trans ((g2.out.alloc _).drew)
            | exact ((Chg.refl _ _).drew).trans (g2.out.alloc _)
            | exact (g2.out.alloc _).drew
            | exact g2.out.alloc _
            | exact ((Chg.refl _ _).alloc _).trans g2.out
            | exact (((Chg.refl _ _).alloc _).trans g2.out).drew
            | exact (((Chg.refl _ _).alloc _).drew).trans g2.out
            | exact ((((Chg.refl _ _).alloc _).drew).trans g2.out).drew

/-- Value, at the numbers of a machine. -/
theorem value_is (n : Int) (w : World) (h : n ≤ 9223372036854775807) : Calls Try.prog 13 #[.int .i64 n] w fun e w' => e = .returned (.string (valueM n)) ∧ Chg (fun _ => False) w w' :=
  value_any 20 n w (by omega) (by omega) h
theorem valueM_size (n : Int) : (valueM n).size ≤ 21 := value_size 20 n

theorem numberL_small (l : List UInt8) (n : Int) (h0 : -1000 < n) (h1 : n < 1000) : -1000 < numberL l n ∧ numberL l n < 1000 := by
  induction l generalizing n with
  | nil => exact ⟨h0, h1⟩
  | cons b r ih =>
    unfold numberL
    have := Int.tmod_lt_of_pos (10 * n + (b.toNat : Int) - 48) (b := 1000) (by omega)
    have := Int.lt_tmod_of_pos (10 * n + (b.toNat : Int) - 48) (b := 1000) (by omega)
    exact ih _ (by omega) (by omega)
theorem numberM_small (s : ByteArray) : -1000 < numberM s ∧ numberM s < 1000 := numberL_small _ 0 (by omega) (by omega)

set_option maxHeartbeats 1000000 in
theorem number_any (s : ByteArray) (w : World) (h : s.size ≤ 1000000) : Calls Try.prog 71 #[.string s] w fun e w' => e = .returned (.int .i64 (numberM s)) ∧ w = w' := by
  go_enter Try.func71, Try.ntmps71
  go_wp2_with fail
  go_loop [3, 4] (fun n i => ∃ (j : Nat) (x : Int), j ≤ s.size ∧ i = .int .i64 j ∧ n = .int .i64 x ∧ -1000 < x ∧ x < 1000 ∧ numberL (s.data.toList.drop j) x = numberM s) (fun _ i => s.size - (intOf i).toNat)
  case atStart => exact ⟨0, 0, by omega, rfl, rfl, by omega, by omega, rfl⟩
  case round =>
    obtain ⟨j, x, hj, rfl, rfl, hx0, hx1, hn⟩ := hrel
    have HN := hid hn
    clear hn
    by_cases hlt : j < s.size
    · have hdr : s.data.toList.drop j = s[j] :: s.data.toList.drop (j + 1) := by
        rw [List.drop_eq_getElem_cons (by simpa using hlt)]
        rfl
      have hn := HN.out
      rw [hdr] at hn
      unfold numberL at hn
      have HN2 := hid hn
      have hbl : s[j].toNat < 256 := s[j].toNat_lt
      clear hn hdr HN
      go_wp2_with fail
      have h1 := Int.tmod_lt_of_pos (10 * x + (s[j].toNat : Int) - 48) (b := 1000) (by omega)
      have h2 := Int.lt_tmod_of_pos (10 * x + (s[j].toNat : Int) - 48) (b := 1000) (by omega)
      go_round
      case rel => exact ⟨j + 1, _, by omega, by go_num, rfl, by omega, by omega, HN2.out⟩
      case measure => simp [intOf]; omega
    · have hje : j = s.size := by omega
      have hn := HN.out
      rw [List.drop_of_length_le (by simp; omega)] at hn
      have HN2 := hid hn
      clear hn HN hje
      go_wp2_with fail
      go_ret
      exact ⟨by show Ending.returned (.int .i64 x) = _; rw [← HN2.out]; rfl, rfl⟩
end Go.Proofs.Ytfkedhclhmbpfaa
