/-
  WordsMany's walk.
-/
import Derived.Test.YtppcpemenebamaaDed
import Derived.ProofKit
namespace Go.Proofs.Ytppcpemenebamaa
open Go.ChangeShapes Go.WideShapes Go.ChangeAt Go.RowKit
set_option linter.unusedVariables false
set_option linter.unusedSimpArgs false

/-- A text with i letters q behind it. -/
def xq (s : ByteArray) : Nat → ByteArray
  | 0 => s
  | i + 1 => xq s i ++ ⟨#[113]⟩
theorem xq_size (s : ByteArray) (i : Nat) : (xq s i).size = s.size + i := by
  induction i with
  | zero => rfl
  | succ i ih => simp [xq, ByteArray.size_append, ih]; rfl
/-- The first n of them. -/
def tq (s : ByteArray) : Nat → List ByteArray
  | 0 => []
  | n + 1 => tq s n ++ [xq s n]
theorem tq_length (s : ByteArray) (n : Nat) : (tq s n).length = n := by
  induction n with
  | zero => rfl
  | succ n ih => simp [tq, ih]
theorem tq_pos (s : ByteArray) (n i : Nat) : pos (tq s n) (xq s i) = if i < n then some i else none := by
  induction n with
  | zero => simp [tq, pos]
  | succ n ih =>
    rw [tq, pos_snoc, ih]
    by_cases h : i < n
    · simp [h, show i < n + 1 by omega]
    · rw [if_neg h]
      simp only
      by_cases h2 : i = n
      · subst h2; simp [tq_length]
      · rw [if_neg (fun e => h2 (by have := congrArg ByteArray.size e; rw [xq_size, xq_size] at this; omega)), if_neg (by omega)]
theorem tq_add (s : ByteArray) (n : Nat) : addT (tq s n) (xq s n) = tq s (n + 1) := addT_none (by rw [tq_pos, if_neg (by omega)])
theorem tq_num (s : ByteArray) (n i : Nat) (h : i ≤ n) : numT (tq s n) (xq s i) = (i : Int) + 1 := by
  unfold numT
  rw [tq_pos]
  by_cases h2 : i < n
  · rw [if_pos h2]
  · rw [if_neg h2]
    simp only [tq_length]
    omega
theorem tq_same (s : ByteArray) (n i : Nat) (h : i < n) : addT (tq s n) (xq s i) = tq s n := addT_some (by rw [tq_pos, if_pos h])
theorem tq_bytes (s : ByteArray) (n : Nat) : bytesOf (tq s (n + 1)) = bytesOf (tq s n) + (s.size + n) := by
  rw [tq, bytesOf_append]
  simp [bytesOf, xq_size]
theorem tq_bytes_le (s : ByteArray) (n : Nat) (hs : s.size ≤ 60) (hn : n ≤ 60) : bytesOf (tq s n) ≤ n * 120 := by
  induction n with
  | zero => simp [tq, bytesOf]
  | succ n ih =>
    have := ih (by omega)
    rw [tq_bytes]
    omega

set_option maxRecDepth 100000 in
set_option maxHeartbeats 2000000 in
theorem many_any (q : Int) (s : ByteArray) (K : Nat) (w : World) (hK : q % 60 = (K : Int)) (hq0 : 0 ≤ q) (hq1 : q ≤ 255) (hs : s.size ≤ 60) :
    Calls Try.prog 7 #[.int .u8 q, .string s] w fun e w' => e = .returned (.bool true) ∧ Below w.heap.size w w' := by
  have hK60 : K < 60 := by omega
  have HK := hid hK
  clear hK
  go_enter Try.func7, Try.ntmps7
  go_wp2_with fail
  refine (alive_any _).mono ?_
  rintro e w1 ⟨rfl, g1⟩
  have k1 := g1.size
  go_wp2_with fail
  refine (new_t1 _).mono ?_
  rintro e w2 ⟨rfl, t2, g2⟩
  have G2 : Chg (fun k => w1.heap.size ≤ k) w w2 := (g1.trans g2).weaken (fun _ _ h => h.elim)
  have HT2 := hid t2
  clear g1 g2 t2
  go_wp2_with fail
  rw [HK.out]
  go_loopw [7, 8, 9] (fun x by_ round wr => ∃ (r n : Nat), r ≤ 2 ∧ (r = 0 ∧ n = 0 ∨ 1 ≤ r ∧ n = K) ∧ round = .int .i64 r ∧ by_ = .int .i64 (bytesOf (tq s n)) ∧ x = .string (xq s n) ∧ T1 w1.heap.size wr (w1.heap.size + 1) (tq s n) ∧ Chg (fun k => w1.heap.size ≤ k) w wr) (fun _ _ round _ => 2 - (intOf round).toNat)
  case atStart => exact ⟨0, 0, by omega, Or.inl ⟨rfl, rfl⟩, rfl, rfl, rfl, HT2.out, G2⟩
  case round =>
    obtain ⟨r, n, hr, hrn, rfl, rfl, rfl, ht, hG⟩ := hrel
    have hsz := ht.lt
    have HT := hid ht
    clear ht HT2 G2
    by_cases hr2 : r < 2
    · by_cases hr0 : r = 0
      · obtain ⟨rfl, rfl⟩ : r = 0 ∧ n = 0 := by omega
        clear hrn hr hr2
        go_wp2_with fail
        obtain ⟨wo, hwo⟩ : ∃ wo : World, wo = wr := ⟨_, rfl⟩
        subst hwo
        go_loopw [7, 8, 10] (fun x by_ i wr => ∃ (j : Nat), j ≤ K ∧ i = .int .i64 j ∧ by_ = .int .i64 (bytesOf (tq s j)) ∧ x = .string (xq s j) ∧ T1 w1.heap.size wr (w1.heap.size + 1) (tq s j) ∧ Chg (fun k => w1.heap.size ≤ k) w wr) (fun _ _ i _ => K - (intOf i).toNat)
        case atStart => exact ⟨0, by omega, rfl, rfl, rfl, HT.out, hG⟩
        case round =>
          obtain ⟨j, hj, rfl, rfl, rfl, ht, hG⟩ := hrel
          have hsz2 := ht.lt
          have HT3 := hid ht
          clear ht HT
          by_cases hjk : j < K
          · have hle := tq_bytes_le s j hs (by omega)
            have hnum := tq_num s j j (by omega)
            have hsize := xq_size s j
            have hokx : okS (xq s j) := by unfold okS; omega
            have hlen := tq_length s j
            have hnx : xq s (j + 1) = xq s j ++ ⟨#[113]⟩ := rfl
            have hbs := tq_bytes s j
            obtain ⟨B, hB⟩ : ∃ B, B = bytesOf (tq s j) := ⟨_, rfl⟩
            obtain ⟨x, hx⟩ : ∃ x, x = xq s j := ⟨_, rfl⟩
            rw [← hB] at hle hbs
            rw [← hx] at hnum hsize hokx hnx
            have hle2 : B ≤ 7200 := by omega
            have hadd : addT (tq s j) x = tq s (j + 1) := by rw [hx]; exact tq_add s j
            have HNUM := hid hnum
            have HSIZE := hid hsize
            have HOKX := hid hokx
            have HLEN := hid hlen
            have HNX := hid hnx
            have HBS := hid hbs
            have HADD := hid hadd
            have hxs : x.size ≤ 120 := by omega
            rw [← hB, ← hx]
            clear hB hx hnum hsize hokx hlen hnx hbs hadd hle
            go_wp2_with fail
            refine (of_t1 w1.heap.size _ _ _ _ HT3.out (by omega) HOKX.out (by rw [HLEN.out]; omega)).mono ?_
            rw [HNUM.out]
            rintro e w3 ⟨rfl, t3, g3⟩
            rw [HADD.out] at t3
            have HT4 := hid t3
            clear t3
            go_wp2_with fail
            go_roundw
            case rel => exact ⟨j + 1, by omega, by go_num, by rw [HBS.out]; have := HSIZE.out; go_num, by rw [HNX.out], HT4.out, hG.trans g3⟩
            case measure => simp [intOf]; omega
          · obtain rfl : j = K := by omega
            go_wp2_with fail
            go_roundw
            case rel => exact ⟨1, j, by omega, Or.inr ⟨by omega, rfl⟩, rfl, rfl, rfl, HT3.out, hG⟩
            case measure => simp [intOf]
      · obtain ⟨rfl, rfl⟩ : r = 1 ∧ n = K := by omega
        clear hrn hr hr2 hr0
        rw [show ((1 : Nat) : Int) = 1 from rfl]
        go_wp2_with fail
        obtain ⟨wo, hwo⟩ : ∃ wo : World, wo = wr := ⟨_, rfl⟩
        subst hwo
        go_loopw [7, 8, 10] (fun x by_ i wr => ∃ (j : Nat), j ≤ n ∧ i = .int .i64 j ∧ by_ = .int .i64 (bytesOf (tq s n)) ∧ x = .string (xq s j) ∧ T1 w1.heap.size wr (w1.heap.size + 1) (tq s n) ∧ Chg (fun k => w1.heap.size ≤ k) w wr) (fun _ _ i _ => n - (intOf i).toNat)
        case atStart => exact ⟨0, by omega, rfl, rfl, rfl, HT.out, hG⟩
        case round =>
          obtain ⟨j, hj, rfl, rfl, rfl, ht, hG⟩ := hrel
          have hsz2 := ht.lt
          have HT3 := hid ht
          clear ht HT
          by_cases hjk : j < n
          · have hnum := tq_num s n j (by omega)
            have hsize := xq_size s j
            have hokx : okS (xq s j) := by unfold okS; omega
            have hlen := tq_length s n
            have hnx : xq s (j + 1) = xq s j ++ ⟨#[113]⟩ := rfl
            obtain ⟨x, hx⟩ : ∃ x, x = xq s j := ⟨_, rfl⟩
            rw [← hx] at hnum hsize hokx hnx
            have hadd : addT (tq s n) x = tq s n := by rw [hx]; exact tq_same s n j hjk
            have HNUM := hid hnum
            have HSIZE := hid hsize
            have HOKX := hid hokx
            have HLEN := hid hlen
            have HNX := hid hnx
            have HADD := hid hadd
            have hxs : x.size ≤ 120 := by omega
            rw [← hx]
            clear hx hnum hsize hokx hlen hnx hadd
            go_wp2_with fail
            refine (of_t1 w1.heap.size _ _ _ _ HT3.out (by omega) HOKX.out (by rw [HLEN.out]; omega)).mono ?_
            rw [HNUM.out]
            rintro e w3 ⟨rfl, t3, g3⟩
            rw [HADD.out] at t3
            have HT4 := hid t3
            clear t3
            go_wp2_with fail
            go_roundw
            case rel => exact ⟨j + 1, by omega, by go_num, rfl, by rw [HNX.out], HT4.out, hG.trans g3⟩
            case measure => simp [intOf]; omega
          · obtain rfl : j = n := by omega
            go_wp2_with fail
            go_roundw
            case rel => exact ⟨2, j, by omega, Or.inr ⟨by omega, rfl⟩, rfl, rfl, rfl, HT3.out, hG⟩
            case measure => simp [intOf]
    · obtain rfl : n = K := by omega
      have hokx : okS (xq s n) := by unfold okS; rw [xq_size]; omega
      have hpos : pos (tq s n) (xq s n) = none := by rw [tq_pos, if_neg (by omega)]
      have HLEN := hid (tq_length s n)
      obtain ⟨x, hx⟩ : ∃ x, x = xq s n := ⟨_, rfl⟩
      rw [← hx]
      rw [← hx] at hokx hpos
      have HOKX := hid hokx
      have HPOS := hid hpos
      clear hx hrn hokx hpos
      go_wp2_with fail
      refine (known_t1 w1.heap.size _ _ _ _ HT.out HOKX.out).mono ?_
      rw [HPOS.out]
      rintro e w3 ⟨rfl, rfl⟩
      have HB := hid (tq_bytes_le s n hs (by omega))
      go_wp2_with fail
      refine (len_t1 w1.heap.size _ _ _ HT.out (by rw [HLEN.out]; omega)).mono ?_
      rw [HLEN.out]
      rintro e w4 ⟨rfl, g4⟩
      have HT4 := hid (HT.out.chg g4)
      have hG4 := hG.into g4 (fun _ _ h => h.elim)
      go_wp2_with fail
      refine (bytes_t1 w1.heap.size _ _ _ HT4.out (by rw [HLEN.out]; omega)).mono ?_
      rintro e w5 ⟨rfl, g5⟩
      have hG5 := hG4.into g5 (fun _ _ h => h.elim)
      go_wp2_with fail
      go_ret
      exact ⟨rfl, hG5.below (Nat.le_refl _) (fun k hk h => by omega)⟩
end Go.Proofs.Ytppcpemenebamaa
