/-
  LedgerTwo answers true for every input.
  Conditions: none beyond the given row's.
-/
import Derived.Test.YtmhclhbiemifdaaLed
import Derived.ProofKit
namespace Go.Proofs.Ytmhclhbiemifdaa
open Go.ChangeShapes Go.WideShapes Go.ChangeAt Go.RowKit
set_option linter.unusedVariables false
set_option linter.unusedSimpArgs false


set_option maxHeartbeats 1000000 in
theorem two_a (B p q : Int) (w : World) (hB0 : 0 ≤ B) (hB : B ≤ 65535) (hp0 : 0 ≤ p) (hp : p ≤ 65535) (hq0 : 0 ≤ q) (hq : q ≤ 65535) (h : p + q ≤ B) :
    Calls Try.prog 3 #[.int .u16 B, .int .u16 p, .int .u16 q] w fun e w' => e = .returned (.bool true) ∧ Below w.heap.size w w' := by
  go_enter Try.func3, Try.ntmps3
  go_wp2_with fail
  refine (alive_any _).mono ?_
  rintro e w1 ⟨rfl, g1⟩
  have k1 := g1.size
  go_wp2_with fail
  refine (new_ok B _ (by omega) (by omega)).mono ?_
  rintro e w2 ⟨rfl, x2, g2, z2⟩
  go_wp2_with fail
  refine (new_ok B _ (by omega) (by omega)).mono ?_
  rintro e w3 ⟨rfl, y3, g3, z3⟩
  have x3 := g3.blk x2 (fun h => h)
  have Z2 := hid z2
  have Z3 := hid z3
  clear z2 z3
  go_wp2_with fail
  refine (charge_ok _ (p + q) B 0 0 _ x3 (by omega) (by omega) (by omega) (by omega) (by omega) (by omega) (by omega)).mono ?_
  rintro e w4 ⟨rfl, x4, g4, z4⟩
  have y4 := g4.blk y3 (by have := Z2.out; omega)
  clear x2 x3 x4 y3
  have Z4 := hid z4
  clear z4
  go_wp2_with fail
  refine (charge_ok _ p B 0 0 _ y4 (by omega) (by omega) (by omega) (by omega) (by omega) (by omega) (by omega)).mono ?_
  rintro e w5 ⟨rfl, y5, g5, z5⟩
  have Z5 := hid z5
  clear z5
  go_wp2_with fail
  refine (charge_ok _ q B _ _ _ y5 (by omega) (by omega) (by omega) (by omega) (by omega) (by omega) (by omega)).mono ?_
  rintro e w6 ⟨rfl, y6, g6, z6⟩
  have Z6 := hid z6
  clear z6
  go_wp2_with fail
  refine (numbers_is _ B _ _ _ y6).mono ?_
  rintro e w7 ⟨rfl, y7, g7, z7⟩
  have Z7 := hid z7
  clear z7
  go_wp2_with fail
  refine (fits_is _ _ B _ _ _ y7 (by omega) (by omega) (by omega) true (by simp <;> omega)).mono ?_
  rintro e w8 ⟨rfl, y8, g8, z8⟩
  have Z8 := hid z8
  clear z8
  go_wp2_with fail
  refine (fits_is _ _ B _ _ _ y8 (by omega) (by omega) (by omega) false (by simp <;> omega)).mono ?_
  rintro e w9 ⟨rfl, y9, g9, z9⟩
  have Z9 := hid z9
  clear z9
  go_wp2_with fail
  refine (charge_ok _ _ B _ _ _ y9 (by omega) (by omega) (by omega) (by omega) (by omega) (by omega) (by omega)).mono ?_
  rintro e w10 ⟨rfl, y10, g10, z10⟩
  have Z10 := hid z10
  clear z10
  go_wp2_with fail
  refine (fits_is _ 1 B _ _ _ y10 (by omega) (by omega) (by omega) false (by simp <;> omega)).mono ?_
  rintro e w11 ⟨rfl, y11, g11, z11⟩
  have Z11 := hid z11
  clear z11
  go_wp2_with fail
  refine (fits_is _ 0 B _ _ _ y11 (by omega) (by omega) (by omega) true (by simp <;> omega)).mono ?_
  rintro e w12 ⟨rfl, y12, g12, z12⟩
  have Z12 := hid z12
  clear z12
  go_wp2_with fail
  go_ret
  have z2 := Z2.out; have z3 := Z3.out
  have G : Chg (fun _ => False) w w12 := ((((((((((g1.trans g2).trans g3).into g4 (by omega)).into g5 (by omega)).into g6 (by omega)).into g7 (by omega)).into g8 (by omega)).into g9 (by omega)).into g10 (by omega)).into g11 (by omega)).into g12 (by omega)
  exact ⟨rfl, G.below (Nat.le_refl _) (fun _ _ h => h)⟩

set_option maxHeartbeats 1000000 in
theorem two_b (B p q : Int) (w : World) (hB0 : 0 ≤ B) (hB : B ≤ 65535) (hp0 : 0 ≤ p) (hp : p ≤ 65535) (hq0 : 0 ≤ q) (hq : q ≤ 65535) (h : B < p + q) (h1 : p ≤ B) (h2 : B - p < q) :
    Calls Try.prog 3 #[.int .u16 B, .int .u16 p, .int .u16 q] w fun e w' => e = .returned (.bool true) ∧ Below w.heap.size w w' := by
  go_enter Try.func3, Try.ntmps3
  go_wp2_with fail
  refine (alive_any _).mono ?_
  rintro e w1 ⟨rfl, g1⟩
  have k1 := g1.size
  go_wp2_with fail
  refine (new_ok B _ (by omega) (by omega)).mono ?_
  rintro e w2 ⟨rfl, x2, g2, z2⟩
  go_wp2_with fail
  refine (new_ok B _ (by omega) (by omega)).mono ?_
  rintro e w3 ⟨rfl, y3, g3, z3⟩
  have x3 := g3.blk x2 (fun h => h)
  have Z2 := hid z2
  have Z3 := hid z3
  clear z2 z3
  go_wp2_with fail
  refine (charge_no' _ (p + q) B 0 0 _ x3 (by omega) (by omega) (by omega) 4 (by omega)).mono ?_
  rintro e w4 ⟨rfl, x4, g4, z4⟩
  have y4 := g4.blk y3 (by have := Z2.out; omega)
  clear x2 x3 x4 y3
  have Z4 := hid z4
  clear z4
  go_wp2_with fail
  refine (charge_ok _ p B 0 0 _ y4 (by omega) (by omega) (by omega) (by omega) (by omega) (by omega) (by omega)).mono ?_
  rintro e w5 ⟨rfl, y5, g5, z5⟩
  have Z5 := hid z5
  clear z5
  go_wp2_with fail
  refine (charge_no' _ q B _ _ _ y5 (by omega) (by omega) (by omega) 4 (by omega)).mono ?_
  rintro e w6 ⟨rfl, y6, g6, z6⟩
  have Z6 := hid z6
  clear z6
  go_wp2_with fail
  refine (numbers_is _ B _ _ _ y6).mono ?_
  rintro e w7 ⟨rfl, y7, g7, z7⟩
  have Z7 := hid z7
  clear z7
  go_wp2_with fail
  refine (fits_is _ _ B _ _ _ y7 (by omega) (by omega) (by omega) true (by simp <;> omega)).mono ?_
  rintro e w8 ⟨rfl, y8, g8, z8⟩
  have Z8 := hid z8
  clear z8
  go_wp2_with fail
  refine (fits_is _ _ B _ _ _ y8 (by omega) (by omega) (by omega) false (by simp <;> omega)).mono ?_
  rintro e w9 ⟨rfl, y9, g9, z9⟩
  have Z9 := hid z9
  clear z9
  go_wp2_with fail
  refine (charge_ok _ _ B _ _ _ y9 (by omega) (by omega) (by omega) (by omega) (by omega) (by omega) (by omega)).mono ?_
  rintro e w10 ⟨rfl, y10, g10, z10⟩
  have Z10 := hid z10
  clear z10
  go_wp2_with fail
  refine (fits_is _ 1 B _ _ _ y10 (by omega) (by omega) (by omega) false (by simp <;> omega)).mono ?_
  rintro e w11 ⟨rfl, y11, g11, z11⟩
  have Z11 := hid z11
  clear z11
  go_wp2_with fail
  refine (fits_is _ 0 B _ _ _ y11 (by omega) (by omega) (by omega) true (by simp <;> omega)).mono ?_
  rintro e w12 ⟨rfl, y12, g12, z12⟩
  have Z12 := hid z12
  clear z12
  go_wp2_with fail
  go_ret
  have z2 := Z2.out; have z3 := Z3.out
  have G : Chg (fun _ => False) w w12 := ((((((((((g1.trans g2).trans g3).into g4 (by omega)).into g5 (by omega)).into g6 (by omega)).into g7 (by omega)).into g8 (by omega)).into g9 (by omega)).into g10 (by omega)).into g11 (by omega)).into g12 (by omega)
  exact ⟨rfl, G.below (Nat.le_refl _) (fun _ _ h => h)⟩

set_option maxHeartbeats 1000000 in
theorem two_c (B p q : Int) (w : World) (hB0 : 0 ≤ B) (hB : B ≤ 65535) (hp0 : 0 ≤ p) (hp : p ≤ 65535) (hq0 : 0 ≤ q) (hq : q ≤ 65535) (h : B < p + q) (h1 : B < p) (h2 : q ≤ B) :
    Calls Try.prog 3 #[.int .u16 B, .int .u16 p, .int .u16 q] w fun e w' => e = .returned (.bool true) ∧ Below w.heap.size w w' := by
  go_enter Try.func3, Try.ntmps3
  go_wp2_with fail
  refine (alive_any _).mono ?_
  rintro e w1 ⟨rfl, g1⟩
  have k1 := g1.size
  go_wp2_with fail
  refine (new_ok B _ (by omega) (by omega)).mono ?_
  rintro e w2 ⟨rfl, x2, g2, z2⟩
  go_wp2_with fail
  refine (new_ok B _ (by omega) (by omega)).mono ?_
  rintro e w3 ⟨rfl, y3, g3, z3⟩
  have x3 := g3.blk x2 (fun h => h)
  have Z2 := hid z2
  have Z3 := hid z3
  clear z2 z3
  go_wp2_with fail
  refine (charge_no' _ (p + q) B 0 0 _ x3 (by omega) (by omega) (by omega) 4 (by omega)).mono ?_
  rintro e w4 ⟨rfl, x4, g4, z4⟩
  have y4 := g4.blk y3 (by have := Z2.out; omega)
  clear x2 x3 x4 y3
  have Z4 := hid z4
  clear z4
  go_wp2_with fail
  refine (charge_no' _ p B 0 0 _ y4 (by omega) (by omega) (by omega) 4 (by omega)).mono ?_
  rintro e w5 ⟨rfl, y5, g5, z5⟩
  have Z5 := hid z5
  clear z5
  go_wp2_with fail
  refine (charge_ok _ q B _ _ _ y5 (by omega) (by omega) (by omega) (by omega) (by omega) (by omega) (by omega)).mono ?_
  rintro e w6 ⟨rfl, y6, g6, z6⟩
  have Z6 := hid z6
  clear z6
  go_wp2_with fail
  refine (numbers_is _ B _ _ _ y6).mono ?_
  rintro e w7 ⟨rfl, y7, g7, z7⟩
  have Z7 := hid z7
  clear z7
  go_wp2_with fail
  refine (fits_is _ _ B _ _ _ y7 (by omega) (by omega) (by omega) true (by simp <;> omega)).mono ?_
  rintro e w8 ⟨rfl, y8, g8, z8⟩
  have Z8 := hid z8
  clear z8
  go_wp2_with fail
  refine (fits_is _ _ B _ _ _ y8 (by omega) (by omega) (by omega) false (by simp <;> omega)).mono ?_
  rintro e w9 ⟨rfl, y9, g9, z9⟩
  have Z9 := hid z9
  clear z9
  go_wp2_with fail
  refine (charge_ok _ _ B _ _ _ y9 (by omega) (by omega) (by omega) (by omega) (by omega) (by omega) (by omega)).mono ?_
  rintro e w10 ⟨rfl, y10, g10, z10⟩
  have Z10 := hid z10
  clear z10
  go_wp2_with fail
  refine (fits_is _ 1 B _ _ _ y10 (by omega) (by omega) (by omega) false (by simp <;> omega)).mono ?_
  rintro e w11 ⟨rfl, y11, g11, z11⟩
  have Z11 := hid z11
  clear z11
  go_wp2_with fail
  refine (fits_is _ 0 B _ _ _ y11 (by omega) (by omega) (by omega) true (by simp <;> omega)).mono ?_
  rintro e w12 ⟨rfl, y12, g12, z12⟩
  have Z12 := hid z12
  clear z12
  go_wp2_with fail
  go_ret
  have z2 := Z2.out; have z3 := Z3.out
  have G : Chg (fun _ => False) w w12 := ((((((((((g1.trans g2).trans g3).into g4 (by omega)).into g5 (by omega)).into g6 (by omega)).into g7 (by omega)).into g8 (by omega)).into g9 (by omega)).into g10 (by omega)).into g11 (by omega)).into g12 (by omega)
  exact ⟨rfl, G.below (Nat.le_refl _) (fun _ _ h => h)⟩

set_option maxHeartbeats 1000000 in
theorem two_d (B p q : Int) (w : World) (hB0 : 0 ≤ B) (hB : B ≤ 65535) (hp0 : 0 ≤ p) (hp : p ≤ 65535) (hq0 : 0 ≤ q) (hq : q ≤ 65535) (h : B < p + q) (h1 : B < p) (h2 : B < q) :
    Calls Try.prog 3 #[.int .u16 B, .int .u16 p, .int .u16 q] w fun e w' => e = .returned (.bool true) ∧ Below w.heap.size w w' := by
  go_enter Try.func3, Try.ntmps3
  go_wp2_with fail
  refine (alive_any _).mono ?_
  rintro e w1 ⟨rfl, g1⟩
  have k1 := g1.size
  go_wp2_with fail
  refine (new_ok B _ (by omega) (by omega)).mono ?_
  rintro e w2 ⟨rfl, x2, g2, z2⟩
  go_wp2_with fail
  refine (new_ok B _ (by omega) (by omega)).mono ?_
  rintro e w3 ⟨rfl, y3, g3, z3⟩
  have x3 := g3.blk x2 (fun h => h)
  have Z2 := hid z2
  have Z3 := hid z3
  clear z2 z3
  go_wp2_with fail
  refine (charge_no' _ (p + q) B 0 0 _ x3 (by omega) (by omega) (by omega) 4 (by omega)).mono ?_
  rintro e w4 ⟨rfl, x4, g4, z4⟩
  have y4 := g4.blk y3 (by have := Z2.out; omega)
  clear x2 x3 x4 y3
  have Z4 := hid z4
  clear z4
  go_wp2_with fail
  refine (charge_no' _ p B 0 0 _ y4 (by omega) (by omega) (by omega) 4 (by omega)).mono ?_
  rintro e w5 ⟨rfl, y5, g5, z5⟩
  have Z5 := hid z5
  clear z5
  go_wp2_with fail
  refine (charge_no' _ q B _ _ _ y5 (by omega) (by omega) (by omega) 4 (by omega)).mono ?_
  rintro e w6 ⟨rfl, y6, g6, z6⟩
  have Z6 := hid z6
  clear z6
  go_wp2_with fail
  refine (numbers_is _ B _ _ _ y6).mono ?_
  rintro e w7 ⟨rfl, y7, g7, z7⟩
  have Z7 := hid z7
  clear z7
  go_wp2_with fail
  refine (fits_is _ _ B _ _ _ y7 (by omega) (by omega) (by omega) true (by simp <;> omega)).mono ?_
  rintro e w8 ⟨rfl, y8, g8, z8⟩
  have Z8 := hid z8
  clear z8
  go_wp2_with fail
  refine (fits_is _ _ B _ _ _ y8 (by omega) (by omega) (by omega) false (by simp <;> omega)).mono ?_
  rintro e w9 ⟨rfl, y9, g9, z9⟩
  have Z9 := hid z9
  clear z9
  go_wp2_with fail
  refine (charge_ok _ _ B _ _ _ y9 (by omega) (by omega) (by omega) (by omega) (by omega) (by omega) (by omega)).mono ?_
  rintro e w10 ⟨rfl, y10, g10, z10⟩
  have Z10 := hid z10
  clear z10
  go_wp2_with fail
  refine (fits_is _ 1 B _ _ _ y10 (by omega) (by omega) (by omega) false (by simp <;> omega)).mono ?_
  rintro e w11 ⟨rfl, y11, g11, z11⟩
  have Z11 := hid z11
  clear z11
  go_wp2_with fail
  refine (fits_is _ 0 B _ _ _ y11 (by omega) (by omega) (by omega) true (by simp <;> omega)).mono ?_
  rintro e w12 ⟨rfl, y12, g12, z12⟩
  have Z12 := hid z12
  clear z12
  go_wp2_with fail
  go_ret
  have z2 := Z2.out; have z3 := Z3.out
  have G : Chg (fun _ => False) w w12 := ((((((((((g1.trans g2).trans g3).into g4 (by omega)).into g5 (by omega)).into g6 (by omega)).into g7 (by omega)).into g8 (by omega)).into g9 (by omega)).into g10 (by omega)).into g11 (by omega)).into g12 (by omega)
  exact ⟨rfl, G.below (Nat.le_refl _) (fun _ _ h => h)⟩

end Go.Proofs.Ytmhclhbiemifdaa
