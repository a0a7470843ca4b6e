/-
  alive: the chapter's example.
-/
import Derived.Test.YthecpiigabfboaaLII
namespace Go.Proofs.Ythecpiigabfboaa
open Go.RowKit Go.Maps Go.Shelf
set_option linter.unusedVariables false
set_option linter.unusedSimpArgs false

set_option maxHeartbeats 1000000 in
theorem alive_any (w : World) : Calls Try.prog 8 #[] w fun e w' => e = .returned (.bool true) ∧ Chg (fun _ => False) w w' := by
  go_enter Try.func8, Try.ntmps8
  go_wp2_with fail
  refine (LI.new_any _).mono ?_
  rintro e w1 ⟨rfl, l1, g1⟩
  have L1 := hid l1
  have G1 := hid g1
  clear l1 g1
  obtain ⟨b, hb⟩ : ∃ b, b = w.heap.size + 2 := ⟨_, rfl⟩
  rw [← hb] at L1 ⊢
  have HB := hid hb
  clear hb
  go_wp2_with fail
  refine (LI.use_any _ b _ _ 1 L1.out (by unfold LI.ok; rfl) (by simp)).mono ?_
  rintro e w2 ⟨rfl, l2, g2⟩
  have L2 := hid l2
  have G2 := hid g2
  clear l2 g2
  go_wp2_with fail
  refine (LI.use_any _ b _ _ 2 L2.out (by unfold LI.ok; rfl) (by simp [useL, dropL])).mono ?_
  rintro e w3 ⟨rfl, l3, g3⟩
  have L3 := hid l3
  have G3 := hid g3
  clear l3 g3
  go_wp2_with fail
  refine (LI.use_any _ b _ _ 1 L3.out (by unfold LI.ok; rfl) (by simp [useL, dropL])).mono ?_
  rintro e w4 ⟨rfl, l4, g4⟩
  have L4 := hid l4
  have G4 := hid g4
  clear l4 g4
  go_wp2_with fail
  refine (LI.last_any _ b _ _ L4.out).mono ?_
  rintro e w5 ⟨rfl, g5⟩
  have l5 := L4.out.chg g5 (fun _ _ h => h)
  have L5 := hid l5
  have G5 := hid g5
  clear l5 g5
  rw [show LI.lastV (useL (useL (useL [] (1 : Int)) 2) 1).getLast? = .tuple #[.int .i64 2, .bool true] from rfl]
  go_wp2_with fail
  refine (LI.len_any _ b _ _ L5.out).mono ?_
  rintro e w6 ⟨rfl, rfl⟩
  rw [show ((useL (useL (useL [] (1 : Int)) 2) 1).length : Int) = 2 from rfl]
  go_wp2_with fail
  go_ret
  refine ⟨rfl, ?_⟩
  have h1 := G1.out
  have h2 := h1.into G2.out (fun k hk e => by omega)
  have hs1 := h1.size
  have hs2 := h2.size
  have h3 := h2.into G3.out (fun k hk e => by
    rcases e with e | e <;> omega)
  have hs3 := h3.size
  have h4 := h3.into G4.out (fun k hk e => by
    rcases e with (e | e) | e <;> omega)
  exact h4.trans G5.out
end Go.Proofs.Ythecpiigabfboaa
