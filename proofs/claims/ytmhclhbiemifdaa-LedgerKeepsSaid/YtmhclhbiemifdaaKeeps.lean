/-
  LedgerKeeps' walk.
-/
import Derived.Test.YtmhclhbiemifdaaActs
import Derived.LoopTactic
import Derived.ProofKit
namespace Go.Proofs.Ytmhclhbiemifdaa
open Go.ChangeShapes Go.WideShapes Go.ChangeAt Go.RowKit
set_option linter.unusedVariables false
set_option linter.unusedSimpArgs false

set_option maxRecDepth 100000 in
set_option maxHeartbeats 2000000 in
theorem keeps_any (A : Option Addr) (cap : Nat) (xs : List (Int × Int)) (B0 : Int) (w : World) (hr : Row w A (actCells xs)) (hn : xs.length ≤ 100) (hB0 : 0 ≤ B0) (hB1 : B0 ≤ 65535)
    (hb : ∀ x ∈ xs, -9223372036854775808 ≤ x.1 ∧ x.1 ≤ 9223372036854775807 ∧ -9223372036854775808 ≤ x.2 ∧ x.2 ≤ 9223372036854775807) :
    Calls Try.prog 6 #[.int .u16 B0, .slice A xs.length cap] w fun e w' => e = .returned (.bool true) ∧ Below w.heap.size w w' := by
  have HB := hid hb
  have HR := hid hr
  clear hb hr
  go_enter Try.func6, Try.ntmps6
  go_wp2_with fail
  refine (alive_any _).mono ?_
  rintro e w1 ⟨rfl, g1⟩
  have k1 := g1.size
  go_wp2_with fail
  refine (new_ok B0 _ (by omega) (by omega)).mono ?_
  rintro e w2 ⟨rfl, x2, g2, z2⟩
  have G2 := g1.trans g2
  have k2 : w1.heap.size < w2.heap.size := by omega
  have Z2 := hid z2
  clear z2 g1 g2
  go_wp2_with fail
  go_loopw [7] (fun i wr => ∃ (k : Nat) (B C H : Int), k ≤ xs.length ∧ i = .int .i64 k ∧ Inv B C H ∧ Led wr w1.heap.size B C H ∧ Chg (fun _ => False) w wr) (fun i _ => xs.length - (intOf i).toNat)
  case atStart => exact ⟨0, B0, 0, 0, by omega, rfl, ⟨by omega, by omega, by omega, by omega, by omega⟩, x2, G2⟩
  case round =>
    obtain ⟨k, B, C, H, hk, rfl, hi, hl, hG⟩ := hrel
    by_cases hlt : k < xs.length
    · obtain ⟨b, off, rfl, hb, hcs⟩ := HR.out.at_ (k := k) (by rw [actCells_length]; omega)
      have hc := actCells_at xs k hlt
      have e0 := hG.cell (hcs _ _ hc.1) (fun h => h)
      have e1 := hG.cell (hcs _ _ hc.2) (fun h => h)
      rw [← Nat.add_assoc] at e1
      obtain ⟨KN, hKN⟩ : ∃ x, x = xs[k] := ⟨_, rfl⟩
      have hbd := HB.out xs[k] (List.getElem_mem hlt)
      rw [← hKN] at e0 e1 hbd
      obtain ⟨K, N⟩ := KN
      dsimp only at e0 e1 hbd
      obtain ⟨b1, b2, b3, b4⟩ := hbd
      clear hc hcs hKN
      by_cases hK0 : K < 0
      · go_wp2_with fail
        go_ret
        exact ⟨rfl, hG.below (Nat.le_refl _) (fun _ _ h => h)⟩
      · by_cases hK2 : 2 < K
        · go_wp2_with fail
          go_ret
          exact ⟨rfl, hG.below (Nat.le_refl _) (fun _ _ h => h)⟩
        · obtain ⟨E, B', C', H', hs, hi', hsame, hHH⟩ := Step.ex B C H K N hi (by omega) (by omega)
          have HI := hid hi
          have HS := hid hs
          have HSA := hid hsame
          obtain ⟨a1, a2, a3, a4, a5⟩ := hi'
          obtain ⟨c1, c2, c3, c4, c5⟩ := hi
          clear hs hsame
          go_wp2_with fail
          refine (numbers_is _ _ _ _ _ hl).mono ?_
          rintro e w3 ⟨rfl, l3, g3, z3⟩
          have hG3 := hG.into g3 (by omega)
          have e0' := g3.cell e0 (by show ¬ b = _; omega)
          have e1' := g3.cell e1 (by show ¬ b = _; omega)
          have Z3 := hid z3
          clear z3 g3 hG hl e0 e1
          go_wp2_with fail
          refine (do_any _ B C H K N E B' C' H' _ l3 HI.out HS.out (by omega) (by omega)).mono ?_
          rintro e w5 ⟨rfl, l5, g5⟩
          have hG5 := hG3.into g5 (by omega)
          clear hG3 g5 l3
          go_wp2_with fail
          refine (numbers_is _ _ _ _ _ l5).mono ?_
          rintro e w6 ⟨rfl, l6, g6, z6⟩
          have hG6 := hG5.into g6 (by omega)
          have Z6 := hid z6
          clear z6 g6 hG5 l5
          by_cases hE : E = 0
          · subst hE
            go_wp2_with fail
            go_roundw
            case rel => exact ⟨k + 1, B', C', H', by omega, by go_num, ⟨a1, a2, a3, a4, a5⟩, l6, hG6⟩
            case measure => simp [intOf]; omega
          · obtain ⟨rfl, rfl, rfl⟩ := HSA.out hE
            go_wp2_with fail
            go_roundw
            case rel => exact ⟨k + 1, B', C', H', by omega, by go_num, ⟨a1, a2, a3, a4, a5⟩, l6, hG6⟩
            case measure => simp [intOf]; omega
    · go_wp2_with fail
      refine (numbers_nil _).mono ?_
      rintro e w3 ⟨rfl, rfl⟩
      go_wp2_with fail
      refine (charge_nil _ _).mono ?_
      rintro e w3 ⟨rfl, rfl⟩
      go_wp2_with fail
      refine (refund_nil _ _).mono ?_
      rintro e w3 ⟨rfl, rfl⟩
      go_wp2_with fail
      refine (set_nil _ _).mono ?_
      rintro e w3 ⟨rfl, rfl⟩
      go_wp2_with fail
      refine (fits_nil _ _).mono ?_
      rintro e w3 ⟨rfl, rfl⟩
      go_wp2_with fail
      go_ret
      exact ⟨rfl, hG.below (Nat.le_refl _) (fun _ _ h => h)⟩
end Go.Proofs.Ytmhclhbiemifdaa
