/-
  LedgerHigh's walk.
-/
import Derived.Test.YtmhclhbiemifdaaLed
import Derived.LoopTactic
import Derived.ProofKit
namespace Go.Proofs.Ytmhclhbiemifdaa
open Go.ChangeShapes Go.WideShapes Go.ChangeAt Go.RowKit
set_option linter.unusedVariables false
set_option linter.unusedSimpArgs false

set_option maxHeartbeats 1000000 in
theorem high_any (A : Option Addr) (cap : Nat) (zs : List Int) (w : World) (hr : Sl w A (zs.map (Value.int .i8))) (hb : ∀ z ∈ zs, -128 ≤ z ∧ z ≤ 127) (hn : zs.length ≤ 200) :
    Calls Try.prog 4 #[.slice A zs.length cap] w fun e w' => e = .returned (.bool true) ∧ Below w.heap.size w w' := by
  go_enter Try.func4, Try.ntmps4
  go_wp2_with fail
  refine (alive_any _).mono ?_
  rintro e w1 ⟨rfl, g1⟩
  have k1 := g1.size
  go_wp2_with fail
  refine (new_ok 1073741824 _ (by omega) (by omega)).mono ?_
  rintro e w2 ⟨rfl, x2, g2, z2⟩
  have G2 := g1.trans g2
  have Z2 := hid z2
  clear z2 g1 g2
  go_wp2_with fail
  go_loopw [5, 6, 7] (fun now high i wr => ∃ (k : Nat) (c h : Int), k ≤ zs.length ∧ i = .int .i64 k ∧ now = .int .i64 c ∧ high = .int .i64 h ∧ 0 ≤ c ∧ c ≤ h ∧ h ≤ 127 * k ∧ Led wr w1.heap.size 1073741824 c h ∧ Chg (fun _ => False) w wr) (fun _ _ i _ => zs.length - (intOf i).toNat)
  case atStart => exact ⟨0, 0, 0, by omega, rfl, rfl, rfl, by omega, by omega, by omega, x2, G2⟩
  case round =>
    obtain ⟨k, c, h, hk, rfl, rfl, rfl, hc0, hch, hh, hl, hG⟩ := hrel
    clear x2 G2
    by_cases hlt : k < zs.length
    · obtain ⟨ad, rfl, _, hcell⟩ := (hr.chg hG (fun _ _ h => h)).at_ (k := k) (by simpa using hlt)
      obtain ⟨z, hz⟩ : ∃ z, z = zs[k] := ⟨_, rfl⟩
      have hzb := hb zs[k] (List.getElem_mem hlt)
      rw [← hz] at hzb
      rw [List.getElem_map, ← hz] at hcell
      clear hz hr hb
      by_cases hz0 : 0 ≤ z
      · by_cases hm : h < c + z
        · go_wp2_with fail
          refine (charge_up _ z _ c h _ hl hc0 (by omega) (by omega) (by omega) (by omega) hz0 (by omega) (by omega)).mono ?_
          rintro e w3 ⟨rfl, l3, g3, z3⟩
          clear hl hcell
          have Z3 := hid z3
          clear z3
          go_wp2_with fail
          refine (numbers_is _ _ _ _ _ l3).mono ?_
          rintro e w4 ⟨rfl, l4, g4, z4⟩
          have Z4 := hid z4
          clear z4 l3
          go_wp2_with fail
          go_roundw
          case rel => exact ⟨k + 1, c + z, c + z, by omega, by go_num, rfl, rfl, by omega, by omega, by omega, l4, (hG.into g3 (by omega)).into g4 (by omega)⟩
          case measure => simp [intOf]; omega
        · go_wp2_with fail
          refine (charge_low _ z _ c h _ hl hc0 (by omega) (by omega) (by omega) (by omega) hz0 (by omega) (by omega)).mono ?_
          rintro e w3 ⟨rfl, l3, g3, z3⟩
          clear hl hcell
          have Z3 := hid z3
          clear z3
          go_wp2_with fail
          refine (numbers_is _ _ _ _ _ l3).mono ?_
          rintro e w4 ⟨rfl, l4, g4, z4⟩
          have Z4 := hid z4
          clear z4 l3
          go_wp2_with fail
          go_roundw
          case rel => exact ⟨k + 1, c + z, h, by omega, by go_num, rfl, rfl, by omega, by omega, by omega, l4, (hG.into g3 (by omega)).into g4 (by omega)⟩
          case measure => simp [intOf]; omega
      · by_cases hm : -z ≤ c
        · go_wp2_with fail
          refine (refund_ok _ (-z) _ c h _ hl hc0 (by omega) (by omega) (by omega) hm).mono ?_
          rintro e w3 ⟨rfl, l3, g3, z3⟩
          clear hl hcell
          have Z3 := hid z3
          clear z3
          go_wp2_with fail
          refine (numbers_is _ _ _ _ _ l3).mono ?_
          rintro e w4 ⟨rfl, l4, g4, z4⟩
          have Z4 := hid z4
          clear z4 l3
          go_wp2_with fail
          go_roundw
          case rel => exact ⟨k + 1, c + z, h, by omega, by go_num, rfl, rfl, by omega, by omega, by omega, (by rw [show c + z = c - -z by omega]; exact l4), (hG.into g3 (by omega)).into g4 (by omega)⟩
          case measure => simp [intOf]; omega
        · go_wp2_with fail
          refine (refund_no' _ (-z) _ c h _ hl hc0 (by omega) (by omega) (by omega)).mono ?_
          rintro e w3 ⟨rfl, l3, g3, z3⟩
          clear hl hcell
          have Z3 := hid z3
          clear z3
          go_wp2_with fail
          refine (numbers_is _ _ _ _ _ l3).mono ?_
          rintro e w4 ⟨rfl, l4, g4, z4⟩
          have Z4 := hid z4
          clear z4 l3
          go_wp2_with fail
          go_roundw
          case rel => exact ⟨k + 1, c, h, by omega, by go_num, rfl, rfl, by omega, by omega, by omega, l4, (hG.into g3 (by omega)).into g4 (by omega)⟩
          case measure => simp [intOf]; omega
    · go_wp2_with fail
      go_ret
      exact ⟨rfl, hG.below (Nat.le_refl _) (fun _ _ h => h)⟩
end Go.Proofs.Ytmhclhbiemifdaa
