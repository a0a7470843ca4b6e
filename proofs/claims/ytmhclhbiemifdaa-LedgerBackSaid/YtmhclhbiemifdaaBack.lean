/-
  LedgerBack's walk.
-/
import Derived.Test.YtmhclhbiemifdaaLed
import Derived.LoopTactic
import Derived.ProofKit
namespace Go.Proofs.Ytmhclhbiemifdaa
open Go.ChangeShapes Go.WideShapes Go.ChangeAt Go.RowKit
set_option linter.unusedVariables false
set_option linter.unusedSimpArgs false

/-- The sum of the first k numbers. -/
def sm (zs : List Int) : Nat → Int
  | 0 => 0
  | k + 1 => sm zs k + zs.getD k 0
theorem sm_step {zs : List Int} {k : Nat} (h : k < zs.length) : sm zs (k + 1) = sm zs k + zs[k] := by
  simp [sm, List.getD_eq_getElem?_getD, h]
theorem sm_bound {zs : List Int} (hb : ∀ z ∈ zs, 0 ≤ z ∧ z ≤ 255) (k : Nat) (hk : k ≤ zs.length) : 0 ≤ sm zs k ∧ sm zs k ≤ 255 * k := by
  induction k with
  | zero => simp [sm]
  | succ k ih =>
    have := ih (by omega)
    have h1 := hb zs[k] (List.getElem_mem (by omega))
    rw [sm_step (by omega)]
    omega

theorem sm_mono {zs : List Int} (hb : ∀ z ∈ zs, 0 ≤ z ∧ z ≤ 255) (i d : Nat) (hk : i + d ≤ zs.length) : sm zs i ≤ sm zs (i + d) := by
  induction d with
  | zero => simp
  | succ d ih =>
    have := ih (by omega)
    have h1 := hb zs[i + d] (List.getElem_mem (by omega))
    rw [← Nat.add_assoc, sm_step (by omega)]
    omega

set_option maxHeartbeats 1000000 in
theorem back_any (A : Option Addr) (cap : Nat) (zs : List Int) (q : Int) (w : World) (hr : Sl w A (zs.map (Value.int .u8))) (hb : ∀ z ∈ zs, 0 ≤ z ∧ z ≤ 255) (hn : zs.length ≤ 100) (hq0 : 0 ≤ q) (hq : q ≤ 255) :
    Calls Try.prog 7 #[.slice A zs.length cap, .int .u8 q] w fun e w' => e = .returned (.bool true) ∧ Below w.heap.size w w' := by
  have HB := hid hb
  have HR := hid hr
  clear hb hr
  go_enter Try.func7, Try.ntmps7
  go_wp2_with fail
  refine (alive_any _).mono ?_
  rintro e w1 ⟨rfl, g1⟩
  have k1 := g1.size
  go_wp2_with fail
  refine (new_ok 1048576 _ (by omega) (by omega)).mono ?_
  rintro e w2 ⟨rfl, x2, g2, z2⟩
  have G2 := g1.trans g2
  have Z2 := hid z2
  clear z2 g1 g2
  go_wp2_with fail
  go_loopw [7, 8] (fun sum i wr => ∃ (k : Nat), k ≤ zs.length ∧ i = .int .i64 k ∧ sum = .int .i64 (sm zs k) ∧ Led wr w1.heap.size 1048576 (sm zs k) (sm zs k) ∧ Chg (fun _ => False) w wr) (fun _ i _ => zs.length - (intOf i).toNat)
  case atStart => exact ⟨0, by omega, rfl, rfl, x2, G2⟩
  case round =>
    obtain ⟨k, hk, rfl, rfl, hl, hG⟩ := hrel
    clear x2 G2
    have sb := sm_bound HB.out k hk
    obtain ⟨c, hc⟩ : ∃ c, c = sm zs k := ⟨_, rfl⟩
    rw [← hc] at sb hl
    have HC := hid hc
    rw [← hc]
    clear hc
    by_cases hlt : k < zs.length
    · obtain ⟨ad, rfl, had, hcell⟩ := HR.out.at_ (k := k) (by simpa using hlt)
      replace hcell := hG.cell hcell (fun h => h)
      obtain ⟨z, hz⟩ : ∃ z, z = zs[k] := ⟨_, rfl⟩
      have hzb := HB.out zs[k] (List.getElem_mem hlt)
      have hst := sm_step hlt
      rw [← hz] at hzb hst
      rw [List.getElem_map, ← hz] at hcell
      rw [← HC.out] at hst
      have HST := hid hst
      clear hz hst
      go_wp2_with fail
      refine (charge_up _ z _ c c _ hl sb.1 (by omega) (by omega) (by omega) (by omega) (by omega) (by omega) (by omega)).mono ?_
      rintro e w3 ⟨rfl, l3, g3, z3⟩
      have hcell3 := g3.cell hcell (by rw [blk_of_add]; omega)
      clear hl hcell
      have Z3 := hid z3
      clear z3
      go_wp2_with fail
      go_roundw
      case rel => exact ⟨k + 1, by omega, by go_num, by rw [HST.out], by rw [HST.out]; exact l3, hG.into g3 (by omega)⟩
      case measure => simp [intOf]; omega
    · have hkn : k = zs.length := by omega
      have hCN : c = sm zs zs.length := by rw [HC.out, hkn]
      clear HC
      have HCN := hid hCN
      clear hCN hkn
      go_wp2_with fail
      refine (set_ok _ c _ c c _ hl sb.1 (by omega) (by omega)).mono ?_
      rintro e w3 ⟨rfl, l3, g3, z3⟩
      clear hl
      have Z3 := hid z3
      clear z3
      go_wp2_with fail
      obtain ⟨E, hE, hE2⟩ : ∃ E : Int, (c - 1 < 0 ∧ E = 1 ∨ 1099511627776 < c - 1 ∧ E = 1 ∨ 0 ≤ c - 1 ∧ c - 1 < c ∧ E = 4) ∧ (c = 0 ∧ E = 1 ∨ 0 < c ∧ E = 4) := by
        by_cases h0 : c = 0
        · exact ⟨1, by omega, by omega⟩
        · exact ⟨4, by omega, by omega⟩
      refine (set_no' _ (c - 1) _ c c _ l3 sb.1 (by omega) (by omega) E hE).mono ?_
      rintro e w4 ⟨rfl, l4, g4, z4⟩
      have Z4 := hid z4
      have HE2 := hid hE2
      clear z4 l3 hE hE2
      go_wp2_with fail
      refine (fits_is _ 1 _ c c _ l4 sb.1 (by omega) (by omega) false (by simp <;> omega)).mono ?_
      rintro e w5 ⟨rfl, l5, g5, z5⟩
      have Z5 := hid z5
      clear z5 l4
      have hG5 := (((hG.into g3 (by omega)).into g4 (by omega)).into g5 (by omega))
      clear hG g3 g4 g5
      go_wp2_with fail
      go_loopw [12] (fun i wr => ∃ (k : Nat), k ≤ zs.length ∧ i = .int .i64 ((k : Int) - 1) ∧ Led wr w1.heap.size c (sm zs k) c ∧ Chg (fun _ => False) w wr) (fun i _ => (intOf i + 1).toNat)
      case atStart => exact ⟨zs.length, by omega, rfl, by rw [← HCN.out]; exact l5, hG5⟩
      case round =>
        obtain ⟨j, hj, rfl, hl, hG⟩ := hrel
        clear l5 hG5
        cases j with
        | zero =>
          go_wp2_with fail
          refine (numbers_is _ _ _ _ _ hl).mono ?_
          rintro e w6 ⟨rfl, l6, g6, z6⟩
          have Z6 := hid z6
          clear z6 hl
          have hG6 := hG.into g6 (by omega)
          clear hG g6
          have hF : Below w.heap.size w w6 := hG6.below (Nat.le_refl _) (fun _ _ h => h)
          have h2 := HE2.out
          rcases h2 with ⟨h2, rfl⟩ | ⟨h2, rfl⟩
          · obtain rfl := h2
            go_wp2_with fail
            refine (refund_no' _ (1 + q) _ _ _ _ l6 (by simp [sm]) (by simp [sm]) (by omega) (by simp [sm]; omega)).mono ?_
            rintro e w7 ⟨rfl, l7, g7, z7⟩
            have hG7 := hG6.into g7 (by omega)
            clear z7
            go_wp2_with fail
            go_ret
            exact ⟨rfl, hG7.below (Nat.le_refl _) (fun _ _ h => h)⟩
          · go_wp2_with fail
            refine (refund_no' _ (1 + q) _ _ _ _ l6 (by simp [sm]) (by simp [sm]; omega) (by omega) (by simp [sm]; omega)).mono ?_
            rintro e w7 ⟨rfl, l7, g7, z7⟩
            have hG7 := hG6.into g7 (by omega)
            clear z7
            go_wp2_with fail
            go_ret
            exact ⟨rfl, hG7.below (Nat.le_refl _) (fun _ _ h => h)⟩
        | succ j =>
          have hlj : j < zs.length := by omega
          obtain ⟨ad, rfl, had, hcell⟩ := HR.out.at_ (k := j) (by simpa using hlj)
          replace hcell := hG.cell hcell (fun h => h)
          obtain ⟨z, hz⟩ : ∃ z, z = zs[j] := ⟨_, rfl⟩
          have hzb := HB.out zs[j] (List.getElem_mem hlj)
          have hst := sm_step hlj
          have hmo := sm_mono HB.out (j + 1) (zs.length - (j + 1)) (by omega)
          rw [show j + 1 + (zs.length - (j + 1)) = zs.length by omega, ← HCN.out] at hmo
          have sbj := sm_bound HB.out j (by omega)
          have sbj1 := sm_bound HB.out (j + 1) (by omega)
          rw [← hz] at hzb hst
          rw [List.getElem_map, ← hz] at hcell
          rw [hst] at hl sbj1 hmo
          have HST := hid hst
          clear hz hst
          rw [show ((j + 1 : Nat) : Int) - 1 = (j : Int) by omega]
          obtain ⟨d, hd⟩ : ∃ d, d = sm zs j := ⟨_, rfl⟩
          rw [← hd] at hl sbj sbj1 hmo
          have HD := hid hd
          clear hd
          go_wp2_with fail
          refine (refund_ok _ z _ _ _ _ hl (by omega) (by omega) (by omega) (by omega) (by omega)).mono ?_
          rintro e w6 ⟨rfl, l6, g6, z6⟩
          have Z6 := hid z6
          clear z6 hl
          go_wp2_with fail
          go_roundw
          case rel => exact ⟨j, by omega, rfl, by rw [← HD.out]; rw [show d + z - z = d from by omega] at l6; exact l6, hG.into g6 (by omega)⟩
          case measure => simp [intOf] <;> omega
end Go.Proofs.Ytmhclhbiemifdaa
