/-
  LedgerPlays' walk.
-/
import Derived.Test.YtmhclhbiemifdaaActs
import Derived.LoopTactic
import Derived.Deep.RegionHeld3
import Derived.Deep.DeepCutAuto
import Derived.ProofKit
namespace Go.Proofs.Ytmhclhbiemifdaa
open Go.ChangeShapes Go.WideShapes Go.ChangeAt Go.RowKit
set_option linter.unusedVariables false
set_option linter.unusedSimpArgs false

theorem keepA {w w3 : World} {x y z : Value} (h : ∀ (p : Addr) (v : Value), w.cell? p = some v → w3.cell? p = some v) {p : Addr} {v : Value} (hp : w.cell? p = some v) :
    (((w3.setCell ⟨w.heap.size, 0, none⟩ x).setCell ⟨w.heap.size, 1, none⟩ y).setCell ⟨w.heap.size, 2, none⟩ z).cell? p = some v := by
  have hlt := lt_of_cell hp
  rw [World.cell?_setCell_other, World.cell?_setCell_other, World.cell?_setCell_other]
  · exact h p v hp
  all_goals (rintro rfl; simp at hlt)
theorem keepB {w w3 : World} {o : Obj} (h : ∀ (p : Addr) (v : Value), w.cell? p = some v → w3.cell? p = some v) {p : Addr} {v : Value} (hp : w.cell? p = some v) :
    (w3.alloc o).cell? p = some v := ((Chg.refl (fun _ => False) w3).alloc o).cell (h p v hp) (fun h => h)

set_option maxRecDepth 100000 in
set_option maxHeartbeats 2000000 in
theorem plays_any (A : Option Addr) (cap : Nat) (xs : List (Int × Int)) (B0 n : Int) (w : World) (hr : Row w A (actCells xs)) (hn : xs.length ≤ 100) (hB0 : 0 ≤ B0) (hB1 : B0 ≤ 1099511627776)
    (hb : ∀ x ∈ xs, -9223372036854775808 ≤ x.1 ∧ x.1 ≤ 9223372036854775807 ∧ -9223372036854775808 ≤ x.2 ∧ x.2 ≤ 9223372036854775807) (hn0 : -9223372036854775808 ≤ n) (hn1 : n ≤ 9223372036854775807) :
    Calls Try.prog 5 #[.int .i64 B0, .slice A xs.length cap, .int .i64 n] w fun e w' => e = .returned (.bool true) ∧ Below w.heap.size w w' := by
  have HB := hid hb
  have HR := hid hr
  clear hb hr
  go_enter Try.func5, Try.ntmps5
  go_wp2_with fail
  refine (alive_any _).mono ?_
  rintro e w1 ⟨rfl, g1⟩
  have k1 := g1.size
  go_wp2_with fail
  refine (new_ok B0 _ (by omega) (by omega)).mono ?_
  rintro e w2 ⟨rfl, x2, g2, z2⟩
  have G2 := g1.trans g2
  have k2 : w1.heap.size < w2.heap.size := by omega
  have Z2 := hid z2
  clear z2 g1 g2
  go_wp2_with fail
  go_loopw [10] (fun i wr => ∃ (k : Nat) (B C H : Int), k ≤ xs.length ∧ i = .int .i64 k ∧ Inv B C H ∧ Led wr w1.heap.size B C H ∧ Blk wr w2.heap.size 38 #[.int .i64 B, .int .i64 C, .int .i64 H] ∧ Chg (fun _ => False) w wr) (fun i _ => xs.length - (intOf i).toNat)
  case atStart => exact ⟨0, B0, 0, 0, by omega, rfl, ⟨by omega, by omega, by omega, by omega, by omega⟩, x2.alloc _, Blk.new _ _ _, G2.alloc _⟩
  case round =>
    obtain ⟨k, B, C, H, hk, rfl, hi, hl, hm, hG⟩ := hrel
    by_cases hlt : k < xs.length
    · obtain ⟨b, off, rfl, hb, hcs⟩ := HR.out.at_ (k := k) (by rw [actCells_length]; omega)
      have hc := actCells_at xs k hlt
      have e0 := hG.cell (hcs _ _ hc.1) (fun h => h)
      have e1 := hG.cell (hcs _ _ hc.2) (fun h => h)
      rw [← Nat.add_assoc] at e1
      obtain ⟨KN, hKN⟩ : ∃ x, x = xs[k] := ⟨_, rfl⟩
      have hbd := HB.out xs[k] (List.getElem_mem hlt)
      rw [← hKN] at e0 e1 hbd
      obtain ⟨K, N⟩ := KN
      dsimp only at e0 e1 hbd
      obtain ⟨b1, b2, b3, b4⟩ := hbd
      have hkr := hm.lt
      clear hc hcs hKN
      by_cases hK0 : K < 0
      · go_wp2_with fail
        go_ret
        exact ⟨rfl, hG.below (Nat.le_refl _) (fun _ _ h => h)⟩
      · by_cases hK2 : 2 < K
        · go_wp2_with fail
          go_ret
          exact ⟨rfl, hG.below (Nat.le_refl _) (fun _ _ h => h)⟩
        · obtain ⟨E, B', C', H', hs, hi', _, _⟩ := Step.ex B C H K N hi (by omega) (by omega)
          have m0 : wr.cell? ⟨w2.heap.size, 0, none⟩ = some (.int .i64 B) := by rw [hm.cell]; rfl
          have m1 : wr.cell? ⟨w2.heap.size, 1, none⟩ = some (.int .i64 C) := by rw [hm.cell]; rfl
          have m2 : wr.cell? ⟨w2.heap.size, 2, none⟩ = some (.int .i64 H) := by rw [hm.cell]; rfl
          go_upto_region 14 with fail
          go_cut [11, 12] (fun y f wx => ∃ g : Nat, y = .pointer (some ⟨g, 0, none⟩) ∧ f = .int .i64 E ∧ Blk wx g 38 #[.int .i64 B', .int .i64 C', .int .i64 H'] ∧ Chg (fun _ => False) wr wx)
          case first =>
            go_region_held3 (fun w' => w'.cell? ⟨w2.heap.size, 0, none⟩ = some (.int .i64 B) ∧ w'.cell? ⟨w2.heap.size, 1, none⟩ = some (.int .i64 C) ∧ w'.cell? ⟨w2.heap.size, 2, none⟩ = some (.int .i64 H) ∧ w'.cell? ⟨b, off + k * 2, none⟩ = some (.int .i64 K) ∧ w'.cell? ⟨b, off + k * 2 + 1, none⟩ = some (.int .i64 N))
              (first
                | go_keep
                | exact ⟨keepA q3.out m0, keepA q3.out m1, keepA q3.out m2, keepA q3.out e0, keepA q3.out e1⟩
                | exact ⟨keepB q3.out m0, keepB q3.out m1, keepB q3.out m2, keepB q3.out e0, keepB q3.out e1⟩
                | exact ⟨q3.out _ _ m0, q3.out _ _ m1, q3.out _ _ m2, q3.out _ _ e0, q3.out _ _ e1⟩)
              (first
                | (go_at_call 14
                   refine (ref_any _ _ _ _ _ _ _ _ _ _ hi hs (by omega) (by omega)).mono ?_
                   rintro e w3 ⟨rfl, g3⟩
                   first
                     | (have yb : Blk w3 wr.heap.size 38 #[.int .i64 0, .int .i64 0, .int .i64 0] := g3.blk (Blk.new wr _ _).drew (fun h => h)
                        have y0 : w3.cell? ⟨wr.heap.size, 0, none⟩ = some (.int .i64 0) := by rw [yb.cell]; rfl
                        have y1 : w3.cell? ⟨wr.heap.size, 1, none⟩ = some (.int .i64 0) := by rw [yb.cell]; rfl
                        have y2 : w3.cell? ⟨wr.heap.size, 2, none⟩ = some (.int .i64 0) := by rw [yb.cell]; rfl
                        have f0 := yb.frozen 0
                        have f1 := yb.frozen 1
                        have f2 := yb.frozen 2
                        have q3 : Hid (∀ (p : Addr) (v : Value), wr.cell? p = some v → w3.cell? p = some v) := fun p v h => (((Chg.refl (fun _ => False) wr).alloc _).drew.trans g3).cell h (fun h => h)
                        have g4 : Chg (fun _ => False) wr w3 := ((Chg.refl (fun _ => False) wr).alloc _).drew.trans g3)
                     | (have g4 : Chg (fun _ => False) wr w3 := (Chg.refl (fun _ => False) wr).drew.trans g3
                        have q3 : Hid (∀ (p : Addr) (v : Value), wr.cell? p = some v → w3.cell? p = some v) := fun p v h => g4.cell h (fun h => h))))
            · go_wp2_with fail
              go_meet
              exact ⟨_, rfl, rfl, Blk.new _ _ _, g4.alloc _⟩
            · go_wp2_with fail
              go_meet
              exact ⟨_, rfl, rfl, ((yb.set_ 0 _).set_ 1 _).set_ 2 _, ((((Chg.refl (fun _ => False) wr).alloc (.cells #[.int .i64 0, .int .i64 0, .int .i64 0] 38)).drew.trans g3).into (S' := fun k => k = wr.heap.size) ((((Chg.refl (fun k => k = wr.heap.size) w3).setCell (p := ⟨wr.heap.size, 0, none⟩) rfl _).setCell (p := ⟨wr.heap.size, 1, none⟩) rfl _).setCell (p := ⟨wr.heap.size, 2, none⟩) rfl _) (by omega))⟩
          case rest =>
            obtain ⟨g, rfl, rfl, hy, hc⟩ := hcut
            have hl2 := hc.blk hl (fun h => h)
            have hm2 := hc.blk hm (fun h => h)
            have hG2 := hG.trans hc
            have e0' := hc.cell e0 (fun h => h)
            have e1' := hc.cell e1 (fun h => h)
            have y0 : wc.cell? ⟨g, 0, none⟩ = some (.int .i64 B') := by rw [hy.cell]; rfl
            have y1 : wc.cell? ⟨g, 1, none⟩ = some (.int .i64 C') := by rw [hy.cell]; rfl
            have y2 : wc.cell? ⟨g, 2, none⟩ = some (.int .i64 H') := by rw [hy.cell]; rfl
            have n0 : wc.cell? ⟨w2.heap.size, 0, none⟩ = some (.int .i64 B) := by rw [hm2.cell]; rfl
            have n1 : wc.cell? ⟨w2.heap.size, 1, none⟩ = some (.int .i64 C) := by rw [hm2.cell]; rfl
            have n2 : wc.cell? ⟨w2.heap.size, 2, none⟩ = some (.int .i64 H) := by rw [hm2.cell]; rfl
            have p0 := hm2.frozen 0
            have p1 := hm2.frozen 1
            have p2 := hm2.frozen 2
            have hbb : ¬ b = w2.heap.size := by omega
            have HY := hid hy
            have HM2 := hid hm2
            clear m0 m1 m2 e0 e1 hl hm hG hc hy hm2 hkr
            go_wp2_with fail
            refine (do_any _ B C H K N E B' C' H' _ (((hl2.far (p := ⟨w2.heap.size, 0, none⟩) (by simp; omega) _).far (p := ⟨w2.heap.size, 1, none⟩) (by simp; omega) _).far (p := ⟨w2.heap.size, 2, none⟩) (by simp; omega) _) hi hs (by omega) (by omega)).mono ?_
            rintro e w5 ⟨rfl, l5, g5⟩
            have m5 : Blk w5 w2.heap.size 38 #[.int .i64 B', .int .i64 C', .int .i64 H'] := g5.blk (((HM2.out.set_ 0 _).set_ 1 _).set_ 2 _) (by omega)
            have hG5 : Chg (fun _ => False) w w5 := (hG2.into (S' := fun k => k = w2.heap.size) ((((Chg.refl (fun k => k = w2.heap.size) wc).setCell (p := ⟨w2.heap.size, 0, none⟩) rfl _).setCell (p := ⟨w2.heap.size, 1, none⟩) rfl _).setCell (p := ⟨w2.heap.size, 2, none⟩) rfl _) (by omega)).into g5 (by omega)
            clear y0 y1 y2 n0 n1 n2 p0 p1 p2 e0' e1' hl2 HY HM2 g5 hG2
            obtain ⟨a1, a2, a3, a4, a5⟩ := hi'
            go_wp2_with fail
            refine (numbers_is _ _ _ _ _ l5).mono ?_
            rintro e w6 ⟨rfl, l6, g6, z6⟩
            have m6 := g6.blk m5 (by omega)
            have hG6 := hG5.into g6 (by omega)
            have q0 : w6.cell? ⟨w2.heap.size, 0, none⟩ = some (.int .i64 B') := by rw [m6.cell]; rfl
            have q1 : w6.cell? ⟨w2.heap.size, 1, none⟩ = some (.int .i64 C') := by rw [m6.cell]; rfl
            have q2 : w6.cell? ⟨w2.heap.size, 2, none⟩ = some (.int .i64 H') := by rw [m6.cell]; rfl
            have Z6 := hid z6
            clear z6 g6 hG5 l5 m5
            by_cases hx0 : n < 0
            · go_wp2_with fail
              refine (fits_is _ n _ _ _ _ l6 a1 a2 a3 false (by simp <;> omega)).mono ?_
              rintro e w7 ⟨rfl, l7, g7, z7⟩
              have m7 := g7.blk m6 (by omega)
              have hG7 := hG6.into g7 (by omega)
              have r0 : w7.cell? ⟨w2.heap.size, 0, none⟩ = some (.int .i64 B') := by rw [m7.cell]; rfl
              have r1 : w7.cell? ⟨w2.heap.size, 1, none⟩ = some (.int .i64 C') := by rw [m7.cell]; rfl
              have Z7 := hid z7
              clear z7 g7 hG6 l6 m6 q0 q1 q2
              go_wp2_with fail
              go_roundw
              case rel => exact ⟨k + 1, B', C', H', by omega, by go_num, ⟨a1, a2, a3, a4, a5⟩, l7, m7, hG7⟩
              case measure => simp [intOf]; omega
            · by_cases hx1 : n ≤ B' - C'
              · go_wp2_with fail
                refine (fits_is _ n _ _ _ _ l6 a1 a2 a3 true (by simp <;> omega)).mono ?_
                rintro e w7 ⟨rfl, l7, g7, z7⟩
                have m7 := g7.blk m6 (by omega)
                have hG7 := hG6.into g7 (by omega)
                have r0 : w7.cell? ⟨w2.heap.size, 0, none⟩ = some (.int .i64 B') := by rw [m7.cell]; rfl
                have r1 : w7.cell? ⟨w2.heap.size, 1, none⟩ = some (.int .i64 C') := by rw [m7.cell]; rfl
                have Z7 := hid z7
                clear z7 g7 hG6 l6 m6 q0 q1 q2
                go_wp2_with fail
                go_roundw
                case rel => exact ⟨k + 1, B', C', H', by omega, by go_num, ⟨a1, a2, a3, a4, a5⟩, l7, m7, hG7⟩
                case measure => simp [intOf]; omega
              · go_wp2_with fail
                refine (fits_is _ n _ _ _ _ l6 a1 a2 a3 false (by simp <;> omega)).mono ?_
                rintro e w7 ⟨rfl, l7, g7, z7⟩
                have m7 := g7.blk m6 (by omega)
                have hG7 := hG6.into g7 (by omega)
                have r0 : w7.cell? ⟨w2.heap.size, 0, none⟩ = some (.int .i64 B') := by rw [m7.cell]; rfl
                have r1 : w7.cell? ⟨w2.heap.size, 1, none⟩ = some (.int .i64 C') := by rw [m7.cell]; rfl
                have Z7 := hid z7
                clear z7 g7 hG6 l6 m6 q0 q1 q2
                go_wp2_with fail
                go_roundw
                case rel => exact ⟨k + 1, B', C', H', by omega, by go_num, ⟨a1, a2, a3, a4, a5⟩, l7, m7, hG7⟩
                case measure => simp [intOf]; omega
    · go_wp2_with fail
      go_ret
      exact ⟨rfl, hG.below (Nat.le_refl _) (fun _ _ h => h)⟩
end Go.Proofs.Ytmhclhbiemifdaa
