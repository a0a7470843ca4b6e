/-
  The engine's New.
-/
import Derived.Test.YtfkedhclhmbpfaaBud
import Derived.Outline
namespace Go.Proofs.Ytfkedhclhmbpfaa
open Go.RowKit Go.Maps
set_option linter.unusedVariables false
set_option linter.unusedSimpArgs false

theorem New_nil (w : World) (n : Int) : Calls Try.prog 11 #[.nilIface, .int .i64 n] w fun e w' => e = .returned (.tuple #[.pointer none, .int .i64 2]) ∧ w = w' := by
  have hq : ∀ W : World, (binOp .eql 55 .nilIface .nilIface).run Try.prog W = .ok (.bool true) W := fun W => by kernel_rfl
  go_enter Try.func11, Try.ntmps11
  go_wp2_with fail
  go_ret2
  exact ⟨rfl, rfl⟩
theorem eq_iface (A : Option Addr) (n cap : Nat) (W : World) : (binOp .eql 55 (.iface 31 (.agg #[.slice A n cap])) .nilIface).run Try.prog W = .ok (.bool false) W := by kernel_rfl
theorem New_bad (A : Option Addr) (rs : List Rule) (cap : Nat) (w : World) (n : Int) (hn : n < 0 ∨ 1099511627776 < n) : Calls Try.prog 11 #[rvOf A rs cap, .int .i64 n] w fun e w' => e = .returned (.tuple #[.pointer none, .int .i64 1]) ∧ Chg (fun _ => False) w w' := by
  have hq := eq_iface A rs.length cap
  have HN := hid hn
  clear hn
  unfold rvOf
  go_enter Try.func11, Try.ntmps11
  go_wp2_with fail
  refine (LE.new_no n _ HN.out).mono ?_
  rintro e w1 ⟨rfl, g1⟩
  have HG1 := hid g1
  clear g1
  go_wp2_with fail
  go_ret2
  exact ⟨rfl, HG1.out⟩

/-- What New leaves. -/
def NewR (w : World) (rv : Value) (n : Int) (e : Ending) (w' : World) : Prop :=
  ∃ L p, e = .returned (.tuple #[En L, .int .i64 0]) ∧ EngAt w' L p rv (newM n) ∧ (∀ k, p.F k → w.heap.size ≤ k) ∧ Chg (fun _ => False) w w'

set_option maxRecDepth 100000 in
set_option maxHeartbeats 4000000 in
theorem New_ok (A : Option Addr) (rs : List Rule) (cap : Nat) (w : World) (n : Int) (h0 : 0 ≤ n) (h1 : n ≤ 1099511627776) : Calls Try.prog 11 #[rvOf A rs cap, .int .i64 n] w (NewR w (rvOf A rs cap) n) := by
  have hq := eq_iface A rs.length cap
  have hmm := @run_makeMap Try.prog
  have HR := hid (show ∀ e w', NewR w (rvOf A rs cap) n e w' → NewR w (rvOf A rs cap) n e w' from fun _ _ h => h)
  have hpost : ∀ e w', NewR w (.iface 31 (.agg #[.slice A rs.length cap])) n e w' → NewR w (rvOf A rs cap) n e w' := fun _ _ h => h
  unfold rvOf
  go_enter Try.func11, Try.ntmps11
  go_wp2_with fail
  refine (LE.new_ok n w h0 h1).mono ?_
  rintro e w1 ⟨rfl, hl1, g1, hz1⟩
  have HL1 := hid hl1
  have HG1 := hid g1
  have HZ1 := hid hz1
  clear hl1 g1 HR hpost hz1
  go_wp2_with fail
  obtain ⟨w2, hw2⟩ : ∃ w2, (w1.alloc (.map #[] 0)).alloc (.map #[] 0) = w2 := ⟨_, rfl⟩
  have g2 : Chg (fun _ => False) w1 w2 := by rw [← hw2]; exact ((Chg.refl _ _).alloc _).alloc _
  have hz2 : w2.heap.size = w1.heap.size + 2 := by rw [← hw2]; simp
  have hm2 : Mp w2 enc ok w1.heap.size (fun _ => none) 0 := by rw [← hw2]; exact (Mp.made w1 enc ok).chg ((Chg.refl (fun _ => False) _).alloc _) (fun h => h)
  have hm3 : Mp w2 enc ok (w1.heap.size + 1) (fun _ => none) 0 := by
    rw [← hw2]
    have := Mp.made (w1.alloc (.map #[] 0)) enc ok
    rwa [World.size_alloc] at this
  rw [hw2]
  have HM2 := hid hm2
  have HM3 := hid hm3
  have HG2 := hid g2
  have HZ2 := hid hz2
  clear hw2 g2 hm2 hm3 hz2
  refine (words_new w2).mono ?_
  rintro e w3 ⟨rfl, ht3, g3⟩
  have HT3 := hid ht3
  have HG3 := hid g3
  have hz3 := g3.size
  clear ht3 g3
  go_wp2_with fail
  refine (LI.new_any w3).mono ?_
  rintro e w4 ⟨rfl, hu4, g4⟩
  have HU4 := hid hu4
  have HG4 := hid g4
  have hz4 := g4.size
  clear hu4 g4
  go_wp2_with fail
  go_ret2
  have hz1 := HZ1.out
  have hz2 := HZ2.out
  obtain ⟨rv, hrv⟩ : ∃ rv, rv = Value.iface 31 (Value.agg #[Value.slice A rs.length cap]) := ⟨_, rfl⟩
  obtain ⟨w5, hw5⟩ : ∃ w5, w4.alloc (.map #[] 0) = w5 := ⟨_, rfl⟩
  have g5 : Chg (fun _ => False) w4 w5 := by rw [← hw5]; exact (Chg.refl _ _).alloc _
  have hz5 : w5.heap.size = w4.heap.size + 1 := by rw [← hw5]; simp
  have hm5 : Mp w5 enc ok w4.heap.size (fun _ => none) 0 := by rw [← hw5]; exact Mp.made w4 enc ok
  obtain ⟨L, hL⟩ : ∃ L : Lay, L = ⟨w4.heap.size + 1, w1.heap.size, w1.heap.size + 1, w4.heap.size, w2.heap.size + 1, w.heap.size, w3.heap.size + 2⟩ := ⟨_, rfl⟩
  obtain ⟨w6, hw6⟩ : ∃ w6, w5.alloc (.cells (engCs L rv (newM n)) 69) = w6 := ⟨_, rfl⟩
  have g6 : Chg (fun _ => False) w5 w6 := by rw [← hw6]; exact (Chg.refl _ _).alloc _
  have hz6 : w6.heap.size = w5.heap.size + 1 := by rw [← hw6]; simp
  have hb6 : Blk w6 (w4.heap.size + 1) 69 (engCs L rv (newM n)) := by
    rw [← hw6, ← hz5]
    exact Blk.new w5 69 _
  have k3 : w2.heap.size + 1 < w3.heap.size := HT3.out.lt _ ⟨by omega, by omega⟩
  have k4 : w3.heap.size + 2 < w4.heap.size := HU4.out.lt _ ⟨by omega, by omega⟩
  have c26 : Chg (fun _ => False) w2 w6 := ((HG3.out.trans HG4.out).trans g5).trans g6
  have c46 : Chg (fun _ => False) w4 w6 := g5.trans g6
  have hle := HL1.out
  have hE : EngP w6 L (fun _ => 0) (fun _ => .slice none 0 0) (fun k => w2.heap.size ≤ k ∧ k < w2.heap.size + 2) (fun k => w3.heap.size ≤ k ∧ k < w3.heap.size + 3) (fun k => w.heap.size ≤ k ∧ k < w6.heap.size) rv (newM n) := by
    subst hL
    exact {
      eng := hb6
      ins := ⟨0, HM2.out.chg c26 (fun h => h)⟩
      cls := HM3.out.chg c26 (fun h => h)
      bus := ⟨0, (hm5.chg g6 (fun h => h)).congr (fun x => rfl)⟩
      wds := HT3.out.chg (HG4.out.trans c46) (fun _ _ h => h)
      led := (HG2.out.trans c26).blk HL1.out (fun h => h)
      usd := HU4.out.chg c46 (fun _ _ h => h)
      cel := fun k c hk => by cases hk
      lt := fun k hk => hk.2
      inj := fun k k' hk => by cases hk
      feb := ⟨by show w.heap.size ≤ w4.heap.size + 1; omega, by show w4.heap.size + 1 < w6.heap.size; omega⟩
      fim := ⟨by show w.heap.size ≤ w1.heap.size; omega, by show w1.heap.size < w6.heap.size; omega⟩
      fcm := ⟨by show w.heap.size ≤ w1.heap.size + 1; omega, by show w1.heap.size + 1 < w6.heap.size; omega⟩
      fbm := ⟨by show w.heap.size ≤ w4.heap.size; omega, by show w4.heap.size < w6.heap.size; omega⟩
      flb := ⟨by show w.heap.size ≤ w.heap.size; omega, by show w.heap.size < w6.heap.size; omega⟩
      fw := fun k hk => ⟨by have := hk.1; omega, by have := hk.2; omega⟩
      fu := fun k hk => ⟨by have := hk.1; omega, by have := hk.2; omega⟩
      floc := fun k hk => by cases hk
      fav := fun k g hk => by cases hk
      wu := fun k hk hu => by have := hk.2; have := hu.1; omega
      aeb := ⟨fun h => by have := h.2; dsimp only at this; omega, fun h => by have := h.2; dsimp only at this; omega⟩
      aim := ⟨fun h => by have := h.1; dsimp only at this; omega, fun h => by have := h.1; dsimp only at this; omega⟩
      acm := ⟨fun h => by have := h.1; dsimp only at this; omega, fun h => by have := h.1; dsimp only at this; omega⟩
      abm := ⟨fun h => by have := h.2; dsimp only at this; omega, fun h => by have := h.2; dsimp only at this; omega⟩
      alb := ⟨fun h => by have := h.1; dsimp only at this; omega, fun h => by have := h.1; dsimp only at this; omega⟩
      aloc := fun k hk => by cases hk
      aav := fun k g hk => by cases hk
      mic := by show w1.heap.size ≠ w1.heap.size + 1; omega
      mib := by show w1.heap.size ≠ w4.heap.size; omega
      mcb := by show w1.heap.size + 1 ≠ w4.heap.size; omega
      led0 := Int.le_refl 0
      led1 := h0
      led2 := h1
      led3 := Int.le_refl 0
      led4 := by show (0 : Int) ≤ 1099511627776; omega
      rev0 := Int.le_refl 0
      rev1 := by show (0 : Int) ≤ 1000001; omega
      ints := fun k x hk => by cases hk
      celt := fun k c hk => by cases hk
      aok := fun k c hk => by cases hk }
  have hfin : NewR w rv n (.returned (.tuple #[En L, .int .i64 0])) w6 := ⟨L, ⟨_, _, _, _⟩, rfl, hE.at_, fun k hk => hk.1, ((HG1.out.trans HG2.out).trans c26)⟩
  have hcs : engCs L rv (newM n) = #[rv, .int .i64 0, .map (some L.im), .map (some L.cm), .pointer (some ⟨L.wb, 0, none⟩), .pointer (some ⟨L.lb, 0, none⟩), .pointer (some ⟨L.ub, 0, none⟩), .map (some L.bm), .bool false, .int .i64 0, .int .i64 0, .int .i64 0] := by
    have hz : wrap64 0 = 0 := by unfold wrap64; omega
    unfold engCs
    show #[rv, .int .i64 0, .map (some L.im), .map (some L.cm), .pointer (some ⟨L.wb, 0, none⟩), .pointer (some ⟨L.lb, 0, none⟩), .pointer (some ⟨L.ub, 0, none⟩), .map (some L.bm), .bool false, .int .i64 (wrap64 0), .int .i64 (wrap64 0), .int .i64 (wrap64 0)] = _
    rw [hz]
  rw [← hw6, ← hw5, hcs, hL, hrv] at hfin
  exact hfin
end Go.Proofs.Ytfkedhclhmbpfaa
