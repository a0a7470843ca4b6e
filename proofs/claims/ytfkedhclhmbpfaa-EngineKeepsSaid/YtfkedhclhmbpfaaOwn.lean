/-
  Rows that the program owns: kept over a change, written in place, cut.
-/
import Derived.Test.YtfkedhclhmbpfaaMap
import Derived.RangeFuncBox
import Derived.Maps.AppendAt
namespace Go.Proofs.Ytfkedhclhmbpfaa
open Go.RowKit Go.Maps
set_option linter.unusedVariables false
set_option linter.unusedSimpArgs false

theorem own_chg {w w' : World} {S : Nat → Prop} {base : Nat} {e : TypeId} {size n : Nat} {v : Value} {xs : List Value} (h : w.ownsRow base e size v n xs) (hc : Chg S w w') (hs : ∀ g, v.ownBlock = some g → ¬ S g) : w'.ownsRow base e size v n xs := by
  refine ⟨h.1, ?_⟩
  rcases h.2 with hn | ⟨g, cap, cur, rfl, hb, hgg, rest⟩
  · exact .inl hn
  · exact .inr ⟨g, cap, cur, rfl, hb, (hc.block g (Array.getElem?_eq_some_iff.1 hgg).1 (hs g rfl)).trans hgg, rest⟩
theorem chg_of_grown {w w' : World} {row : Option Nat} (h : w.grownBy w' row) : Chg (fun k => some k = row) w w' := ⟨h.os, h.tape, h.output, h.size, h.block⟩
theorem own_ne_b {w : World} {base e size n : Nat} {v : Value} {xs : List Value} {b t : Nat} {cs : Array Value} (ho : w.ownsRow base e size v n xs) (hb : Blk w b t cs) (ht : e ≠ t) : ∀ g, v.ownBlock = some g → g ≠ b := by
  intro g hg e1
  subst e1
  rcases ho.2 with ⟨rfl, _⟩ | ⟨g', cap, cur, rfl, _, hgg, _⟩
  · simp [Value.ownBlock] at hg
  · simp [Value.ownBlock] at hg
    subst hg
    unfold Blk at hb
    rw [hb] at hgg
    simp at hgg
    exact ht hgg.2.symm
theorem own_ne_o {w : World} {base e size n base' e' size' n' : Nat} {v v' : Value} {xs xs' : List Value} (ho : w.ownsRow base e size v n xs) (ho' : w.ownsRow base' e' size' v' n' xs') (ht : e ≠ e') : ∀ g, v.ownBlock = some g → v'.ownBlock ≠ some g := by
  intro g hg hg'
  rcases ho.2 with ⟨rfl, _⟩ | ⟨g1, cap, cur, rfl, _, hgg, _⟩
  · simp [Value.ownBlock] at hg
  · simp [Value.ownBlock] at hg
    subst hg
    rcases ho'.2 with ⟨rfl, _⟩ | ⟨g2, cap2, cur2, rfl, _, hgg2, _⟩
    · simp [Value.ownBlock] at hg'
    · simp [Value.ownBlock] at hg'
      subst hg'
      rw [hgg] at hgg2
      simp at hgg2
      exact ht hgg2.2
theorem own_ne_m {κ : Type} {enc : κ → Value} {ok : κ → Prop} {w : World} {base e size n m : Nat} {v : Value} {xs : List Value} {b : Nat} {f : κ → Option Value} (ho : w.ownsRow base e size v n xs) (hm : Mp w enc ok b f m) : ∀ g, v.ownBlock = some g → g ≠ b := by
  intro g hg e1
  subst e1
  obtain ⟨es, clock, hmm, _⟩ := hm
  rcases ho.2 with ⟨rfl, _⟩ | ⟨g', cap, cur, rfl, _, hgg, _⟩
  · simp [Value.ownBlock] at hg
  · simp [Value.ownBlock] at hg
    subst hg
    rw [hmm] at hgg
    simp at hgg
theorem blk_ne_m {κ : Type} {enc : κ → Value} {ok : κ → Prop} {w : World} {b t m n : Nat} {cs : Array Value} {f : κ → Option Value} (hb : Blk w b t cs) (hm : Mp w enc ok m f n) : b ≠ m := by
  intro e1
  subst e1
  obtain ⟨es, clock, hmm, _⟩ := hm
  unfold Blk at hb
  rw [hb] at hmm
  simp at hmm

section
variable {w : World} {base e size n g cap : Nat} {xs : List Value}
/-- A cell of an owned row. -/
theorem own_cell (h : w.ownsRow base e size (.slice (some ⟨g, 0, none⟩) n cap) n xs) {j : Nat} {u : Value} (hj : xs[j]? = some u) : w.cell? ⟨g, j, none⟩ = some u := by
  rcases h.2 with ⟨he, rfl⟩ | ⟨g', cap', cur, he, _, hgg, _, _, _, ht⟩
  · simp at he
  · simp at he
    obtain ⟨rfl, rfl⟩ := he
    rw [← ht, List.getElem?_take] at hj
    split at hj
    · rw [cell_of_row w g j cur e (0, 0) hgg]
      simpa using hj
    · cases hj
theorem own_frozen (h : w.ownsRow base e size (.slice (some ⟨g, 0, none⟩) n cap) n xs) (j : Nat) : w.frozen? ⟨g, j, none⟩ = false := by
  rcases h.2 with ⟨he, rfl⟩ | ⟨g', cap', cur, he, _, hgg, _, _, _, ht⟩
  · simp at he
  · simp at he
    obtain ⟨rfl, rfl⟩ := he
    simp [World.frozen?, hgg]
/-- A store into an owned row. -/
theorem own_set (h : w.ownsRow base e size (.slice (some ⟨g, 0, none⟩) n cap) n xs) (j : Nat) (u : Value) : (w.setCell ⟨g, j, none⟩ u).ownsRow base e size (.slice (some ⟨g, 0, none⟩) n cap) n (xs.set j u) := by
  refine ⟨by rw [List.length_set]; exact h.1, ?_⟩
  rcases h.2 with ⟨he, rfl⟩ | ⟨g', cap', cur, he, hb, hgg, hnc, hcm, hcs, ht⟩
  · simp at he
  · simp at he
    obtain ⟨rfl, rfl⟩ := he
    refine .inr ⟨g, cap, cur.setIfInBounds j u, rfl, hb, ?_, hnc, hcm, by simp [hcs], ?_⟩
    · simp [World.setCell, Array.getElem?_modify, hgg]
    · rw [Array.toList_setIfInBounds, List.take_set, ht]
theorem own_lt (h : w.ownsRow base e size (.slice (some ⟨g, 0, none⟩) n cap) n xs) : g < w.heap.size := (h.lt g rfl).2
theorem own_cap (h : w.ownsRow base e size (.slice (some ⟨g, 0, none⟩) n cap) n xs) : n ≤ cap ∧ cap ≤ maxLen := by
  rcases h.2 with ⟨he, rfl⟩ | ⟨g', cap', cur, he, hb, hgg, hnc, hcm, hcs, ht⟩
  · simp at he
  · simp at he
    obtain ⟨rfl, rfl⟩ := he
    exact ⟨hnc, hcm⟩
/-- The first m elements of an owned row. -/
theorem own_cut (h : w.ownsRow base e size (.slice (some ⟨g, 0, none⟩) n cap) n xs) {m : Nat} (hm : m ≤ n) : w.ownsRow base e size (.slice (some ⟨g, 0, none⟩) m cap) m (xs.take (m * size)) := by
  have hl := h.1
  have hmn : m * size ≤ n * size := Nat.mul_le_mul_right _ hm
  refine ⟨by rw [List.length_take]; omega, ?_⟩
  rcases h.2 with ⟨he, rfl⟩ | ⟨g', cap', cur, he, hb, hgg, hnc, hcm, hcs, ht⟩
  · simp at he
  · simp at he
    obtain ⟨rfl, rfl⟩ := he
    refine .inr ⟨g, cap, cur, rfl, hb, hgg, by omega, hcm, hcs, ?_⟩
    rw [← ht, List.take_take, Nat.min_eq_left hmn]
theorem own_row1 {A : Option Addr} {xs : List Value} (ho : w.ownsRow base e 1 (.slice A n cap) n xs) : Row w A xs := by
  rcases ho.2 with ⟨he, rfl⟩ | ⟨g, cap', cur, he, _, hgg, _, _, _, ht⟩
  · have hx : xs = [] := List.eq_nil_of_length_eq_zero (by simpa using ho.1)
    subst hx
    exact Row.nil_ _ _
  · simp at he
    obtain ⟨rfl, rfl⟩ := he
    refine fun i v hi => ⟨g, 0, rfl, (Array.getElem?_eq_some_iff.1 hgg).1, fun j u hj => ?_⟩
    rw [← ht, List.getElem?_take] at hj
    split at hj
    · rw [Nat.zero_add, cell_of_row w g j cur e (0, 0) hgg]
      simpa using hj
    · cases hj
end
theorem news1 (w : World) (n : Nat) (x : Value) (t : TypeId) (hz : w.heap.size = n) : ∀ j u, [x][j]? = some u → (w.alloc (.cells #[x] t)).cell? ((⟨n, 0, none⟩ : Addr).add j) = some u := by
  subst hz
  exact cell_one_new w x t
theorem ba_inj {a b : ByteArray} (h : a.toList = b.toList) : a = b := by
  rw [ByteArray.toList_eq, ByteArray.toList_eq] at h
  exact Go.WideShapes.bytes_inj h
theorem ba_ne {a b : ByteArray} (h : ¬ a = b) : (a.toList == b.toList) = false := by
  rw [beq_eq_false_iff_ne]
  exact fun e => h (ba_inj e)
end Go.Proofs.Ytfkedhclhmbpfaa
