/-
  A slice of acts that came in, opened to its cells.
-/
import Derived.Test.YtmhclhbiemifdaaAct
import Derived.Deep.Slices
import Derived.Deep.Fields
import Derived.ChangeSame
import Derived.ProofKit
import Derived.OpenShut
namespace Go.Proofs.Ytmhclhbiemifdaa
open Go.ChangeShapes Go.WideShapes Go.Deep Go.RowKit
/-- The cells of acts. -/
def actCells : List (Int × Int) → List Value
  | [] => []
  | (K, N) :: r => .int .i64 K :: .int .i64 N :: actCells r
theorem actCells_length (xs : List (Int × Int)) : (actCells xs).length = 2 * xs.length := by
  induction xs with
  | nil => rfl
  | cons x r ih => obtain ⟨K, N⟩ := x; simp [actCells, ih]; omega
theorem actCells_at (xs : List (Int × Int)) (k : Nat) (h : k < xs.length) : (actCells xs)[k * 2]? = some (.int .i64 xs[k].1) ∧ (actCells xs)[k * 2 + 1]? = some (.int .i64 xs[k].2) := by
  induction xs generalizing k with
  | nil => simp at h
  | cons x r ih =>
    obtain ⟨K, N⟩ := x
    cases k with
    | zero => simp [actCells]
    | succ k =>
      have := ih k (by simpa using h)
      rw [show (k + 1) * 2 = k * 2 + 2 by omega]
      simpa [actCells, Nat.add_right_comm _ 2 1] using this


section
variable {H : Type} {enc : TypeId × Value → H} {P : Program} {w : World} {base : Nat} {spare : Nat → Bool} {held : Bool}
theorem open_slice_fields {t e : TypeId} {fs : Array Field} {fuel : Nat} {cs : List Value} {x : DataW H × List MemPlace} (ht : P.underlying t = some (.slice e)) (he : P.underlying e = some (.struct fs))
    (hone : oneCellFields P fs = true) (hC : P.cellsOf e = fs.size) (h : DataW.trod enc P w base spare held fuel t cs = some x) :
    (cs = [.slice none 0 0] ∧ x = (.nil, [])) ∨
    ∃ (a : Addr) (len cap m : Nat) (D : Nat → DataW H) (Pl : Nat → List MemPlace), cs = [.slice (some a) len cap] ∧ base ≤ a.block ∧ len ≤ cap ∧ cap ≤ maxLen ∧ m = (if spare a.block then cap else len) ∧
      x = (.slice ((List.range len).map D) ((List.range (m - len)).map fun j => D (len + j)), MemPlace.row a (m * fs.size) ++ (List.range m).flatMap Pl) ∧
      ∀ i, i < m → ∃ (ys : List (DataW H × List MemPlace)) (n : Nat), D i = .agg (ys.map (·.1)) ∧ Pl i = ys.flatMap (·.2) ∧ ys.length = fs.size ∧
        ∀ (j : Nat) (f : Field), fs[j]? = some f → ∃ (v : Value) (y : DataW H × List MemPlace), w.cell? (a.add (i * fs.size + j)) = some v ∧ ys[j]? = some y ∧ DataW.trod enc P w base spare held n f.type [v] = some y := by
  rcases open_slice ht h with h0 | ⟨a, len, cap, m, n, D, Pl, hcs, hb, hl, hm, hmm, hx, hi⟩
  · exact .inl h0
  · refine .inr ⟨a, len, cap, m, D, Pl, hcs, hb, hl, hm, hmm, by rw [hC] at hx; exact hx, fun i him => ?_⟩
    obtain ⟨cs', hc, ht'⟩ := hi i him
    rw [hC] at hc
    obtain ⟨ys, n', hn', hy, hlen, hyl, hf⟩ := DataW.trod_struct he ht'
    obtain ⟨_, hcl, hat⟩ := World.cells?_some hc
    simp only [Prod.mk.injEq] at hy
    refine ⟨ys, n', hy.1, hy.2, hyl, fun j f hj => ?_⟩
    obtain ⟨ho, hk⟩ := hone_of hone j f hj
    have hjl : j < fs.size := (Array.getElem?_eq_some_iff.1 hj).1
    have hcell := hat j hjl
    have hv : cs'[j]? = some (cs'[j]'(by omega)) := List.getElem?_eq_getElem (by omega)
    have h1 := hf j f hj
    rw [ho, hk] at h1
    have hone' : (cs'.drop j).take 1 = [cs'[j]'(by omega)] := by
      rw [List.drop_eq_getElem_cons (by omega)]
      rfl
    rw [hone'] at h1
    have hys : ys[j]? = some (ys[j]'(by omega)) := List.getElem?_eq_getElem (by omega)
    refine ⟨_, _, ?_, hys, h1.trans hys⟩
    rw [← Go.Deep.add_add, hcell, hv]
end

theorem acts_list {w : World} {ad : Addr} (len : Nat) (h : ∀ i, i < len → ∃ K N : Int, w.cell? (ad.add (i * 2 + 0)) = some (.int .i64 K) ∧ w.cell? (ad.add (i * 2 + 1)) = some (.int .i64 N) ∧ (Lit.int .i64 K).wf = true ∧ (Lit.int .i64 N).wf = true) :
    ∃ xs : List (Int × Int), xs.length = len ∧ (∀ x ∈ xs, (Lit.int .i64 x.1).wf = true ∧ (Lit.int .i64 x.2).wf = true) ∧ ∀ (j : Nat) (u : Value), (actCells xs)[j]? = some u → w.cell? (ad.add j) = some u := by
  induction len with
  | zero => exact ⟨[], rfl, by simp, by simp [actCells]⟩
  | succ n ih =>
    obtain ⟨xs, h1, h2, h3⟩ := ih fun i hi => h i (by omega)
    obtain ⟨K, N, c0, c1, w0, w1⟩ := h n (by omega)
    have app : ∀ (l : List (Int × Int)), actCells (l ++ [(K, N)]) = actCells l ++ [.int .i64 K, .int .i64 N] := by
      intro l
      induction l with
      | nil => rfl
      | cons x r ih => obtain ⟨a, b⟩ := x; simp [actCells, ih]
    refine ⟨xs ++ [(K, N)], by simp [h1], ?_, ?_⟩
    · intro x hx
      rcases List.mem_append.1 hx with hx | hx
      · exact h2 x hx
      · simp only [List.mem_singleton] at hx
        subst hx
        exact ⟨w0, w1⟩
    · intro j u hj
      rw [app] at hj
      have hl : (actCells xs).length = n * 2 := by rw [actCells_length, h1]; omega
      rcases Nat.lt_or_ge j (n * 2) with hlt | hge
      · rw [List.getElem?_append_left (by omega)] at hj
        exact h3 j u hj
      · rw [List.getElem?_append_right (by omega), hl] at hj
        obtain ⟨d, rfl⟩ : ∃ d, j = n * 2 + d := ⟨j - n * 2, by omega⟩
        rw [Nat.add_sub_cancel_left] at hj
        match d, hj with
        | 0, hj => simp at hj; subst hj; exact c0
        | 1, hj => simp at hj; subst hj; exact c1
        | d + 2, hj => simp at hj

/-- What the law is told of a slice of acts. -/
def IsActs (w : World) (A : Option Addr) (len : Nat) (xs : List (Int × Int)) : Prop := xs.length = len ∧ Row w A (actCells xs) ∧ ∀ x ∈ xs, (Lit.int .i64 x.1).wf = true ∧ (Lit.int .i64 x.2).wf = true

theorem acts_open {H : Type} {enc : TypeId × Value → H} {w : World} {A : Option Addr} {len cap fuel : Nat} {x : DataW H × List MemPlace}
    (h : DataW.trod enc Try.prog w 0 (fun _ => true) true fuel 36 [.slice A len cap] = some x) : ∃ xs, IsActs w A len xs := by
  rcases open_slice_fields Try.underlying36 Try.underlying40 (by kernel_rfl) (by kernel_rfl) h with ⟨hcs, _⟩ | ⟨a, l, c, m, D, Pl, hcs, _, hl, _, hm, _, hi⟩
  · simp at hcs
    obtain ⟨rfl, rfl, rfl⟩ := hcs
    exact ⟨[], rfl, Row.nil_ _ _, by simp⟩
  · simp at hcs
    obtain ⟨rfl, rfl, rfl⟩ := hcs
    simp only [if_true] at hm
    have hel : ∀ i, i < len → ∃ K N : Int, w.cell? (a.add (i * 2 + 0)) = some (.int .i64 K) ∧ w.cell? (a.add (i * 2 + 1)) = some (.int .i64 N) ∧ (Lit.int .i64 K).wf = true ∧ (Lit.int .i64 N).wf = true := by
      intro i hil
      obtain ⟨ys, n, _, _, _, hf⟩ := hi i (by omega)
      obtain ⟨v0, y0, hc0, _, ht0⟩ := hf 0 _ rfl
      obtain ⟨v1, y1, hc1, _, ht1⟩ := hf 1 _ rfl
      obtain ⟨K, eK, _, wK⟩ := DataW.trod_int Try.underlying3 ht0
      obtain ⟨N, eN, _, wN⟩ := DataW.trod_int Try.underlying3 ht1
      obtain rfl : v0 = .int .i64 K := by simpa using eK
      obtain rfl : v1 = .int .i64 N := by simpa using eN
      exact ⟨K, N, hc0, hc1, wK, wN⟩
    obtain ⟨xs, h1, h2, h3⟩ := acts_list len hel
    exact ⟨xs, h1, Row.mk h3, h2⟩
end Go.Proofs.Ytmhclhbiemifdaa
