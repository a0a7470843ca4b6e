/-
  Arguments that came in, opened: a slice of texts, a text.
-/
import Derived.Test.YthecpiigabfboaaLSJ
import Derived.SliceStrings
import Derived.SizedLaws
import Derived.ProofKit
import Derived.OpenShut
namespace Go.Proofs.Ythecpiigabfboaa
open Go.ChangeShapes Go.WideShapes Go.RowKit

/-- What the law is told of a slice of texts. -/
def IsStrs (w : World) (A : Option Addr) (len : Nat) (xs : List ByteArray) : Prop := xs.length = len ∧ Row w A (xs.map Value.string) ∧ ∀ x ∈ xs, LS.ok x

theorem weights_all {H : Type} {P : Program} {e : TypeId} (l : List ByteArray) : ∀ s ∈ l, s.data.toList.length ∈ DataW.weightsAll (H := H) P e (l.map fun s => .lit (.string s.data.toList)) := by
  induction l with
  | nil => simp
  | cons x r ih =>
    intro s hs
    simp only [List.map_cons, DataW.weightsAll, List.mem_append]
    rcases List.mem_cons.1 hs with rfl | hs
    · exact Or.inl (by simp [DataW.weights])
    · exact Or.inr (ih s hs)

theorem strs_open {H : Type} {enc : TypeId × Value → H} {w : World} {A : Option Addr} {len cap fuel : Nat} {d : DataW H} {p : List MemPlace}
    (h : DataW.trod enc Try.prog w 0 (fun _ => true) true fuel 49 [.slice A len cap] = some (d, p)) (hz : ∀ n ∈ d.weights Try.prog 49, n ≤ reachBytes) : ∃ xs, IsStrs w A len xs := by
  rcases open_strings Try.underlying49 Try.underlying9 (by kernel_rfl) h with ⟨hcs, _⟩ | ⟨a, l, c, ss, hcs, _, hl, _, hss, hx, hcell, _⟩
  · simp at hcs
    obtain ⟨rfl, rfl, rfl⟩ := hcs
    exact ⟨[], rfl, Row.nil_ _ _, by simp⟩
  · simp at hcs
    obtain ⟨rfl, rfl, rfl⟩ := hcs
    simp only [if_true] at hss
    simp only [Prod.mk.injEq] at hx
    obtain ⟨rfl, _⟩ := hx
    refine ⟨ss.take len, by simp; omega, Row.mk fun j u hj => ?_, fun x hx => ?_⟩
    · rw [List.getElem?_map, List.getElem?_take] at hj
      split at hj
      · have hjl : j < ss.length := by omega
        rw [hcell j hjl]
        simp [List.getD_eq_getElem?_getD, hjl] at hj ⊢
        exact hj
      · simp at hj
    · have hm : x.data.toList.length ∈ DataW.weights (H := H) Try.prog 49 (.slice (strs (ss.take len)) (strs (ss.drop len))) := by
        simp only [DataW.weights, Try.underlying49, List.mem_cons, List.mem_append]
        exact Or.inr (Or.inl (weights_all _ x hx))
      have := hz _ hm
      unfold LS.ok
      unfold reachBytes at this
      have e1 : x.data.toList.length = x.size := by simp
      omega
theorem str_ok {H : Type} {s : ByteArray} (hz : ∀ n ∈ (DataW.lit (.string s.data.toList) : DataW H).weights Try.prog 9, n ≤ reachBytes) : LS.ok s := by
  have := hz s.data.toList.length (by simp [DataW.weights])
  unfold LS.ok
  unfold reachBytes at this
  have e1 : s.data.toList.length = s.size := by simp
  omega
end Go.Proofs.Ythecpiigabfboaa
