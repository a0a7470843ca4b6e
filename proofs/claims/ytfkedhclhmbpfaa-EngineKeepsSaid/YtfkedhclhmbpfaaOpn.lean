/-
  Arguments that came in, opened: a slice of rules, a slice of acts.
-/
import Derived.Test.YtfkedhclhmbpfaaFar
import Derived.Deep.SlicePairs
import Derived.ProofKit
import Derived.OpenShut
namespace Go.Proofs.Ytfkedhclhmbpfaa
open Go.ChangeShapes Go.WideShapes Go.RowKit Go.Deep
set_option linter.unusedVariables false
set_option linter.unusedSimpArgs false

/-- A call, as the law's lists have it. -/
structure Act where
  kind : Int
  k : Int
  n : Int
def ActRow (w : World) (A : Option Addr) (xs : List Act) : Prop :=
  ∀ (i : Nat) (a : Act), xs[i]? = some a → ∃ b off, A = some ⟨b, off, none⟩ ∧ w.cell? ⟨b, off + i * 3, none⟩ = some (.int .i64 a.kind) ∧ w.cell? ⟨b, off + i * 3 + 1, none⟩ = some (.int .i64 a.k) ∧ w.cell? ⟨b, off + i * 3 + 2, none⟩ = some (.int .u8 a.n)
theorem ActRow.chg {S : Nat → Prop} {w w' : World} {A : Option Addr} {xs : List Act} (h : ActRow w A xs) (hc : Chg S w w') (hs : ∀ k, k < w.heap.size → ¬ S k) : ActRow w' A xs := by
  intro i a hi
  obtain ⟨b, off, rfl, e1, e2, e3⟩ := h i a hi
  exact ⟨b, off, rfl, hc.cell e1 (hs _ (lt_of_cell e1)), hc.cell e2 (hs _ (lt_of_cell e2)), hc.cell e3 (hs _ (lt_of_cell e3))⟩
/-- What is known of a slice of rules. -/
def IsRules (w : World) (A : Option Addr) (len : Nat) (rs : List Rule) : Prop := rs.length = len ∧ len ≤ maxLen ∧ RuleRow w A rs ∧ (∀ r ∈ rs, r.l.length ≤ maxLen) ∧ ∀ r ∈ rs, ok r.kind ∧ ∀ d ∈ r.l, ok d
def IsActs (w : World) (A : Option Addr) (len : Nat) (xs : List Act) : Prop := xs.length = len ∧ len ≤ maxLen ∧ ActRow w A xs ∧ ∀ a ∈ xs, ok a.kind ∧ ok a.k ∧ (Lit.int .u8 a.n).wf = true

theorem add_spot {w : World} {a : Addr} {v : Value} (h : w.cell? (a.add 0) = some v) : a.spot = none := by
  have := spot_of_cell h
  simpa [Addr.add] using this

theorem rules_open {H : Type} {enc : TypeId × Value → H} {w : World} {A : Option Addr} {len cap fuel : Nat} {d : DataW H} {p : List MemPlace}
    (h : DataW.trod enc Try.prog w 0 (fun _ => true) true fuel 22 [.slice A len cap] = some (d, p)) : ∃ rs, IsRules w A len rs := by
  rcases open_slice_pairs Try.underlying22 Try.underlying43 (by kernel_rfl) rfl rfl (by kernel_rfl) (by kernel_rfl) h with ⟨hcs, _⟩ | ⟨a, l, c, m, n, V0, V1, D0, D1, P0, P1, hcs, _, hl, hm, hmm, _, hx⟩
  · simp at hcs
    obtain ⟨rfl, rfl, rfl⟩ := hcs
    exact ⟨[], rfl, Nat.zero_le _, (fun i r hi => by simp at hi), (fun r hr => by cases hr), (fun r hr => by cases hr)⟩
  · simp at hcs
    obtain ⟨rfl, rfl, rfl⟩ := hcs
    simp only [if_true] at hmm
    subst hmm
    have each : ∀ i, i < len → ∃ r : Rule, (w.cell? (a.add (i * 2)) = some (.int .i64 r.kind) ∧ ∃ A' cap', w.cell? (a.add (i * 2 + 1)) = some (.slice A' r.l.length cap') ∧ Row w A' (r.l.map (Value.int .i64))) ∧ r.l.length ≤ maxLen ∧ ok r.kind ∧ ∀ d ∈ r.l, ok d := by
      intro i hi
      obtain ⟨h1, h2, h3, h4⟩ := hx i (by omega)
      obtain ⟨kd, hk1, _, hk2⟩ := DataW.trod_int Try.underlying3 h3
      simp at hk1
      rw [hk1] at h1
      rcases open_ints Try.underlying41 Try.underlying3 (by kernel_rfl) h4 with ⟨hcs, _⟩ | ⟨x, l', c', zs, hcs, _, hl', hm', hz, _, hcell, hwz⟩
      · simp at hcs
        rw [hcs] at h2
        exact ⟨⟨kd, []⟩, ⟨h1, none, 0, h2, Row.nil_ _ _⟩, Nat.zero_le _, hk2, by simp⟩
      · simp at hcs
        rw [hcs] at h2
        simp only [if_true] at hz
        have hlen : (zs.take l').length = l' := by simp; omega
        refine ⟨⟨kd, zs.take l'⟩, ⟨h1, some x, c', by rw [hlen]; exact h2, Row.mk fun j u hj => ?_⟩, by show (zs.take l').length ≤ _; omega, hk2, fun d hd => hwz d (List.mem_of_mem_take hd)⟩
        simp only [List.getElem?_map, List.getElem?_take] at hj
        split at hj
        · have hjl : j < zs.length := by omega
          rw [hcell j hjl]
          simp [List.getD_eq_getElem?_getD, hjl] at hj ⊢
          exact hj
        · simp at hj
    haveI : Inhabited Rule := ⟨⟨0, []⟩⟩
    obtain ⟨f, hf⟩ := choose_lt each
    have hget : ∀ i r, ((List.range len).map f)[i]? = some r → i < len ∧ r = f i := by
      intro i r hi
      rw [List.getElem?_map] at hi
      by_cases hlt : i < len
      · simp [hlt] at hi
        exact ⟨hlt, hi.symm⟩
      · simp [hlt] at hi
    have hmem : ∀ r ∈ (List.range len).map f, ∃ i, i < len ∧ r = f i := by
      intro r hr
      obtain ⟨i, hi, rfl⟩ := List.mem_map.1 hr
      exact ⟨i, by simpa using hi, rfl⟩
    refine ⟨(List.range len).map f, by simp, by omega, fun i r hi => ?_, fun r hr => ?_, fun r hr => ?_⟩
    · obtain ⟨hlt, rfl⟩ := hget i r hi
      obtain ⟨⟨h1, A', cap', h2, h3⟩, -⟩ := hf i hlt
      have hs := add_spot (hf 0 (by omega)).1.1
      obtain ⟨b, off, sp⟩ := a
      obtain rfl : sp = none := hs
      rw [add_none] at h1 h2
      refine ⟨b, off, A', cap', rfl, h1, h2, fun j d hj => ?_⟩
      obtain ⟨b', off', hA, _, hcs⟩ := h3 j (.int .i64 d) (by rw [List.getElem?_map, hj]; rfl)
      exact ⟨b', off', hA, fun j d hj => hcs j _ (by rw [List.getElem?_map, hj]; rfl)⟩
    · obtain ⟨i, hlt, rfl⟩ := hmem r hr
      exact (hf i hlt).2.1
    · obtain ⟨i, hlt, rfl⟩ := hmem r hr
      exact (hf i hlt).2.2

set_option maxRecDepth 100000 in
theorem acts_open {H : Type} {enc : TypeId × Value → H} {w : World} {A : Option Addr} {len cap fuel : Nat} {d : DataW H} {p : List MemPlace}
    (h : DataW.trod enc Try.prog w 0 (fun _ => true) true fuel 23 [.slice A len cap] = some (d, p)) : ∃ xs, IsActs w A len xs := by
  rcases open_slice Try.underlying23 h with ⟨hcs, _⟩ | ⟨a, l, c, m, n, D, Pl, hcs, _, hl, hm, hmm, _, hx⟩
  · simp at hcs
    obtain ⟨rfl, rfl, rfl⟩ := hcs
    exact ⟨[], rfl, Nat.zero_le _, (fun i r hi => by simp at hi), (fun r hr => by cases hr)⟩
  · simp at hcs
    obtain ⟨rfl, rfl, rfl⟩ := hcs
    simp only [if_true] at hmm
    subst hmm
    have ce : Try.prog.cellsOf 33 = 3 := by kernel_rfl
    have each : ∀ i, i < len → ∃ r : Act, (w.cell? (a.add (i * 3)) = some (.int .i64 r.kind) ∧ w.cell? (a.add (i * 3 + 1)) = some (.int .i64 r.k) ∧ w.cell? (a.add (i * 3 + 2)) = some (.int .u8 r.n)) ∧ ok r.kind ∧ ok r.k ∧ (Lit.int .u8 r.n).wf = true := by
      intro i hi
      obtain ⟨cs', h1, h2⟩ := hx i (by omega)
      rw [ce] at h1
      obtain ⟨_, hlen, hcell⟩ := World.cells?_some h1
      obtain ⟨xs, k, hk, hxy, _, hxl, hf⟩ := DataW.trod_struct Try.underlying33 h2
      match xs, hxl, cs', hlen with
      | [y0, y1, y2], _, [v0, v1, v2], _ =>
        have g0 := hf 0 _ rfl
        have g1 := hf 1 _ rfl
        have g2 := hf 2 _ rfl
        have c3 : Try.prog.cellsOf 3 = 1 := by kernel_rfl
        have c5 : Try.prog.cellsOf 5 = 1 := by kernel_rfl
        simp [c3, c5] at g0 g1 g2
        have e0 := hcell 0 (by omega)
        have e1 := hcell 1 (by omega)
        have e2 := hcell 2 (by omega)
        rw [add_add] at e0 e1 e2
        obtain ⟨n0, q0, _, w0⟩ := DataW.trod_int Try.underlying3 g0
        obtain ⟨n1, q1, _, w1⟩ := DataW.trod_int Try.underlying3 g1
        obtain ⟨n2, q2, _, w2⟩ := DataW.trod_int Try.underlying5 g2
        simp at q0 q1 q2
        subst q0 q1 q2
        exact ⟨⟨n0, n1, n2⟩, ⟨by simpa using e0, by simpa using e1, by simpa using e2⟩, w0, w1, w2⟩
    haveI : Inhabited Act := ⟨⟨0, 0, 0⟩⟩
    obtain ⟨f, hf⟩ := choose_lt each
    refine ⟨(List.range len).map f, by simp, by omega, fun i r hi => ?_, fun r hr => ?_⟩
    · rw [List.getElem?_map] at hi
      by_cases hlt : i < len
      · simp [hlt] at hi
        subst hi
        obtain ⟨⟨h1, h2, h3⟩, -⟩ := hf i hlt
        have hs := add_spot (hf 0 (by omega)).1.1
        obtain ⟨b, off, sp⟩ := a
        obtain rfl : sp = none := hs
        rw [add_none] at h1 h2 h3
        exact ⟨b, off, rfl, h1, h2, h3⟩
      · simp [hlt] at hi
    · obtain ⟨i, hi, rfl⟩ := List.mem_map.1 hr
      exact (hf i (by simpa using hi)).2
end Go.Proofs.Ytfkedhclhmbpfaa
