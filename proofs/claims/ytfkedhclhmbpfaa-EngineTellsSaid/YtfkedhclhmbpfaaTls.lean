/-
  EngineTells, the plain part: the engine's inputs are the law's, its answers Tell's.
-/
import Derived.Test.YtfkedhclhmbpfaaInp
namespace Go.Proofs.Ytfkedhclhmbpfaa
set_option linter.unusedVariables false
set_option linter.unusedSimpArgs false

theorem inpOf_snoc (ins : List (Int × Int)) (k n : Int) : inpOf (ins ++ [(k, n)]) = fun x => if x = k then some (valueM n) else inpOf ins x := by
  funext x
  unfold inpOf
  rw [inputM_snoc]
  by_cases h : x = k
  · subst h; simp
  · rw [if_neg (fun e => h e.symm), if_neg h]
/-- After Set. -/
theorem set_inp {rs : List Rule} {Ul : List Int} {st : St} (h : Fine rs Ul st) {ins : List (Int × Int)} (hi : st.inp = inpOf ins) (k n : Int) (hr : st.rev ≤ 1000000) :
    ∃ st', setM st k (valueM n) = some st' ∧ Fine rs Ul st' ∧ st'.budget = st.budget ∧ st'.rev ≤ st.rev + 1 ∧ st'.inp = inpOf (ins ++ [(k, n)]) := by
  obtain ⟨st', h1, h2, h3, _, _, _, h7⟩ := top_set h k (valueM n) hr
  refine ⟨st', h1, h2, h3, ?_, ?_⟩
  · rcases h7 with ⟨_, rfl⟩ | ⟨_, h8, _⟩
    · omega
    · omega
  · rw [inpOf_snoc, ← hi]
    rcases h7 with ⟨h8, rfl⟩ | ⟨_, _, h9, _⟩
    · funext x
      by_cases e : x = k
      · subst e; rw [if_pos rfl]; exact h8
      · rw [if_neg e]
    · funext x
      unfold St.inp
      rw [h9]
      unfold setF
      by_cases e : x = k
      · subst e; simp
      · simp [e]
/-- After Ask. -/
theorem ask_tell {rs : List Rule} {Ul : List Int} (hU : Keys rs Ul) {st : St} (h : Fine rs Ul st) {ins : List (Int × Int)} (hi : st.inp = inpOf ins) (hb : ∀ x ∈ ins, 0 ≤ x.2 ∧ x.2 ≤ 255) {k : Int} (hk : k ∈ Ul) :
    ∃ st' s er, askTop rs (rs.length + 1) st k = some (st', s, er) ∧ Fine rs Ul st' ∧ st'.budget = st.budget ∧ st'.rev = st.rev ∧ st'.inp = inpOf ins ∧
      (match tellM rs ins (rs.length + 1) k [] with | none => s = noBytes ∧ er = 8 | some n => s = valueM n ∧ er = 0) := by
  obtain ⟨st', s, er, h1, h2, h3, h4, h5⟩ := top_ask hU h hk (Nat.lt_succ_self _)
  have hv := val_tell (rs := rs) hb k (Nat.lt_succ_self rs.length)
  have hi' : st'.inp = inpOf ins := by rw [← hi]; exact h3.inp
  refine ⟨st', s, er, h1, h2, h4, h3.rev, hi', ?_⟩
  rw [hi, hv] at h5
  cases ht : tellM rs ins (rs.length + 1) k [] with
  | none =>
    rw [ht] at h5
    rcases h5 with ⟨_, h6, _⟩ | ⟨h6, h7, _⟩
    · cases h6
    · exact ⟨h7, h6⟩
  | some n =>
    rw [ht] at h5
    rcases h5 with ⟨h6, h7, _⟩ | ⟨_, _, h7⟩
    · exact ⟨(Option.some.inj h7).symm, h6⟩
    · cases h7
end Go.Proofs.Ytfkedhclhmbpfaa
