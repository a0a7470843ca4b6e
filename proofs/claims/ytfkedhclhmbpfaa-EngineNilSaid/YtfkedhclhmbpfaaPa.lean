/-
  What the rules tell, by definition: the evaluation of a key from the inputs.
-/
import Derived.Test.YtfkedhclhmbpfaaM
namespace Go.Proofs.Ytfkedhclhmbpfaa
set_option linter.unusedVariables false
set_option linter.unusedSimpArgs false

abbrev Inp := Int → Option ByteArray
/-- 'ask' without a state. -/
def pureA (f : Int → Option ByteArray) (_ : Unit) (d : Int) : Option (Unit × ByteArray) := (f d).map fun t => ((), t)
/-- 'ask' that notes the keys. -/
def noted (l : List Int) (d : Int) : List Int := if d ∈ l then l else l ++ [d]
def repA (f : Int → Option ByteArray) (l : List Int) (d : Int) : Option (List Int × ByteArray) := (f d).map fun t => (noted l d, t)

/-- A key's text, in at most n steps down. -/
def evalM (rs : List Rule) : Nat → Inp → Int → Option ByteArray
  | 0, _, _ => none
  | n + 1, ip, k => match ip k with
    | some s => some s
    | none => (textM rs (pureA (evalM rs n ip)) () k).map fun x => x.2

theorem textGo_mono {f g : Int → Option ByteArray} (h : ∀ d s, f d = some s → g d = some s) (kind : Int) (l : List Int) : ∀ (i : Nat) (sum : Int) (s : ByteArray), textGo kind (pureA f) l i sum () = some ((), s) → textGo kind (pureA g) l i sum () = some ((), s) := by
  induction l with
  | nil => intro i sum s hs; exact hs
  | cons d r ih =>
    intro i sum s hs
    unfold textGo at hs ⊢
    split at hs
    · rename_i hc
      rw [if_pos hc]
      exact ih _ _ _ hs
    · rename_i hc
      rw [if_neg hc]
      cases hf : f d with
      | none => simp [pureA, hf] at hs
      | some t =>
        simp only [pureA, hf, Option.map_some] at hs
        simp only [pureA, h d t hf, Option.map_some]
        split at hs
        · rename_i h1
          rw [if_pos h1]
          exact ih _ _ _ hs
        · rename_i h1
          rw [if_neg h1]
          split at hs
          · rename_i h2
            rw [if_pos h2]
            exact hs
          · rename_i h2
            rw [if_neg h2]
            split at hs
            · rename_i h3
              rw [if_pos h3]
              exact hs
            · rename_i h3
              rw [if_neg h3]
              exact ih _ _ _ hs
theorem textM_mono {f g : Int → Option ByteArray} (h : ∀ d s, f d = some s → g d = some s) (rs : List Rule) (k : Int) (s : ByteArray) (hs : textM rs (pureA f) () k = some ((), s)) : textM rs (pureA g) () k = some ((), s) := by
  unfold textM at hs ⊢
  split at hs
  · rename_i hc
    rw [if_pos hc]
    exact hs
  · rename_i hc
    rw [if_neg hc]
    split at hs
    · exact hs
    · exact textGo_mono h _ _ _ _ _ hs
theorem eval_up (rs : List Rule) (ip : Inp) : ∀ (n : Nat) (k : Int) (s : ByteArray), evalM rs n ip k = some s → evalM rs (n + 1) ip k = some s := by
  intro n
  induction n with
  | zero => intro k s h; cases h
  | succ n ih =>
    intro k s h
    unfold evalM at h ⊢
    cases hk : ip k with
    | some t => rw [hk] at h; exact h
    | none =>
      rw [hk] at h
      simp only [Option.map_eq_some_iff] at h ⊢
      obtain ⟨⟨u, t⟩, h, rfl⟩ := h
      exact ⟨((), t), textM_mono (fun d s hd => ih d s hd) rs k t h, rfl⟩
theorem eval_le (rs : List Rule) (ip : Inp) {n m : Nat} (hnm : n ≤ m) (k : Int) (s : ByteArray) (h : evalM rs n ip k = some s) : evalM rs m ip k = some s := by
  induction hnm with
  | refl => exact h
  | step _ ih => exact eval_up rs ip _ k s ih
theorem eval_det (rs : List Rule) (ip : Inp) {n m : Nat} {k : Int} {s t : ByteArray} (h1 : evalM rs n ip k = some s) (h2 : evalM rs m ip k = some t) : s = t := by
  have a := eval_le rs ip (Nat.le_max_left n m) k s h1
  have b := eval_le rs ip (Nat.le_max_right n m) k t h2
  rw [a] at b
  exact Option.some.inj b

/-- A key's text, if it has one. -/
noncomputable def val (rs : List Rule) (ip : Inp) (k : Int) : Option ByteArray :=
  open Classical in if h : ∃ s, ∃ n, evalM rs n ip k = some s then some (Classical.choose h) else none
theorem val_some {rs : List Rule} {ip : Inp} {k : Int} {s : ByteArray} : val rs ip k = some s ↔ ∃ n, evalM rs n ip k = some s := by
  unfold val
  constructor
  · intro h
    split at h
    · rename_i hx
      rw [← Option.some.inj h]
      exact Classical.choose_spec hx
    · cases h
  · rintro ⟨n, hn⟩
    have hx : ∃ s, ∃ n, evalM rs n ip k = some s := ⟨s, n, hn⟩
    rw [dif_pos hx]
    obtain ⟨m, hm⟩ := Classical.choose_spec hx
    rw [eval_det rs ip hm hn]
theorem val_none {rs : List Rule} {ip : Inp} {k : Int} (h : ∀ n, evalM rs n ip k = none) : val rs ip k = none := by
  cases hv : val rs ip k with
  | none => rfl
  | some s =>
    obtain ⟨n, hn⟩ := val_some.1 hv
    rw [h n] at hn
    cases hn
theorem val_in {rs : List Rule} {ip : Inp} {k : Int} {s : ByteArray} (h : ip k = some s) : val rs ip k = some s := val_some.2 ⟨1, by unfold evalM; rw [h]⟩

/-- Out of texts that have each a depth, a text of some depth. -/
theorem textGo_fin (rs : List Rule) (ip : Inp) (kind : Int) (l : List Int) : ∀ (i : Nat) (sum : Int) (s : ByteArray), textGo kind (pureA (val rs ip)) l i sum () = some ((), s) → ∃ n, textGo kind (pureA (evalM rs n ip)) l i sum () = some ((), s) := by
  induction l with
  | nil => intro i sum s hs; exact ⟨0, hs⟩
  | cons d r ih =>
    intro i sum s hs
    unfold textGo at hs
    split at hs
    · rename_i hc
      obtain ⟨n, hn⟩ := ih _ _ _ hs
      exact ⟨n, by unfold textGo; rw [if_pos hc]; exact hn⟩
    · rename_i hc
      cases hf : val rs ip d with
      | none => simp [pureA, hf] at hs
      | some t =>
        simp only [pureA, hf, Option.map_some] at hs
        obtain ⟨m, hm⟩ := val_some.1 hf
        have up : ∀ {i sum}, (∃ n, textGo kind (pureA (evalM rs n ip)) r i sum () = some ((), s)) → ∃ n, m ≤ n ∧ textGo kind (pureA (evalM rs n ip)) r i sum () = some ((), s) := by
          rintro i sum ⟨n, hn⟩
          exact ⟨max n m, Nat.le_max_right _ _, textGo_mono (fun d s hd => eval_le rs ip (Nat.le_max_left _ _) d s hd) _ _ _ _ _ hn⟩
        split at hs
        · rename_i h1
          obtain ⟨n, hmn, hn⟩ := up (ih _ _ _ hs)
          exact ⟨n, by unfold textGo; rw [if_neg hc]; simp only [pureA, eval_le rs ip hmn d t hm, Option.map_some]; rw [if_pos h1]; exact hn⟩
        · rename_i h1
          split at hs
          · rename_i h2
            exact ⟨m, by unfold textGo; rw [if_neg hc]; simp only [pureA, hm, Option.map_some]; rw [if_neg h1, if_pos h2]; exact hs⟩
          · rename_i h2
            split at hs
            · rename_i h3
              exact ⟨m, by unfold textGo; rw [if_neg hc]; simp only [pureA, hm, Option.map_some]; rw [if_neg h1, if_neg h2, if_pos h3]; exact hs⟩
            · rename_i h3
              obtain ⟨n, hmn, hn⟩ := up (ih _ _ _ hs)
              exact ⟨n, by unfold textGo; rw [if_neg hc]; simp only [pureA, eval_le rs ip hmn d t hm, Option.map_some]; rw [if_neg h1, if_neg h2, if_neg h3]; exact hn⟩
theorem val_of_text {rs : List Rule} {ip : Inp} {k : Int} {s : ByteArray} (hk : ip k = none) (h : textM rs (pureA (val rs ip)) () k = some ((), s)) : val rs ip k = some s := by
  have : ∃ n, textM rs (pureA (evalM rs n ip)) () k = some ((), s) := by
    unfold textM at h ⊢
    split at h
    · rename_i hc
      exact ⟨0, by rw [if_pos hc]; exact h⟩
    · rename_i hc
      split at h
      · rename_i hr
        exact ⟨0, by rw [if_neg hc]; exact h⟩
      · rename_i r hr
        obtain ⟨n, hn⟩ := textGo_fin rs ip _ _ _ _ _ h
        exact ⟨n, by rw [if_neg hc]; exact hn⟩
  obtain ⟨n, hn⟩ := this
  exact val_some.2 ⟨n + 1, by unfold evalM; rw [hk]; simp only [hn, Option.map_some]⟩

/-- A run that notes is a run that doesn't. -/
theorem textGo_rep {f : Int → Option ByteArray} (kind : Int) (l : List Int) : ∀ (i : Nat) (sum : Int) (ks ks' : List Int) (s : ByteArray), textGo kind (repA f) l i sum ks = some (ks', s) → textGo kind (pureA f) l i sum () = some ((), s) := by
  induction l with
  | nil =>
    intro i sum ks ks' s hs
    unfold textGo at hs ⊢
    simp only [Option.some.injEq, Prod.mk.injEq] at hs
    rw [hs.2]
  | cons d r ih =>
    intro i sum ks ks' s hs
    unfold textGo at hs ⊢
    split at hs
    · rename_i hc
      rw [if_pos hc]
      exact ih _ _ _ _ _ hs
    · rename_i hc
      rw [if_neg hc]
      cases hf : f d with
      | none => simp [repA, hf] at hs
      | some t =>
        simp only [repA, hf, Option.map_some] at hs
        simp only [pureA, hf, Option.map_some]
        split at hs
        · rename_i h1
          rw [if_pos h1]
          exact ih _ _ _ _ _ hs
        · rename_i h1
          rw [if_neg h1]
          split at hs
          · rename_i h2
            rw [if_pos h2]
            simp only [Option.some.injEq, Prod.mk.injEq] at hs
            rw [hs.2]
          · rename_i h2
            rw [if_neg h2]
            split at hs
            · rename_i h3
              rw [if_pos h3]
              simp only [Option.some.injEq, Prod.mk.injEq] at hs
              rw [hs.2]
            · rename_i h3
              rw [if_neg h3]
              exact ih _ _ _ _ _ hs
theorem textM_rep {f : Int → Option ByteArray} {rs : List Rule} {k : Int} {ks ks' : List Int} {s : ByteArray} (h : textM rs (repA f) ks k = some (ks', s)) : textM rs (pureA f) () k = some ((), s) := by
  unfold textM at h ⊢
  split at h
  · rename_i hc
    rw [if_pos hc]
    simp only [Option.some.injEq, Prod.mk.injEq] at h
    rw [h.2]
  · rename_i hc
    rw [if_neg hc]
    split at h
    · simp only [Option.some.injEq, Prod.mk.injEq] at h
      rw [h.2]
    · exact textGo_rep _ _ _ _ _ _ _ h
end Go.Proofs.Ytfkedhclhmbpfaa
