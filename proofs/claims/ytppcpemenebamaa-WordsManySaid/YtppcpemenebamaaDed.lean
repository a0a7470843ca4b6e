/-
  Plain laws on lists of texts without repeats.
-/
import Derived.Test.YtppcpemenebamaaAl
namespace Go.Proofs.Ytppcpemenebamaa

theorem pos_lt {l : List ByteArray} {s : ByteArray} {i : Nat} (h : pos l s = some i) : i < l.length := (List.getElem?_eq_some_iff.1 (pos_some h)).1
theorem pos_get {l : List ByteArray} {s : ByteArray} {i : Nat} (h : pos l s = some i) : l[i]'(pos_lt h) = s := (List.getElem?_eq_some_iff.1 (pos_some h)).2
theorem pos_mem {l : List ByteArray} {s : ByteArray} (h : s ∈ l) : ∃ i, pos l s = some i := by
  cases hp : pos l s with
  | some i => exact ⟨i, rfl⟩
  | none => exact absurd h (pos_none.1 hp)
/-- A text's place in a list grown by others is what it was. -/
theorem pos_grow {l : List ByteArray} {s x : ByteArray} {i : Nat} (h : pos l x = some i) : pos (addT l s) x = some i := by
  unfold addT
  cases hp : pos l s with
  | some j => exact h
  | none => simp only [pos_snoc, h]
theorem pos_addT (l : List ByteArray) (s : ByteArray) : ∃ i, pos (addT l s) s = some i ∧ (i : Int) + 1 = numT l s := by
  unfold addT numT
  cases hp : pos l s with
  | some j => exact ⟨j, by simp [hp]⟩
  | none => exact ⟨l.length, by simp [pos_snoc, hp], rfl⟩
theorem get_addT {l : List ByteArray} {s : ByteArray} {i : Nat} (h : i < l.length) : (addT l s)[i]? = l[i]? := by
  unfold addT
  cases hp : pos l s with
  | some j => rfl
  | none => simp [List.getElem?_append_left h]
theorem addT_nodup {l : List ByteArray} {s : ByteArray} (h : l.Nodup) : (addT l s).Nodup := by
  unfold addT
  cases hp : pos l s with
  | some j => exact h
  | none =>
    rw [List.nodup_append]
    exact ⟨h, by simp, by intro a ha b hb e; simp at hb; subst hb; subst e; exact pos_none.1 hp ha⟩
theorem foldl_nodup (r : List ByteArray) : ∀ m : List ByteArray, m.Nodup → (r.foldl addT m).Nodup := by
  induction r with
  | nil => intro m h; exact h
  | cons x r ih => intro m h; exact ih _ (addT_nodup h)
theorem ded_nodup (l : List ByteArray) : (ded l).Nodup := foldl_nodup l [] (by simp)
/-- In a list without repeats a text stands where it stands. -/
theorem pos_of_get {l : List ByteArray} (hn : l.Nodup) {i : Nat} (h : i < l.length) : pos l l[i] = some i := by
  obtain ⟨j, hj⟩ := pos_mem (List.getElem_mem h)
  have h1 := pos_get hj
  have hjl := pos_lt hj
  rw [hj]
  congr 1
  exact (List.getElem_inj hn).1 h1
theorem ded_mem (l : List ByteArray) (x : ByteArray) : x ∈ ded l ↔ x ∈ l := by
  have key : ∀ (r m : List ByteArray), x ∈ r.foldl addT m ↔ x ∈ m ∨ x ∈ r := by
    intro r
    induction r with
    | nil => simp
    | cons y r ih =>
      intro m
      simp only [List.foldl_cons, List.mem_cons]
      rw [ih]
      have : x ∈ addT m y ↔ x ∈ m ∨ x = y := by
        unfold addT
        cases hp : pos m y with
        | some j =>
          simp only
          constructor
          · exact Or.inl
          · rintro (h | rfl)
            · exact h
            · exact List.mem_of_getElem? (pos_some hp)
        | none => simp
      rw [this]
      exact or_assoc
  simpa [ded] using key l []
/-- Where each text came first. -/
theorem ded_first (l : List ByteArray) : ∀ i (h : i < (ded l).length), ∃ f, ∃ hf : f < l.length, l[f] = (ded l)[i] ∧ ∀ j (hj : j < f), ∃ p, p < i ∧ pos (ded l) (l[j]'(by omega)) = some p := by
  have key : ∀ n, n ≤ l.length → ∀ i (h : i < (ded (l.take n)).length), ∃ f, ∃ hf : f < n, ∃ hl : f < l.length, l[f] = (ded (l.take n))[i] ∧ ∀ j (hj : j < f), ∃ p, p < i ∧ pos (ded (l.take n)) (l[j]'(by omega)) = some p := by
    intro n
    induction n with
    | zero => intro _ i h; simp [ded] at h
    | succ n ih =>
      intro hn i h
      have hnl : n < l.length := by omega
      rw [ded_take hnl] at h
      by_cases hi : i < (ded (l.take n)).length
      · obtain ⟨f, hf, hl, he, hp⟩ := ih (by omega) i hi
        refine ⟨f, by omega, hl, ?_, ?_⟩
        · have h1 := get_addT (s := l[n]) hi
          rw [List.getElem?_eq_getElem h, List.getElem?_eq_getElem hi] at h1
          simp only [ded_take hnl]
          rw [he]
          exact (Option.some.inj h1).symm
        · intro j hj
          obtain ⟨p, hpi, hpp⟩ := hp j hj
          refine ⟨p, hpi, ?_⟩
          simp only [ded_take hnl]
          exact pos_grow hpp
      · have hlen := addT_length (ded (l.take n)) l[n]
        have hi2 : i = (ded (l.take n)).length := by omega
        have hnone : pos (ded (l.take n)) l[n] = none := by
          cases hp : pos (ded (l.take n)) l[n] with
          | none => rfl
          | some q => rw [addT_some hp] at h; omega
        refine ⟨n, by omega, hnl, ?_, ?_⟩
        · have : (addT (ded (l.take n)) l[n])[i]? = some l[n] := by
            rw [addT_none hnone, hi2]
            simp
          have h3 := List.getElem?_eq_getElem h
          rw [this] at h3
          simp only [ded_take hnl]
          exact Option.some.inj h3
        · intro j hj
          have hm : l[j]'(by omega) ∈ ded (l.take n) := by
            rw [ded_mem]
            exact List.mem_iff_getElem?.2 ⟨j, by rw [List.getElem?_take, if_pos hj, List.getElem?_eq_getElem (by omega)]⟩
          obtain ⟨p, hp⟩ := pos_mem hm
          refine ⟨p, by rw [hi2]; exact pos_lt hp, ?_⟩
          simp only [ded_take hnl]
          exact pos_grow hp
  intro i h
  have := key l.length (Nat.le_refl _) i (by rw [List.take_length]; exact h)
  obtain ⟨f, hf, hl, he, hp⟩ := this
  refine ⟨f, hl, ?_, ?_⟩
  · rw [he]; congr 1; rw [List.take_length]
  · intro j hj
    obtain ⟨p, h1, h2⟩ := hp j hj
    exact ⟨p, h1, by rw [List.take_length] at h2; exact h2⟩
theorem ded_okS {l : List ByteArray} (h : ∀ s ∈ l, okS s) : ∀ s ∈ ded l, okS s := fun s hs => h s ((ded_mem l s).1 hs)
end Go.Proofs.Ytppcpemenebamaa
