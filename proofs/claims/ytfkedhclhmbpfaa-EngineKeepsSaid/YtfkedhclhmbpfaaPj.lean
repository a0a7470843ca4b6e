/-
  What the engine's small steps do, where they go through: no invariant is asked.
-/
import Derived.Test.YtfkedhclhmbpfaaPi
namespace Go.Proofs.Ytfkedhclhmbpfaa
set_option linter.unusedVariables false
set_option linter.unusedSimpArgs false

theorem setF_same {α : Type} (f : Int → α) (k : Int) (v : α) : setF f k v k = v := by unfold setF; rw [if_pos rfl]
theorem setF_other {α : Type} (f : Int → α) {k x : Int} (v : α) (h : x ≠ k) : setF f k v x = f x := by unfold setF; rw [if_neg h]
theorem setF_twice {α : Type} (f : Int → α) (k : Int) (a b : α) : setF (setF f k a) k b = setF f k b := by
  funext x
  unfold setF
  split <;> rfl

/-- As Same, and the numbers. -/
structure Same2 (st st' : St) : Prop extends Same st st' where
  nc : st'.nc = st.nc
  budget : st'.budget = st.budget
  hits : st'.hits = st.hits
theorem Same2.refl (st : St) : Same2 st st := ⟨Same.refl st, rfl, rfl, rfl⟩
theorem Same2.trans {a b c : St} (h : Same2 a b) (k : Same2 b c) : Same2 a c := ⟨h.toSame.trans k.toSame, k.nc.trans h.nc, k.budget.trans h.budget, k.hits.trans h.hits⟩

theorem drop_same {st st' : St} {k : Int} (h : dropM st k = some st') : Same2 st st' ∧ st'.charged ≤ st.charged ∧ (∀ x, x ≠ k → st'.cells x = st.cells x) ∧ (∀ s hh, (st'.cells k).map (fun c => { c with has := hh, s := s }) = (st.cells k).map (fun c => { c with has := hh, s := s })) := by
  unfold dropM at h
  split at h
  · cases hc : st.cells k with
    | none => rw [hc] at h; cases h
    | some c =>
      rw [hc] at h
      simp only at h
      split at h
      · rename_i hle
        cases h
        have := cost_pos c.s
        refine ⟨⟨⟨rfl, rfl, rfl, rfl, rfl, core_set st k c _ hc rfl, rfl, rfl⟩, rfl, rfl, rfl⟩, by show st.charged - cost c.s ≤ st.charged; omega, fun x e => setF_other _ _ e, fun s hh => ?_⟩
        show (setF st.cells k _ k).map _ = _
        rw [setF_same]
        rfl
      · cases h
  · cases h
    exact ⟨Same2.refl _, Int.le_refl _, fun _ _ => rfl, fun _ _ => rfl⟩
theorem room_same (n : Int) : ∀ (f : Nat) {st st' : St} {b : Bool}, roomM f st n = some (st', b) → Same2 st st' ∧ (n ≤ st.budget - st.charged → st' = st ∧ b = true) := by
  intro f
  induction f with
  | zero => intro st st' b h; cases h
  | succ f ih =>
    intro st st' b h
    unfold roomM at h
    split at h
    · cases h
      exact ⟨Same2.refl _, fun _ => ⟨rfl, rfl⟩⟩
    · rename_i hn
      cases hl : st.used.getLast? with
      | none => rw [hl] at h; cases h; exact ⟨Same2.refl _, fun hh => absurd hh hn⟩
      | some l =>
        rw [hl] at h
        simp only at h
        cases hd : dropM st l with
        | none => rw [hd] at h; cases h
        | some st1 =>
          rw [hd] at h
          exact ⟨(drop_same hd).1.trans (ih h).1, fun hh => absurd hh hn⟩
theorem use_same {st st' : St} {k : Int} (h : useM st k = some st') : Same2 st st' ∧ st'.cells = st.cells ∧ st'.charged = st.charged := by
  unfold useM at h
  split at h
  · cases h
    exact ⟨⟨⟨rfl, rfl, rfl, rfl, rfl, fun _ => rfl, rfl, rfl⟩, rfl, rfl, rfl⟩, rfl, rfl⟩
  · cases h
theorem kept_same {st st' : St} {b : Bool} {k : Int} {s : ByteArray} (h : keptM st b k s = some st') : Same2 st st' ∧ (b = true → ∃ c, st.cells k = some c ∧ st'.cells = setF st.cells k (some { c with has := true, s := s })) := by
  unfold keptM at h
  split at h
  · rename_i hb
    cases hc : st.cells k with
    | none => rw [hc] at h; cases h
    | some c =>
      rw [hc] at h
      simp only at h
      obtain ⟨h1, h2, _⟩ := use_same h
      have h0 : Same2 st { st with charged := st.charged + cost s, high := max st.high (st.charged + cost s), cells := setF st.cells k (some { c with has := true, s := s }) } := ⟨⟨rfl, rfl, rfl, rfl, rfl, core_set st k c { c with has := true, s := s } hc rfl, rfl, rfl⟩, rfl, rfl, rfl⟩
      exact ⟨h0.trans h1, fun _ => ⟨c, rfl, h2⟩⟩
  · rename_i hb
    cases h
    exact ⟨Same2.refl _, fun hh => absurd hh hb⟩
theorem keep_same {st st' : St} {k : Int} {s : ByteArray} (h : keepM st k s = some st') : Same2 st st' ∧ (cost s ≤ st.budget - st.charged → ∃ c, st.cells k = some c ∧ st'.cells = setF st.cells k (some { c with has := true, s := s })) := by
  unfold keepM at h
  cases hd : dropM st k with
  | none => rw [hd] at h; cases h
  | some st1 =>
    rw [hd] at h
    simp only at h
    cases hr : roomM (st1.used.length + 1) st1 (cost s) with
    | none => rw [hr] at h; cases h
    | some x =>
      obtain ⟨st2, b⟩ := x
      rw [hr] at h
      simp only at h
      obtain ⟨d1, d2, d3, d4⟩ := drop_same hd
      obtain ⟨r1, r2⟩ := room_same _ _ hr
      obtain ⟨k1, k2⟩ := kept_same h
      refine ⟨d1.trans (r1.trans k1), fun hfit => ?_⟩
      have hbd := d1.budget
      obtain ⟨rfl, rfl⟩ := r2 (by omega)
      obtain ⟨c1, h1, h2⟩ := k2 rfl
      have h3 := d4 s true
      rw [h1] at h3
      cases hc : st.cells k with
      | none => rw [hc] at h3; cases h3
      | some c =>
        rw [hc] at h3
        simp only [Option.map_some, Option.some.injEq] at h3
        refine ⟨c, rfl, ?_⟩
        rw [h2, h3]
        funext x
        by_cases e : x = k
        · subst e; rw [setF_same, setF_same]
        · rw [setF_other _ _ e, setF_other _ _ e, d3 x e]
theorem word_same {st st' : St} {s : ByteArray} {d : Int} (h : wordM st s = some (st', d)) : ∃ ws, st' = { st with words := ws } ∧ 1 ≤ d ∧ ws[(d - 1).toNat]? = some s ∧ (∃ l, ws = st.words ++ l) ∧ (st.words.Nodup → ws.Nodup) ∧ (s ∈ st.words → ws = st.words) := by
  unfold wordM at h
  split at h
  · cases hp : pos st.words s with
    | some i =>
      rw [hp] at h
      cases h
      exact ⟨st.words, rfl, by omega, by rw [show ((i : Int) + 1 - 1).toNat = i by omega]; exact pos_some hp, ⟨[], by simp⟩, id, fun _ => rfl⟩
    | none =>
      rw [hp] at h
      cases h
      refine ⟨st.words ++ [s], rfl, by omega, ?_, ⟨[s], rfl⟩, fun hn => ?_, fun hm => absurd hm (pos_none.1 hp)⟩
      · rw [show ((st.words.length : Int) + 1 - 1).toNat = st.words.length by omega, List.getElem?_append_right (Nat.le_refl _), Nat.sub_self]
        rfl
      · rw [List.nodup_append]
        exact ⟨hn, by simp, by intro a ha b hb e; simp at hb; subst hb; subst e; exact pos_none.1 hp ha⟩
  · cases h
theorem fresh_words (st : St) (k : Int) : (freshM st k).words = st.words := rfl
/-- What is written of a key's rule. -/
theorem wrote_same {st st' : St} {k : Int} {asked : List Int} {s : ByteArray} (h : wroteM st k asked s = some st') : ∃ d ws, Same2 (newSt st k asked d ws) st' ∧ 1 ≤ d ∧ ws[(d - 1).toNat]? = some s ∧ (∃ l, ws = st.words ++ l) ∧ (st.words.Nodup → ws.Nodup) ∧ (s ∈ st.words → ws = st.words) ∧
    (cost s ≤ st.budget - st.charged → st'.cells = setF st.cells k (some { newCell st k asked d with has := true, s := s })) := by
  cases hw : wordM (freshM st k) s with
  | none => unfold wroteM at h; rw [hw] at h; cases h
  | some x =>
    obtain ⟨st1, d⟩ := x
    obtain ⟨ws, rfl, h1, h2, h3, h4, h5⟩ := word_same hw
    rw [wrote_eq hw] at h
    obtain ⟨k1, k2⟩ := keep_same h
    refine ⟨d, ws, k1, h1, h2, h3, h4, h5, fun hfit => ?_⟩
    obtain ⟨c, c1, c2⟩ := k2 hfit
    have : (newSt st k asked d ws).cells k = some (newCell st k asked d) := setF_same _ _ _
    rw [this] at c1
    cases c1
    rw [c2]
    show setF (setF st.cells k _) k _ = _
    rw [setF_twice]
end Go.Proofs.Ytfkedhclhmbpfaa
