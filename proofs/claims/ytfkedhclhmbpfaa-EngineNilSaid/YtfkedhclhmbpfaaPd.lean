/-
  A key's rule is written: what then holds.
-/
import Derived.Test.YtfkedhclhmbpfaaPc
namespace Go.Proofs.Ytfkedhclhmbpfaa
set_option linter.unusedVariables false
set_option linter.unusedSimpArgs false

theorem noted_sub (l : List Int) (d : Int) : (∀ x ∈ l, x ∈ noted l d) ∧ d ∈ noted l d := by
  unfold noted
  split
  · rename_i h; exact ⟨fun x hx => hx, h⟩
  · exact ⟨fun x hx => List.mem_append_left _ hx, List.mem_append_right _ (by simp)⟩
theorem noted_mem {l : List Int} {d x : Int} (h : x ∈ noted l d) : x ∈ l ∨ x = d := by
  unfold noted at h
  split at h
  · exact .inl h
  · rcases List.mem_append.1 h with h | h
    · exact .inl h
    · exact .inr (by simpa using h)

/-- The shape of one step of a rule's run. -/
theorem textGo_cons {σ : Type} (kind : Int) (ask : σ → Int → Option (σ × ByteArray)) (d : Int) (r : List Int) (i : Nat) (sum : Int) (st : σ) :
    textGo kind ask (d :: r) i sum st = if kind = 1 ∧ (2 < i ∨ (0 < i ∧ (i : Int) ≠ 1 + sum.tmod 2)) then textGo kind ask r (i + 1) sum st
    else match ask st d with
      | none => none
      | some (st1, t) =>
        if kind = 1 ∧ i = 0 then textGo kind ask r (i + 1) (numberM t) st1
        else if kind = 2 then some (st1, valueM ((numberM t).tmod 2))
        else if kind = 1 then some (st1, valueM ((sum + numberM t).tmod 1000))
        else textGo kind ask r (i + 1) ((sum + numberM t).tmod 1000) st1 := by rw [textGo]; rfl

/-- The keys that are noted are no fewer behind. -/
theorem textGo_grow {f : Int → Option ByteArray} (kind : Int) (l : List Int) : ∀ (i : Nat) (sum : Int) (ks ks' : List Int) (s : ByteArray), textGo kind (repA f) l i sum ks = some (ks', s) → ∀ x ∈ ks, x ∈ ks' := by
  induction l with
  | nil =>
    intro i sum ks ks' s hs x hx
    unfold textGo at hs
    simp only [Option.some.injEq, Prod.mk.injEq] at hs
    rw [← hs.1]
    exact hx
  | cons d r ih =>
    intro i sum ks ks' s hs x hx
    rw [textGo_cons] at hs
    split at hs
    · exact ih _ _ _ _ _ hs x hx
    · cases hf : f d with
      | none => simp [repA, hf] at hs
      | some t =>
        simp only [repA, hf, Option.map_some] at hs
        have hx' := (noted_sub ks d).1 x hx
        split at hs
        · exact ih _ _ _ _ _ hs x hx'
        · split at hs
          · simp only [Option.some.injEq, Prod.mk.injEq] at hs
            rw [← hs.1]; exact hx'
          · split at hs
            · simp only [Option.some.injEq, Prod.mk.injEq] at hs
              rw [← hs.1]; exact hx'
            · exact ih _ _ _ _ _ hs x hx'
theorem textGo_noted {f : Int → Option ByteArray} {kind : Int} {r : List Int} {i : Nat} {sum : Int} {ks ks' : List Int} {s : ByteArray} {d : Int} (h : textGo kind (repA f) r i sum (noted ks d) = some (ks', s)) : d ∈ ks' :=
  textGo_grow kind r i sum _ ks' s h d (noted_sub ks d).2
/-- Two tellers that agree on what was asked lead to the same. -/
theorem textGo_congr {f g : Int → Option ByteArray} (kind : Int) (l : List Int) : ∀ (i : Nat) (sum : Int) (ks ks' : List Int) (s : ByteArray), textGo kind (repA f) l i sum ks = some (ks', s) → (∀ d ∈ ks', f d = g d) → textGo kind (repA g) l i sum ks = some (ks', s) := by
  induction l with
  | nil => intro i sum ks ks' s hs _; exact hs
  | cons d r ih =>
    intro i sum ks ks' s hs hfg
    rw [textGo_cons] at hs ⊢
    split at hs
    · rename_i hc
      rw [if_pos hc]
      exact ih _ _ _ _ _ hs hfg
    · rename_i hc
      rw [if_neg hc]
      cases hf : f d with
      | none => simp [repA, hf] at hs
      | some t =>
        simp only [repA, hf, Option.map_some] at hs
        have hd : d ∈ ks' := by
          split at hs
          · exact textGo_noted hs
          · split at hs
            · simp only [Option.some.injEq, Prod.mk.injEq] at hs
              rw [← hs.1]; exact (noted_sub ks d).2
            · split at hs
              · simp only [Option.some.injEq, Prod.mk.injEq] at hs
                rw [← hs.1]; exact (noted_sub ks d).2
              · exact textGo_noted hs
        have hg : g d = some t := by rw [← hfg d hd]; exact hf
        simp only [repA, hg, Option.map_some]
        split at hs
        · rename_i h1
          rw [if_pos h1]
          exact ih _ _ _ _ _ hs hfg
        · rename_i h1
          rw [if_neg h1]
          split at hs
          · rename_i h2
            rw [if_pos h2]
            exact hs
          · rename_i h2
            rw [if_neg h2]
            split at hs
            · rename_i h3
              rw [if_pos h3]
              exact hs
            · rename_i h3
              rw [if_neg h3]
              exact ih _ _ _ _ _ hs hfg
theorem textM_congr {f g : Int → Option ByteArray} {rs : List Rule} {k : Int} {ks ks' : List Int} {s : ByteArray} (hs : textM rs (repA f) ks k = some (ks', s)) (hfg : ∀ d ∈ ks', f d = g d) : textM rs (repA g) ks k = some (ks', s) := by
  unfold textM at hs ⊢
  split at hs
  · rename_i hc
    rw [if_pos hc]; exact hs
  · rename_i hc
    rw [if_neg hc]
    split at hs
    · exact hs
    · exact textGo_congr _ _ _ _ _ _ _ hs hfg

/-- A key whose text is right now. -/
def Good (rs : List Rule) (st : St) (d : Int) : Prop := ∃ t, val rs st.inp d = some t ∧ (st.inputs d = none → ∃ cd, st.core d = some cd ∧ cd.at_ = st.rev ∧ st.text cd = some t)
theorem Good.ext {rs : List Rule} {B : Int → Prop} {st st' : St} {d : Int} (h : Good rs st d) (e : Ext B st st') : Good rs st' d := by
  obtain ⟨t, h1, h2⟩ := h
  refine ⟨t, by rw [e.inp]; exact h1, fun hn => ?_⟩
  rw [e.inputs] at hn
  obtain ⟨cd, h3, h4, h5⟩ := h2 hn
  obtain ⟨cd', h6, h7⟩ := e.keep d cd h3
  rcases h7 with rfl | ⟨_, h8, _⟩
  · exact ⟨cd', h6, by rw [e.rev]; exact h4, e.text h5⟩
  · exact absurd h4 h8
theorem Good.of_in {rs : List Rule} {st : St} {d : Int} {x : ByteArray × Int} (h : st.inputs d = some x) : Good rs st d :=
  ⟨x.1, val_in (by unfold St.inp; rw [h]; rfl), fun hn => by rw [h] at hn; cases hn⟩

/-- Of a cell that is at the revision: what it asked for is right. -/
theorem CellOK.deps {rs : List Rule} {st : St} (hB : InvB rs st) {k : Int} {c : Core} (h : CellOK rs st k c) (hat : c.at_ = st.rev) : ∃ s, st.text c = some s ∧ textM rs (repA (val rs st.inp)) [] k = some (c.asked, s) ∧ ∀ d ∈ c.asked, Good rs st d := by
  obtain ⟨ans, s, h1, h2, h3⟩ := h.trace
  have hv : ∀ d ∈ c.asked, ans d = val rs st.inp d ∧ Good rs st d := by
    intro d hd
    obtain ⟨t, ht, h4, h5⟩ := h3 d hd
    cases hin : st.inputs d with
    | some x =>
      have := h4 x hin (by rw [hat]; exact hB.inl d x hin)
      refine ⟨?_, Good.of_in hin⟩
      rw [ht, ← this]
      exact (val_in (by unfold St.inp; rw [hin]; rfl)).symm
    | none =>
      obtain ⟨cd, h6, h7, h8⟩ := h5 hin
      have hcd := hB.cel d cd h6
      have h9 : cd.at_ = st.rev := by have := hcd.at_le; omega
      have h10 := h8 (by have := hcd.turned_le; have := hcd.at_le; omega)
      obtain ⟨s', h11, h12⟩ := hcd.now h9
      rw [h10] at h11
      obtain rfl := Option.some.inj h11
      exact ⟨by rw [ht, h12], ⟨t, h12, fun _ => ⟨cd, h6, h9, h10⟩⟩⟩
  exact ⟨s, h1, textM_congr h2 (fun d hd => (hv d hd).1), fun d hd => (hv d hd).2⟩

theorem nodup_at {l : List ByteArray} (h : l.Nodup) {i j : Nat} {s : ByteArray} (hi : l[i]? = some s) (hj : l[j]? = some s) : i = j := by
  obtain ⟨h1, h2⟩ := List.getElem?_eq_some_iff.1 hi
  obtain ⟨h3, h4⟩ := List.getElem?_eq_some_iff.1 hj
  exact (List.getElem_inj h).1 (h2.trans h4.symm)

/-- A word's number. -/
theorem word_good {rs : List Rule} {Ul : List Int} {X : Int → Prop} {st : St} (hn : st.words.Nodup) (hw : ∀ s ∈ st.words, s ∈ texts0) {s : ByteArray} (hs : s ∈ texts0) :
    ∃ ws d, wordM st s = some ({ st with words := ws }, d) ∧ 1 ≤ d ∧ ws[(d - 1).toNat]? = some s ∧ (∃ l, ws = st.words ++ l) ∧ ws.Nodup ∧ ∀ x ∈ ws, x ∈ texts0 := by
  unfold wordM
  have h1 := (texts0_size hs).1
  have h2 := sub_len st.words texts0 hn hw
  rw [texts0_len] at h2
  rw [if_pos ⟨by omega, by omega⟩]
  cases hp : pos st.words s with
  | some i =>
    exact ⟨st.words, (i : Int) + 1, rfl, by omega, by rw [show ((i : Int) + 1 - 1).toNat = i by omega]; exact pos_some hp, ⟨[], by simp⟩, hn, hw⟩
  | none =>
    refine ⟨st.words ++ [s], (st.words.length : Int) + 1, rfl, by omega, ?_, ⟨[s], rfl⟩, ?_, ?_⟩
    · rw [show ((st.words.length : Int) + 1 - 1).toNat = st.words.length by omega, List.getElem?_append_right (Nat.le_refl _), Nat.sub_self]
      rfl
    · rw [List.nodup_append]
      exact ⟨hn, by simp, by intro a ha b hb e; simp at hb; subst hb; subst e; exact pos_none.1 hp ha⟩
    · intro x hx
      rcases List.mem_append.1 hx with hx | hx
      · exact hw x hx
      · simp at hx; subst hx; exact hs
end Go.Proofs.Ytfkedhclhmbpfaa
