/-
  The calls from outside: they go through, and keep what holds of an engine.
-/
import Derived.Test.YtfkedhclhmbpfaaPh
namespace Go.Proofs.Ytfkedhclhmbpfaa
set_option linter.unusedVariables false
set_option linter.unusedSimpArgs false

/-- An engine between calls. -/
structure Fine (rs : List Rule) (Ul : List Int) (st : St) : Prop where
  a : InvA Ul st
  b : InvB rs st
  idle : ∀ k, st.busy k = false

theorem new_fine {rs : List Rule} {Ul : List Int} (hl : Ul.length ≤ 90000) {n : Int} (hn : 0 ≤ n) : Fine rs Ul (newM n) :=
  ⟨⟨List.nodup_nil, fun k => ⟨(fun h => by cases h), fun ⟨c, h, _⟩ => by cases h⟩, (fun k c h => by cases h), rfl, hn, Int.le_refl _, ⟨[], List.nodup_nil, fun k => ⟨(fun h => by cases h), (fun h => by cases h)⟩, rfl⟩, (fun k h => by cases h), (fun s h => by cases h), hl⟩,
    ⟨(fun k c h => by cases h), (fun k x h => by cases h), List.nodup_nil⟩, fun _ => rfl⟩

theorem free_le (rs : List Rule) (st : St) : free rs st ≤ rs.length := by
  unfold free
  have := List.length_filter_le (fun (i : Nat) => !st.busy (i : Int)) (List.range rs.length)
  rw [List.length_range] at this
  exact this

/-- Ask. -/
theorem top_ask {rs : List Rule} {Ul : List Int} (hU : Keys rs Ul) {st : St} (h : Fine rs Ul st) {k : Int} (hk : k ∈ Ul) {n : Nat} (hn : rs.length < n) :
    ∃ st' s er, askTop rs n st k = some (st', s, er) ∧ Fine rs Ul st' ∧ Ext (fun _ => False) { st with cycle := false } st' ∧ st'.budget = st.budget ∧
      (er = 0 ∧ val rs st.inp k = some s ∧ Good rs st' k ∨ er = 8 ∧ s = noBytes ∧ val rs st.inp k = none) := by
  have hA : InvA Ul { st with cycle := false } := h.a.alike rfl rfl rfl rfl rfl rfl rfl
  have hB : InvB rs { st with cycle := false } := h.b.alike rfl rfl rfl rfl
  obtain ⟨st', s, h1, h2, h3, h4, h5, h6, h7⟩ := (both_spec hU n).1 { st with cycle := false } k hA hB hk (Nat.lt_of_le_of_lt (free_le rs _) hn) (fun _ u hu => by
    have : st.busy u = true := hu
    rw [h.idle u] at this
    cases this)
  unfold askTop
  rw [h1]
  simp only
  have hE : Ext (fun _ => False) { st with cycle := false } st' := h4.weaken (fun k hk => hk.elim)
  have hF : Fine rs Ul st' := ⟨h2, h3, fun x => by rw [h4.busy]; exact h.idle x⟩
  cases hc : st'.cycle with
  | true => exact ⟨st', noBytes, 8, by rw [if_pos rfl], hF, hE, h5, .inr ⟨rfl, rfl, h7 rfl hc⟩⟩
  | false => exact ⟨st', s, 0, by rw [if_neg (by simp)], hF, hE, h5, .inl ⟨rfl, (h6 hc).1, (h6 hc).2⟩⟩

/-- Set. -/
theorem top_set {rs : List Rule} {Ul : List Int} {st : St} (h : Fine rs Ul st) (k : Int) (s : ByteArray) (hr : st.rev ≤ 1000000) :
    ∃ st', setM st k s = some st' ∧ Fine rs Ul st' ∧ st'.budget = st.budget ∧ st'.steps = st.steps ∧ st'.checks = st.checks ∧ st'.hits = st.hits ∧
      (st.inp k = some s ∧ st' = st ∨ st.inp k ≠ some s ∧ st'.rev = st.rev + 1 ∧ st'.inputs = setF st.inputs k (some (s, st.rev + 1)) ∧ st'.core k = none ∧ (∀ x, x ≠ k → st'.cells x = st.cells x) ∧ st'.words = st.words) := by
  unfold setM
  by_cases hs : (st.inputs k).map (fun x => x.1) = some s
  · rw [if_pos hs]
    exact ⟨st, rfl, h, rfl, rfl, rfl, rfl, .inl ⟨hs, rfl⟩⟩
  · rw [if_neg hs]
    obtain ⟨st1, h1, h2, h3, h4, h5, h6, h7, h8, h9, h10⟩ := drop_good h.a k
    rw [h1]
    simp only
    have hB := h3.invB h.b
    rw [if_pos (by rw [h3.rev]; exact hr)]
    have hku : k ∉ st1.used := by rw [h4]; exact dropL_not_mem _ _
    have hcs : ∀ x, x ≠ k → setF st1.cells k none x = st1.cells x := fun x e => by unfold setF; rw [if_neg e]
    have hck : setF st1.cells k none k = none := by unfold setF; rw [if_pos rfl]
    refine ⟨_, rfl, ⟨⟨h2.und, fun x => ?_, fun x c hx hh hX => ?_, ?_, h2.le1, h2.le2, ?_, fun x hx => ?_, h2.wset, h2.few⟩, ⟨fun x c hx => ?_, fun x y hx => ?_, hB.wnd⟩, fun x => by rw [show ({ st1 with cells := setF st1.cells k none, nc := if (st1.cells k).isSome then st1.nc - 1 else st1.nc, rev := st1.rev + 1, inputs := setF st1.inputs k (some (s, st1.rev + 1)) } : St).busy = st1.busy from rfl, h3.busy]; exact h.idle x⟩, h5, h3.steps, h3.checks, h9,
      .inr ⟨hs, by show st1.rev + 1 = _; rw [h3.rev], by show setF st1.inputs k _ = _; rw [h3.inputs, h3.rev], by show (setF st1.cells k none k).map coreOf = none; rw [hck]; rfl, fun x e => by show setF st1.cells k none x = _; rw [hcs x e, h10 x e], h3.words⟩⟩
    · show x ∈ st1.used ↔ ∃ c, setF st1.cells k none x = some c ∧ c.has = true
      by_cases e : x = k
      · subst e
        rw [hck]
        exact ⟨fun hh => absurd hh hku, fun ⟨c, hh, _⟩ => by cases hh⟩
      · rw [hcs x e]; exact h2.umem x
    · have hx' : setF st1.cells k none x = some c := hx
      by_cases e : x = k
      · subst e; rw [hck] at hx'; cases hx'
      · rw [hcs x e] at hx'; exact h2.utext x c hx' hh hX
    · show st1.charged = tot (setF st1.cells k none) st1.used
      rw [h2.sum]
      exact tot_congr (fun x hx => (hcs x (fun e => hku (e ▸ hx))).symm)
    · obtain ⟨ks, a1, a2, a3⟩ := h2.ncs
      show ∃ ks : List Int, ks.Nodup ∧ (∀ x, x ∈ ks ↔ (setF st1.cells k none x).isSome = true) ∧ (if (st1.cells k).isSome then st1.nc - 1 else st1.nc) = ks.length
      by_cases hk : (st1.cells k).isSome = true
      · rw [if_pos hk]
        refine ⟨ks.erase k, a1.erase k, fun x => ?_, ?_⟩
        · rw [a1.mem_erase_iff]
          by_cases e : x = k
          · subst e; rw [hck]; simp
          · rw [hcs x e, a2 x]; simp [e]
        · rw [List.length_erase_of_mem ((a2 k).2 hk), a3]
      · rw [if_neg hk]
        refine ⟨ks, a1, fun x => ?_, a3⟩
        by_cases e : x = k
        · subst e; rw [hck, a2 x]; simp [hk]
        · rw [hcs x e, a2 x]
    · have hx' : (setF st1.cells k none x).isSome = true := hx
      by_cases e : x = k
      · subst e; rw [hck] at hx'; cases hx'
      · rw [hcs x e] at hx'; exact h2.cul x hx'
    · have hx' : (setF st1.cells k none x).map coreOf = some c := hx
      by_cases e : x = k
      · subst e; rw [hck] at hx'; cases hx'
      · rw [hcs x e] at hx'
        obtain ⟨a1, a2, a3, a4, ⟨ans, s', b1, b2, b3⟩, a6⟩ := hB.cel x c hx'
        refine ⟨?_, ?_, a3, a4, ⟨ans, s', b1, b2, fun d hd => ?_⟩, fun hh => ?_⟩
        · show setF st1.inputs k _ x = none
          unfold setF
          rw [if_neg e]
          exact a1
        · show c.at_ ≤ st1.rev + 1
          omega
        · obtain ⟨t, c1, c2, c3⟩ := b3 d hd
          refine ⟨t, c1, fun y hy hle => ?_, fun hn => ?_⟩
          · have hy' : setF st1.inputs k (some (s, st1.rev + 1)) d = some y := hy
            unfold setF at hy'
            split at hy'
            · obtain rfl := Option.some.inj hy'
              dsimp only at hle
              omega
            · exact c2 y hy' hle
          · have hn' : setF st1.inputs k (some (s, st1.rev + 1)) d = none := hn
            unfold setF at hn'
            split at hn'
            · cases hn'
            · rename_i hd2
              obtain ⟨cd, e1, e2, e3⟩ := c3 hn'
              refine ⟨cd, ?_, e2, e3⟩
              show (setF st1.cells k none d).map coreOf = some cd
              rw [hcs d hd2]
              exact e1
        · have hh' : c.at_ = st1.rev + 1 := hh
          omega
    · have hx' : setF st1.inputs k (some (s, st1.rev + 1)) x = some y := hx
      show y.2 ≤ st1.rev + 1
      unfold setF at hx'
      split at hx'
      · obtain rfl := Option.some.inj hx'
        exact Int.le_refl _
      · have := hB.inl x y hx'
        omega

theorem InvX.budget {Ul : List Int} {X : Int → Prop} {st : St} (h : InvX Ul X st) {n : Int} (hn : st.charged ≤ n) : InvX Ul X { st with budget := n } :=
  ⟨h.und, h.umem, h.utext, h.sum, hn, h.le2, h.ncs, h.cul, h.wset, h.few⟩

theorem budget_go {Ul : List Int} {n : Int} (hn : 0 ≤ n) : ∀ (f : Nat) (st : St), InvA Ul st → st.used.length < f → ∃ st', budgetGo f st n = some st' ∧ InvA Ul st' ∧ Same st st' ∧ st'.budget = n ∧ st'.nc = st.nc ∧ st'.hits = st.hits := by
  intro f
  induction f with
  | zero => intro st _ hf; omega
  | succ f ih =>
    intro st h hf
    unfold budgetGo
    by_cases hfit : st.charged ≤ n
    · rw [if_pos hfit]
      exact ⟨_, rfl, h.budget hfit, ⟨rfl, rfl, rfl, rfl, rfl, fun _ => rfl, rfl, rfl⟩, rfl, rfl, rfl⟩
    · rw [if_neg hfit]
      cases hl : st.used.getLast? with
      | none =>
        have : st.used = [] := List.getLast?_eq_none_iff.1 hl
        have hs := h.sum
        rw [this, tot_nil] at hs
        omega
      | some l =>
        obtain ⟨st1, h1, h2, h3, h4, h5, h6, h7, h8, h9, h10⟩ := drop_good h l
        simp only
        rw [h1]
        have hm : l ∈ st.used := List.mem_of_getLast? hl
        have hlen : st1.used.length < st.used.length := by
          rw [h4]
          have h11 := sub_len (l :: dropL st.used l) st.used (List.nodup_cons.2 ⟨dropL_not_mem _ _, dropL_nodup h.und l⟩) (fun x hx => by
            rcases List.mem_cons.1 hx with rfl | hx
            · exact hm
            · exact (dropL_mem.1 hx).1)
          simp only [List.length_cons] at h11
          omega
        obtain ⟨st', a1, a2, a3, a4, a5, a6⟩ := ih st1 h2 (by omega)
        exact ⟨st', a1, a2, h3.trans a3, a4, a5.trans h7, a6.trans h9⟩
/-- Budget. -/
theorem top_budget {rs : List Rule} {Ul : List Int} {st : St} (h : Fine rs Ul st) {n : Int} (hn : 0 ≤ n) : ∃ st', budgetM st n = some st' ∧ Fine rs Ul st' ∧ Same st st' ∧ st'.budget = n ∧ st'.nc = st.nc ∧ st'.hits = st.hits := by
  obtain ⟨st', h1, h2, h3, h4, h5, h6⟩ := budget_go hn (st.used.length + 1) st h.a (Nat.lt_succ_self _)
  exact ⟨st', h1, ⟨h2, h3.invB h.b, fun k => by rw [h3.busy]; exact h.idle k⟩, h3, h4, h5, h6⟩

theorem forget_go {Ul : List Int} : ∀ (l : List Int) (st : St), InvA Ul st → (∀ k ∈ st.used, k ∈ l) → ∃ st', forgetGo l st = some st' ∧ InvA Ul st' ∧ Same st st' ∧ st'.budget = st.budget ∧ st'.nc = st.nc ∧ st'.hits = st.hits ∧ st'.used = [] := by
  intro l
  induction l with
  | nil =>
    intro st h hl
    refine ⟨st, rfl, h, Same.refl st, rfl, rfl, rfl, ?_⟩
    cases hu : st.used with
    | nil => rfl
    | cons x r => exact absurd (hl x (by rw [hu]; exact List.mem_cons_self)) (by simp)
  | cons k r ih =>
    intro st h hl
    unfold forgetGo
    obtain ⟨st1, h1, h2, h3, h4, h5, h6, h7, h8, h9, h10⟩ := drop_good h k
    rw [h1]
    simp only
    obtain ⟨st', a1, a2, a3, a4, a5, a6, a7⟩ := ih st1 h2 (fun x hx => by
      rw [h4] at hx
      obtain ⟨b1, b2⟩ := dropL_mem.1 hx
      rcases List.mem_cons.1 (hl x b1) with e | e
      · exact absurd e b2
      · exact e)
    exact ⟨st', a1, a2, h3.trans a3, a4.trans h5, a5.trans h7, a6.trans h9, a7⟩
/-- Forget. -/
theorem top_forget {rs : List Rule} {Ul : List Int} {st : St} (h : Fine rs Ul st) : ∃ st', forgetM st = some st' ∧ Fine rs Ul st' ∧ Same st st' ∧ st'.budget = st.budget ∧ st'.nc = st.nc ∧ st'.hits = st.hits ∧ st'.used = [] ∧ st'.charged = 0 := by
  obtain ⟨st', h1, h2, h3, h4, h5, h6, h7⟩ := forget_go st.used st h.a (fun _ hk => hk)
  exact ⟨st', h1, ⟨h2, h3.invB h.b, fun k => by rw [h3.busy]; exact h.idle k⟩, h3, h4, h5, h6, h7, by rw [h2.sum, h7]; rfl⟩

/-- What the numbers say of one another. -/
theorem Fine.nums {rs : List Rule} {Ul : List Int} {st : St} (h : Fine rs Ul st) : st.charged ≤ st.budget ∧ st.charged ≤ st.high ∧ st.used.length ≤ st.nc ∧ 2 * (st.used.length : Int) ≤ st.charged := by
  refine ⟨h.a.le1, h.a.le2, h.a.used_nc, ?_⟩
  rw [h.a.sum]
  have key : ∀ l : List Int, (∀ k ∈ l, k ∈ st.used) → 2 * (l.length : Int) ≤ tot st.cells l := by
    intro l
    induction l with
    | nil => intro _; exact Int.le_refl _
    | cons x r ih =>
      intro hl
      have h1 := ih (fun k hk => hl k (List.mem_cons_of_mem _ hk))
      obtain ⟨c, hc, hh⟩ := (h.a.umem x).1 (hl x List.mem_cons_self)
      have ht := h.a.utext x c hc hh (fun h => h)
      have hw : c.s ∈ texts0 := h.a.wset _ (List.mem_of_getElem? ht)
      have hz := (texts0_size hw).2
      rw [tot_cons, hc, Option.getD_some]
      unfold cost
      simp only [List.length_cons]
      omega
  exact key st.used (fun _ h => h)
end Go.Proofs.Ytfkedhclhmbpfaa
