/-
  Rows of keys, asked for from outside.
-/
import Derived.Test.YtfkedhclhmbpfaaPn
namespace Go.Proofs.Ytfkedhclhmbpfaa
set_option linter.unusedVariables false
set_option linter.unusedSimpArgs false

/-- Set, where the text is another. -/
theorem set_same {st st' : St} {k : Int} {s : ByteArray} (h : setM st k s = some st') (hne : st.inp k ≠ some s) :
    st'.rev = st.rev + 1 ∧ st'.inputs = setF st.inputs k (some (s, st.rev + 1)) ∧ st'.cells k = none ∧ (∀ x, x ≠ k → st'.cells x = st.cells x) ∧ st'.nc = (if (st.cells k).isSome then st.nc - 1 else st.nc) ∧ st'.steps = st.steps ∧ st'.checks = st.checks ∧ st'.hits = st.hits ∧ st'.budget = st.budget ∧ st'.busy = st.busy ∧ st'.words = st.words ∧ st'.cycle = st.cycle := by
  unfold setM at h
  rw [if_neg (by exact hne)] at h
  cases hd : dropM st k with
  | none => rw [hd] at h; cases h
  | some st1 =>
    rw [hd] at h
    simp only at h
    obtain ⟨a, b, c, d⟩ := drop_same hd
    split at h
    · cases h
      have hk : (st1.cells k).isSome = (st.cells k).isSome := by
        have := d noBytes false
        have := congrArg Option.isSome this
        simpa using this
      refine ⟨by show st1.rev + 1 = _; rw [a.rev], by show setF st1.inputs k _ = _; rw [a.inputs, a.rev], setF_same _ _ _, fun x e => by show setF st1.cells k none x = _; rw [setF_other _ _ e, c x e], ?_, a.steps, a.checks, a.hits, a.budget, a.busy, a.words, a.cycle⟩
      show (if (st1.cells k).isSome then st1.nc - 1 else st1.nc) = _
      rw [hk, a.nc]
    · cases h
theorem Roomy.set_ {Ul : List Int} {st st' : St} {k : Int} {s : ByteArray} (hr : Roomy Ul st) (h : setM st k s = some st') : Roomy Ul st' := by
  by_cases hne : st.inp k = some s
  · unfold setM at h
    rw [if_pos (by exact hne)] at h
    cases h
    exact hr
  · obtain ⟨_, _, a, b, _, _, _, _, c, _⟩ := set_same h hne
    refine ⟨fun x cx hx => ?_, by rw [c]; exact hr.budget, hr.few⟩
    by_cases e : x = k
    · subst e; rw [a] at hx; cases hx
    · rw [b x e] at hx; exact hr.has x cx hx
theorem roomy_new {Ul : List Int} (h : Ul.length ≤ 40000) {n : Int} (hn : 1048576 ≤ n) : Roomy Ul (newM n) := ⟨(fun k c hc => by cases hc), hn, h⟩

theorem link_text {rs : List Rule} {k d : Int} {F : ByteArray → ByteArray} (hl : Link rs k d F) {f : Int → Option ByteArray} {t : ByteArray} (ht : f d = some t) : textM rs (pureA f) () k = some ((), F t) := by
  obtain ⟨r, h0, hr, hrl, hF⟩ := hl
  unfold textM
  rw [if_neg (by omega), hr]
  simp only
  rw [hrl]
  rcases hF with ⟨hk0, rfl⟩ | ⟨hk2, rfl⟩
  · rw [hk0, textGo_next 0 _ d [] 0 k () (fun h => absurd h.1 (by omega)) (pureA_some ht)]
    have hn : nextM 0 0 k t = .inl ((k + numberM t).tmod 1000) := by
      unfold nextM
      rw [if_neg (by omega), if_neg (by omega), if_neg (by omega)]
    rw [hn]
    simp only
    rw [textGo]
  · rw [hk2, textGo_next 2 _ d [] 0 k () (fun h => absurd h.1 (by omega)) (pureA_some ht)]
    have hn : nextM 2 0 k t = .inr (valueM ((numberM t).tmod 2)) := by
      unfold nextM
      rw [if_neg (by omega), if_pos rfl]
    rw [hn]

section
variable {rs : List Rule} {Ul : List Int} {p : Nat} {c : Nat → Int} {F : Nat → ByteArray → ByteArray} {T T' : Nat → ByteArray}

theorem chain_val (hC : Chain rs Ul p c F T) {st : St} {r0 : Int} (hH : Heads p c (T 0) r0 st) : ∀ j, j ≤ p → val rs st.inp (c j) = some (T j) := by
  intro j
  induction j with
  | zero => intro _; exact val_in (by unfold St.inp; rw [hH.first]; rfl)
  | succ j ih =>
    intro hj
    refine val_of_text (by unfold St.inp; rw [hH.rest (j + 1) (by omega) hj]; rfl) ?_
    rw [hC.text j (by omega)]
    exact link_text (hC.link j (by omega)) (ih (by omega))

/-- An answer that is no error. -/
theorem top_ok (hU : Keys rs Ul) {st : St} (h : Fine rs Ul st) {k : Int} (hk : k ∈ Ul) {s : ByteArray} (hv : val rs st.inp k = some s) :
    ∃ st', askTop rs (rs.length + 1) st k = some (st', s, 0) ∧ Fine rs Ul st' ∧ st'.rev = st.rev ∧ st'.inputs = st.inputs ∧ st'.budget = st.budget ∧ R rs (.ask k s) { st with cycle := false } st' ∧ InvA Ul { st with cycle := false } ∧ InvB rs { st with cycle := false } := by
  obtain ⟨st', s', er, h1, h2, h3, h4, h5⟩ := top_ask hU h hk (Nat.lt_succ_self _)
  rcases h5 with ⟨rfl, h6, _⟩ | ⟨_, _, h6⟩
  · rw [hv] at h6
    obtain rfl := Option.some.inj h6
    exact ⟨st', h1, h2, h3.rev, h3.inputs, h4, (top_R h1).1, h.a.alike rfl rfl rfl rfl rfl rfl rfl, h.b.alike rfl rfl rfl rfl⟩
  · rw [hv] at h6; cases h6

theorem top_fresh (hU : Keys rs Ul) (hC : Chain rs Ul p c F T) {st : St} (h : Fine rs Ul st) (hR : Roomy Ul st) {r0 : Int} (hH : Heads p c (T 0) r0 st) (hfr : ∀ i, 1 ≤ i → i ≤ p → st.cells (c i) = none) :
    ∃ st', askTop rs (rs.length + 1) st (c p) = some (st', T p, 0) ∧ Fine rs Ul st' ∧ Roomy Ul st' ∧ st'.rev = st.rev ∧ st'.inputs = st.inputs ∧ st'.steps = st.steps + p ∧ st'.nc = st.nc + p ∧ (∀ i, 1 ≤ i → i ≤ p → AtRev p c T (fun t => t = st.rev) i st') := by
  obtain ⟨st', h1, h2, h3, h4, h5, h6, hA, hB⟩ := top_ok hU h (hC.ul p (Nat.le_refl _)) (chain_val hC hH p (Nat.le_refl _))
  obtain ⟨_, a2, a3, a4, a5, a6⟩ := fresh_row hU hC p (Nat.le_refl _) h6 hA hB (hR.alike rfl rfl) (hH.alike rfl) hfr
  exact ⟨st', h1, h2, a4, h3, h4, a2, a3, a5⟩
theorem top_there (hU : Keys rs Ul) {st : St} (h : Fine rs Ul st) (hR : Roomy Ul st) {k : Int} (hk : k ∈ Ul) {x : Cell} (hin : st.inputs k = none) (hx : st.cells k = some x) (hat : x.at_ = st.rev) :
    ∃ st', askTop rs (rs.length + 1) st k = some (st', x.s, 0) ∧ Fine rs Ul st' ∧ Roomy Ul st' ∧ st'.rev = st.rev ∧ st'.inputs = st.inputs ∧ st'.steps = st.steps ∧ st'.checks = st.checks ∧ st'.hits = st.hits + 1 ∧ st'.nc = st.nc ∧ st'.cells = st.cells := by
  have hh := hR.has k x hx
  have hv : val rs st.inp k = some x.s := by
    obtain ⟨s, q1, q2⟩ := (h.b.cel k _ (core_of_cell hx)).now hat
    rw [(value_text h.a hx hh).1] at q1
    rw [q2, Option.some.inj q1]
  obtain ⟨st', h1, h2, h3, h4, h5, h6, hA, hB⟩ := top_ok hU h hk hv
  obtain ⟨_, a1, a2, a3, a4, a5, a6, a7, _⟩ := ask_there h6 hin hx hat hh
  exact ⟨st', h1, h2, hR.alike a1 h5, h3, h4, a5, a6, a7, a2, a1⟩
theorem top_all (hU : Keys rs Ul) {j : Nat} (hC : Chain rs Ul (j + 1) c F T') {r0 : Int} (hne : ∀ i, 1 ≤ i → i ≤ j + 1 → T' i ≠ T i) {st : St} (h : Fine rs Ul st) (hR : Roomy Ul st) (hr : r0 < st.rev) (hH : Heads (j + 1) c (T' 0) st.rev st) (hO : ∀ i, 1 ≤ i → i ≤ j + 1 → Old c T r0 i st) :
    ∃ st', askTop rs (rs.length + 1) st (c (j + 1)) = some (st', T' (j + 1), 0) ∧ st'.rev = st.rev ∧ st'.steps = st.steps + (j + 1 : Nat) ∧ st'.nc = st.nc := by
  obtain ⟨st', h1, h2, h3, h4, h5, h6, hA, hB⟩ := top_ok hU h (hC.ul _ (Nat.le_refl _)) (chain_val hC hH _ (Nat.le_refl _))
  obtain ⟨_, a2, a3⟩ := ask_all (r0 := r0) hU hC hne h6 hr hA hB (hR.alike rfl rfl) (hH.alike rfl) (fun i i1 i2 => (hO i i1 i2).alike rfl)
  exact ⟨st', h1, h3, a2, a3⟩
theorem top_cut (hU : Keys rs Ul) {j : Nat} (hC : Chain rs Ul (j + 2) c F T') {r0 : Int} (heq : ∀ i, 1 ≤ i → i ≤ j + 2 → T' i = T i) {st : St} (h : Fine rs Ul st) (hR : Roomy Ul st) (hr : r0 < st.rev) (hH : Heads (j + 2) c (T' 0) st.rev st) (hO : ∀ i, 1 ≤ i → i ≤ j + 2 → Old c T r0 i st) :
    ∃ st', askTop rs (rs.length + 1) st (c (j + 2)) = some (st', T' (j + 2), 0) ∧ st'.rev = st.rev ∧ st'.steps = st.steps + 1 ∧ st'.nc = st.nc := by
  obtain ⟨st', h1, h2, h3, h4, h5, h6, hA, hB⟩ := top_ok hU h (hC.ul _ (Nat.le_refl _)) (chain_val hC hH _ (Nat.le_refl _))
  obtain ⟨_, a2, a3⟩ := ask_cut (r0 := r0) hU hC heq h6 hr hA hB (hR.alike rfl rfl) (hH.alike rfl) (fun i i1 i2 => (hO i i1 i2).alike rfl)
  exact ⟨st', h1, h3, a2, a3⟩
end
end Go.Proofs.Ytfkedhclhmbpfaa
