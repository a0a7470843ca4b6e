/-
  A row of keys whose first one turned: how many steps are taken anew.
-/
import Derived.Test.YtfkedhclhmbpfaaPm
namespace Go.Proofs.Ytfkedhclhmbpfaa
set_option linter.unusedVariables false
set_option linter.unusedSimpArgs false

/-- A cell of the row, as it was at r0. -/
def Old (c : Nat → Int) (T : Nat → ByteArray) (r0 : Int) (j : Nat) (st : St) : Prop :=
  ∃ x, st.cells (c j) = some x ∧ x.at_ = r0 ∧ x.turned ≤ r0 ∧ x.asked = [c (j - 1)] ∧ x.has = true ∧ x.s = T j
theorem Old.alike {c : Nat → Int} {T : Nat → ByteArray} {r0 : Int} {j : Nat} {st st' : St} (h : Old c T r0 j st) (hc : st'.cells (c j) = st.cells (c j)) : Old c T r0 j st' := by unfold Old; rw [hc]; exact h
theorem AtRev.alike {p : Nat} {c : Nat → Int} {T : Nat → ByteArray} {tu : Int → Prop} {j : Nat} {st st' : St} (h : AtRev p c T tu j st) (hc : st'.cells (c j) = st.cells (c j)) (hr : st'.rev = st.rev) : AtRev p c T tu j st' := by unfold AtRev; rw [hc, hr]; exact h

section
variable {rs : List Rule} {Ul : List Int} {p : Nat} {c : Nat → Int} {F : Nat → ByteArray → ByteArray} {T T' : Nat → ByteArray}

/-- A key's rule anew, where the key ahead of it is right. -/
theorem redo (hU : Keys rs Ul) (hC : Chain rs Ul p c F T') {r0 : Int} {j : Nat} (hj : j < p) {st st2 : St} {s : ByteArray} (h : R rs (.step (c (j + 1)) s) st st2) (hA : InvA Ul st) (hB : InvB rs st) (hR : Roomy Ul st) (hH : Heads p c (T' 0) r0 st) {tu : Int → Prop} (hat : 1 ≤ j → AtRev p c T' tu j st)
    {x : Cell} (hx : st.cells (c (j + 1)) = some x) (hh : x.has = true) (hxs : x.s = T (j + 1)) :
    s = T' (j + 1) ∧ st2.steps = st.steps + 1 ∧ st2.nc = st.nc ∧ Roomy Ul st2 ∧ st2.rev = st.rev ∧ st2.inputs = st.inputs ∧ ∃ x', st2.cells = setF st.cells (c (j + 1)) (some x') ∧ x'.at_ = st.rev ∧ x'.asked = [c j] ∧ x'.has = true ∧ x'.s = T' (j + 1) ∧ (T' (j + 1) ≠ T (j + 1) → x'.turned = st.rev) ∧ (T' (j + 1) = T (j + 1) → x'.turned = x.turned) := by
  obtain ⟨st1, t, ha, rfl, hs0, hw⟩ := link_step (hC.link j hj) h
  obtain ⟨i1, i2, i3, i4, i5, i6⟩ := R_inv hU ha hA hB (hC.ul j (by omega))
  have hask : t = T' j ∧ st1.cells = st.cells ∧ st1.nc = st.nc ∧ st1.steps = st.steps := by
    rcases Nat.eq_zero_or_pos j with h0 | h0
    · subst h0
      obtain ⟨rfl, rfl⟩ := ask_input ha hH.first
      exact ⟨rfl, rfl, rfl, rfl⟩
    · obtain ⟨y, y1, y2, y3, y4, y5, y6⟩ := hat h0
      obtain ⟨rfl, b1, b2, b3, b4, b5, _⟩ := ask_there ha (hH.rest j h0 (by omega)) y1 y2 y5
      exact ⟨y6, b1, b2, b5⟩
  obtain ⟨rfl, b1, b2, b3⟩ := hask
  have hR1 : Roomy Ul st1 := hR.alike b1 i4
  obtain ⟨d, ws, w1, w2, w3, w4, w5, w6, w7⟩ := roomy_wrote i1 hR1 hs0 hw
  have htt := hC.text j hj
  have hx1 : st1.cells (c (j + 1)) = some x := by rw [b1]; exact hx
  have hrev : st1.rev = st.rev := i3.rev
  refine ⟨htt.symm, ?_, ?_, w7, (w1.rev).trans hrev, (w1.inputs).trans i3.inputs, { newCell st1 (c (j + 1)) [c j] d with has := true, s := F j (T' j) }, by rw [w6, b1], hrev, rfl, rfl, htt.symm, ?_, ?_⟩
  · have q1 : st2.steps = st1.steps + 1 := w1.steps
    omega
  · have q1 : st2.nc = (if (st1.cells (c (j + 1))).isSome then st1.nc else st1.nc + 1) := w1.nc
    rw [hx1] at q1
    simp only [Option.isSome_some, if_true] at q1
    omega
  · have e1 : st1.words[(x.digest - 1).toNat]? = some x.s := (value_text i1 hx1 hh).1
    obtain ⟨l, hl⟩ := w4
    have e2 : ws[(x.digest - 1).toNat]? = some x.s := by
      rw [hl, List.getElem?_append_left (List.getElem?_eq_some_iff.1 e1).1]
      exact e1
    intro hne
    show (newCell st1 (c (j + 1)) [c j] d).turned = st.rev
    unfold newCell
    rw [hx1]
    show (if d = x.digest then x.turned else st1.rev) = st.rev
    rw [if_neg (fun e => by
      rw [e, e2, hxs, ← htt] at w3
      exact hne (Option.some.inj w3).symm)]
    exact hrev
  · have e1 : st1.words[(x.digest - 1).toNat]? = some x.s := (value_text i1 hx1 hh).1
    obtain ⟨l, hl⟩ := w4
    have e2 : ws[(x.digest - 1).toNat]? = some x.s := by
      rw [hl, List.getElem?_append_left (List.getElem?_eq_some_iff.1 e1).1]
      exact e1
    intro heq
    show (newCell st1 (c (j + 1)) [c j] d).turned = x.turned
    unfold newCell
    rw [hx1]
    show (if d = x.digest then x.turned else st1.rev) = x.turned
    have hdx : 1 ≤ x.digest := (i2.cel _ _ (core_of_cell hx1)).dig
    rw [hxs, ← heq, htt] at e2
    have := nodup_at (w5 i2.wnd) e2 w3
    rw [if_pos (by omega)]

/-- The first key turned, and each text with it. -/
theorem turn_all (hU : Keys rs Ul) (hC : Chain rs Ul p c F T') {r0 : Int} (hne : ∀ i, 1 ≤ i → i ≤ p → T' i ≠ T i) : ∀ (j : Nat), j ≤ p → ∀ {st st' : St} {t : Int}, R rs (.turned (c j) t) st st' → r0 < st.rev → InvA Ul st → InvB rs st → Roomy Ul st → Heads p c (T' 0) st.rev st → (∀ i, 1 ≤ i → i ≤ j → Old c T r0 i st) →
    t = st.rev ∧ st'.steps = st.steps + j ∧ st'.nc = st.nc ∧ Roomy Ul st' ∧ (∀ i, 1 ≤ i → i ≤ j → AtRev p c T' (fun t => t = st.rev) i st') ∧ (∀ x, (∀ i, 1 ≤ i → i ≤ j → x ≠ c i) → st'.cells x = st.cells x) := by
  intro j
  induction j with
  | zero =>
    intro _ st st' t h hr hA hB hR hH _
    obtain ⟨rfl, rfl⟩ := turned_input h hH.first
    exact ⟨rfl, by omega, rfl, hR, fun i h1 h2 => by omega, fun _ _ => rfl⟩
  | succ j ih =>
    intro hj st st' t h hr hA hB hR hH hO
    have hin := hH.rest (j + 1) (by omega) hj
    obtain ⟨x, x1, x2, x3, x4, x5, x6⟩ := hO (j + 1) (by omega) (Nat.le_refl _)
    have hsub : ∀ {b : Bool} {st1 : St}, R rs (.right (c (j + 1)) x.asked b) (st.bz (c (j + 1))).ck st1 → b = false ∧ InvA Ul st1 ∧ InvB rs st1 ∧ st1.rev = st.rev ∧ st1.inputs = st.inputs ∧ st1.steps = st.steps + j ∧ st1.nc = st.nc ∧ Roomy Ul st1 ∧ (∀ i, 1 ≤ i → i ≤ j → AtRev p c T' (fun t => t = st.rev) i st1) ∧ (∀ y, (∀ i, 1 ≤ i → i ≤ j → y ≠ c i) → st1.cells y = st.cells y) := by
      intro b st1 hright
      rw [x4, Nat.add_sub_cancel] at hright
      obtain ⟨st2, t1, cc, ht, hcc, hcase⟩ := right_one hright
      have hA0 := (hA.bz (c (j + 1))).ck
      have hB0 := (hB.bz (c (j + 1))).ck
      obtain ⟨i1, i2, i3, i4, i5, i6⟩ := R_inv hU ht hA0 hB0 (hC.ul j (by omega))
      obtain ⟨rfl, a2, a3, a4, a5, a6⟩ := ih (by omega) ht hr hA0 hB0 (hR.bz _).ck (hH.alike rfl) (fun i h1 h2 => (hO i h1 (by omega)).alike rfl)
      have hcx : cc = x := by
        rw [a6 _ (fun i h1 h2 e => by have := hC.inj _ _ hj (by omega) e; omega)] at hcc
        have hcc : st.cells (c (j + 1)) = some cc := hcc
        rw [x1] at hcc
        exact (Option.some.inj hcc).symm
      subst hcx
      rcases hcase with ⟨_, hlt, _⟩ | ⟨rfl, _, rfl⟩
      · exfalso
        apply hlt
        show cc.at_ < st.rev
        omega
      · exact ⟨rfl, i1, i2, i3.rev, i3.inputs, a2, a3, a4, a5, a6⟩
    cases h with
    | tinput hin' => rw [hin] at hin'; cases hin'
    | tat _ hc' hat => rw [x1] at hc'; cases hc'; omega
    | tnew _ hc' => rw [x1] at hc'; cases hc'
    | tok _ hc' _ _ hright =>
      rw [x1] at hc'
      cases hc'
      have := (hsub hright).1
      cases this
    | @twrong _ st1 st2 _ _ c2 s _ hc' _ _ hright hstep hc2 =>
      rw [x1] at hc'
      cases hc'
      obtain ⟨_, i1, i2, i3, i3', a2, a3, a4, a5, a6⟩ := hsub hright
      have hx1 : st1.cells (c (j + 1)) = some x := by
        rw [a6 _ (fun i h1 h2 e => by have := hC.inj _ _ hj (by omega) e; omega)]
        exact x1
      obtain ⟨rfl, b1, b2, b3, b4, b5, x', y1, y2, y3, y4, y5, y6, y7⟩ := redo (r0 := st.rev) hU hC (by omega) hstep i1 i2 a4 (hH.alike i3') (fun h0 => a5 j h0 (Nat.le_refl _)) hx1 x5 x6
      have hcx : c2 = x' := by
        rw [y1, setF_same] at hc2
        exact (Option.some.inj hc2).symm
      subst hcx
      refine ⟨by rw [y6 (hne _ (by omega) hj), i3], ?_, b2.trans a3, b3.ub _, fun i h1 h2 => ?_, fun y hy => ?_⟩
      · show st2.steps = st.steps + ((j + 1 : Nat) : Int)
        omega
      · have hr2 : (st2.ub (c (j + 1))).rev = st.rev := b4.trans i3
        by_cases e : i = j + 1
        · subst e
          exact ⟨c2, by show st2.cells _ = _; rw [y1, setF_same], by rw [hr2, y2, i3], by rw [y6 (hne _ (by omega) hj), i3], y3, y4, y5⟩
        · exact (a5 i h1 (by omega)).alike (by show st2.cells _ = _; rw [y1, setF_other _ _ (fun e' => e (hC.inj _ _ (by omega) hj e'))]) (by rw [hr2, i3])
      · show st2.cells y = _
        rw [y1, setF_other _ _ (hy (j + 1) (by omega) (Nat.le_refl _))]
        exact a6 y (fun i h1 h2 => hy i h1 (by omega))

/-- The last key is asked for: each takes a step. -/
theorem ask_all (hU : Keys rs Ul) {j : Nat} (hC : Chain rs Ul (j + 1) c F T') {r0 : Int} (hne : ∀ i, 1 ≤ i → i ≤ j + 1 → T' i ≠ T i) {st st' : St} {s : ByteArray} (h : R rs (.ask (c (j + 1)) s) st st') (hr : r0 < st.rev) (hA : InvA Ul st) (hB : InvB rs st) (hR : Roomy Ul st) (hH : Heads (j + 1) c (T' 0) st.rev st) (hO : ∀ i, 1 ≤ i → i ≤ j + 1 → Old c T r0 i st) :
    s = T' (j + 1) ∧ st'.steps = st.steps + (j + 1 : Nat) ∧ st'.nc = st.nc := by
  have hin := hH.rest (j + 1) (by omega) (Nat.le_refl _)
  obtain ⟨x, x1, x2, x3, x4, x5, x6⟩ := hO (j + 1) (by omega) (Nat.le_refl _)
  have hsub : ∀ {b : Bool} {st1 : St}, R rs (.right (c (j + 1)) x.asked b) (st.bz (c (j + 1))).ck st1 → b = false ∧ InvA Ul st1 ∧ InvB rs st1 ∧ st1.rev = st.rev ∧ st1.inputs = st.inputs ∧ st1.steps = st.steps + j ∧ st1.nc = st.nc ∧ Roomy Ul st1 ∧ (∀ i, 1 ≤ i → i ≤ j → AtRev (j + 1) c T' (fun t => t = st.rev) i st1) ∧ (∀ y, (∀ i, 1 ≤ i → i ≤ j → y ≠ c i) → st1.cells y = st.cells y) := by
    intro b st1 hright
    rw [x4, Nat.add_sub_cancel] at hright
    obtain ⟨st2, t1, cc, ht, hcc, hcase⟩ := right_one hright
    have hA0 := (hA.bz (c (j + 1))).ck
    have hB0 := (hB.bz (c (j + 1))).ck
    obtain ⟨i1, i2, i3, i4, i5, i6⟩ := R_inv hU ht hA0 hB0 (hC.ul j (by omega))
    obtain ⟨rfl, a2, a3, a4, a5, a6⟩ := turn_all (r0 := r0) hU hC hne j (by omega) ht hr hA0 hB0 (hR.bz _).ck (hH.alike rfl) (fun i h1 h2 => (hO i h1 (by omega)).alike rfl)
    have hcx : cc = x := by
      rw [a6 _ (fun i h1 h2 e => by have := hC.inj _ _ (Nat.le_refl _) (by omega) e; omega)] at hcc
      have hcc : st.cells (c (j + 1)) = some cc := hcc
      rw [x1] at hcc
      exact (Option.some.inj hcc).symm
    subst hcx
    rcases hcase with ⟨_, hlt, _⟩ | ⟨rfl, _, rfl⟩
    · exfalso
      apply hlt
      show cc.at_ < st.rev
      omega
    · exact ⟨rfl, i1, i2, i3.rev, i3.inputs, a2, a3, a4, a5, a6⟩
  cases h with
  | input hin' => rw [hin] at hin'; cases hin'
  | hit _ hc' hat => rw [x1] at hc'; cases hc'; omega
  | new _ hc' => rw [x1] at hc'; cases hc'
  | again _ hc' hat => rw [x1] at hc'; cases hc'; omega
  | ok _ hc' _ _ hright =>
    rw [x1] at hc'
    cases hc'
    have := (hsub hright).1
    cases this
  | okAgain _ hc' _ _ hright =>
    rw [x1] at hc'
    cases hc'
    have := (hsub hright).1
    cases this
  | @wrong _ st1 st2 _ _ _ _ hc' _ _ hright hstep =>
    rw [x1] at hc'
    cases hc'
    obtain ⟨_, i1, i2, i3, i3', a2, a3, a4, a5, a6⟩ := hsub hright
    have hx1 : st1.cells (c (j + 1)) = some x := by
      rw [a6 _ (fun i h1 h2 e => by have := hC.inj _ _ (Nat.le_refl _) (by omega) e; omega)]
      exact x1
    obtain ⟨rfl, b1, b2, b3, b4, b5, x', y1, y2, y3, y4, y5, y6, y7⟩ := redo (r0 := st.rev) hU hC (by omega) hstep i1 i2 a4 (hH.alike i3') (fun h0 => a5 j h0 (Nat.le_refl _)) hx1 x5 x6
    refine ⟨rfl, ?_, b2.trans a3⟩
    show st2.steps = st.steps + ((j + 1 : Nat) : Int)
    omega

/-- The first key turned, but no text behind it: one step. -/
theorem turn_cut (hU : Keys rs Ul) (hC : Chain rs Ul p c F T') {r0 : Int} (heq : ∀ i, 1 ≤ i → i ≤ p → T' i = T i) : ∀ (j : Nat), j + 1 ≤ p → ∀ {st st' : St} {t : Int}, R rs (.turned (c (j + 1)) t) st st' → r0 < st.rev → InvA Ul st → InvB rs st → Roomy Ul st → Heads p c (T' 0) st.rev st → (∀ i, 1 ≤ i → i ≤ j + 1 → Old c T r0 i st) →
    t ≤ r0 ∧ st'.steps = st.steps + 1 ∧ st'.nc = st.nc ∧ (∀ x, (∀ i, 1 ≤ i → i ≤ j + 1 → x ≠ c i) → st'.cells x = st.cells x) := by
  intro j
  induction j with
  | zero =>
    intro hj st st' t h hr hA hB hR hH hO
    have hin := hH.rest 1 (by omega) hj
    obtain ⟨x, x1, x2, x3, x4, x5, x6⟩ := hO 1 (by omega) (Nat.le_refl _)
    have hsub : ∀ {b : Bool} {st1 : St}, R rs (.right (c 1) x.asked b) (st.bz (c 1)).ck st1 → b = false ∧ st1 = (st.bz (c 1)).ck := by
      intro b st1 hright
      rw [x4] at hright
      obtain ⟨st2, t1, cc, ht, hcc, hcase⟩ := right_one hright
      obtain ⟨rfl, rfl⟩ := turned_input ht hH.first
      have hcc : st.cells (c 1) = some cc := hcc
      rw [x1] at hcc
      cases hcc
      rcases hcase with ⟨_, hlt, _⟩ | ⟨rfl, _, rfl⟩
      · exfalso
        apply hlt
        show x.at_ < st.rev
        omega
      · exact ⟨rfl, rfl⟩
    cases h with
    | tinput hin' => rw [hin] at hin'; cases hin'
    | tat _ hc' hat => rw [x1] at hc'; cases hc'; omega
    | tnew _ hc' => rw [x1] at hc'; cases hc'
    | tok _ hc' _ _ hright =>
      rw [x1] at hc'
      cases hc'
      have := (hsub hright).1
      cases this
    | @twrong _ st1 st2 _ _ c2 s _ hc' _ _ hright hstep hc2 =>
      rw [x1] at hc'
      cases hc'
      obtain ⟨_, rfl⟩ := hsub hright
      obtain ⟨rfl, b1, b2, b3, b4, b5, x', y1, y2, y3, y4, y5, y6, y7⟩ := redo (r0 := st.rev) (tu := fun _ => True) hU hC (by omega) hstep (hA.bz _).ck (hB.bz _).ck (hR.bz _).ck (hH.alike rfl) (fun h0 => by omega) x1 x5 x6
      have hcx : c2 = x' := by
        rw [y1, setF_same] at hc2
        exact (Option.some.inj hc2).symm
      subst hcx
      refine ⟨by rw [y7 (heq 1 (by omega) hj)]; exact x3, b1, b2, fun y hy => ?_⟩
      show st2.cells y = _
      rw [y1, setF_other _ _ (hy 1 (by omega) (Nat.le_refl _))]
      rfl
  | succ j ih =>
    intro hj st st' t h hr hA hB hR hH hO
    have hin := hH.rest (j + 2) (by omega) hj
    obtain ⟨x, x1, x2, x3, x4, x5, x6⟩ := hO (j + 2) (by omega) (Nat.le_refl _)
    have hsub : ∀ {b : Bool} {st1 : St}, R rs (.right (c (j + 2)) x.asked b) (st.bz (c (j + 2))).ck st1 → b = true ∧ st1.steps = st.steps + 1 ∧ st1.nc = st.nc ∧ st1.rev = st.rev ∧ (∃ r', st1.cells (c (j + 2)) = some { x with at_ := r' }) ∧ (∀ y, (∀ i, 1 ≤ i → i ≤ j + 2 → y ≠ c i) → st1.cells y = st.cells y) := by
      intro b st1 hright
      rw [x4] at hright
      obtain ⟨st2, t1, cc, ht, hcc, hcase⟩ := right_one hright
      have hA0 := (hA.bz (c (j + 2))).ck
      have hB0 := (hB.bz (c (j + 2))).ck
      obtain ⟨i1, i2, i3, i4, i5, i6⟩ := R_inv hU ht hA0 hB0 (hC.ul (j + 1) (by omega))
      obtain ⟨a1, a2, a3, a4⟩ := ih (by omega) ht hr hA0 hB0 (hR.bz _).ck (hH.alike rfl) (fun i h1 h2 => (hO i h1 (by omega)).alike rfl)
      have hcx : cc = x := by
        rw [a4 _ (fun i h1 h2 e => by have := hC.inj _ _ hj (by omega) e; omega)] at hcc
        have hcc : st.cells (c (j + 2)) = some cc := hcc
        rw [x1] at hcc
        exact (Option.some.inj hcc).symm
      subst hcx
      rcases hcase with ⟨rfl, hlt, rfl⟩ | ⟨rfl, hlt, rfl⟩
      · refine ⟨rfl, a2, a3, i3.rev, ⟨_, setF_same _ _ _⟩, fun y hy => ?_⟩
        show setF st2.cells _ _ y = _
        rw [setF_other _ _ (hy (j + 2) (by omega) (Nat.le_refl _))]
        exact a4 y (fun i h1 h2 => hy i h1 (by omega))
      · exfalso
        omega
    cases h with
    | tinput hin' => rw [hin] at hin'; cases hin'
    | tat _ hc' hat => rw [x1] at hc'; cases hc'; omega
    | tnew _ hc' => rw [x1] at hc'; cases hc'
    | @tok _ st1 _ _ c1 _ hc' _ _ hright hc1 =>
      rw [x1] at hc'
      cases hc'
      obtain ⟨_, a2, a3, a4, ⟨r', a5⟩, a6⟩ := hsub hright
      rw [a5] at hc1
      cases hc1
      exact ⟨x3, a2, a3, a6⟩
    | twrong _ hc' _ _ hright =>
      rw [x1] at hc'
      cases hc'
      have := (hsub hright).1
      cases this
theorem ask_cut (hU : Keys rs Ul) {j : Nat} (hC : Chain rs Ul (j + 2) c F T') {r0 : Int} (heq : ∀ i, 1 ≤ i → i ≤ j + 2 → T' i = T i) {st st' : St} {s : ByteArray} (h : R rs (.ask (c (j + 2)) s) st st') (hr : r0 < st.rev) (hA : InvA Ul st) (hB : InvB rs st) (hR : Roomy Ul st) (hH : Heads (j + 2) c (T' 0) st.rev st) (hO : ∀ i, 1 ≤ i → i ≤ j + 2 → Old c T r0 i st) :
    s = T (j + 2) ∧ st'.steps = st.steps + 1 ∧ st'.nc = st.nc := by
  have hin := hH.rest (j + 2) (by omega) (Nat.le_refl _)
  obtain ⟨x, x1, x2, x3, x4, x5, x6⟩ := hO (j + 2) (by omega) (Nat.le_refl _)
  have hsub : ∀ {b : Bool} {st1 : St}, R rs (.right (c (j + 2)) x.asked b) (st.bz (c (j + 2))).ck st1 → b = true ∧ st1.steps = st.steps + 1 ∧ st1.nc = st.nc ∧ (∃ r', st1.cells (c (j + 2)) = some { x with at_ := r' }) := by
    intro b st1 hright
    rw [x4] at hright
    obtain ⟨st2, t1, cc, ht, hcc, hcase⟩ := right_one hright
    have hA0 := (hA.bz (c (j + 2))).ck
    have hB0 := (hB.bz (c (j + 2))).ck
    obtain ⟨a1, a2, a3, a4⟩ := turn_cut (r0 := r0) hU hC heq j (by omega) ht hr hA0 hB0 (hR.bz _).ck (hH.alike rfl) (fun i h1 h2 => (hO i h1 (by omega)).alike rfl)
    have hcx : cc = x := by
      rw [a4 _ (fun i h1 h2 e => by have := hC.inj _ _ (Nat.le_refl _) (by omega) e; omega)] at hcc
      have hcc : st.cells (c (j + 2)) = some cc := hcc
      rw [x1] at hcc
      exact (Option.some.inj hcc).symm
    subst hcx
    rcases hcase with ⟨rfl, hlt, rfl⟩ | ⟨rfl, hlt, rfl⟩
    · exact ⟨rfl, a2, a3, ⟨_, setF_same _ _ _⟩⟩
    · exfalso
      omega
  cases h with
  | input hin' => rw [hin] at hin'; cases hin'
  | hit _ hc' hat => rw [x1] at hc'; cases hc'; omega
  | new _ hc' => rw [x1] at hc'; cases hc'
  | again _ hc' hat => rw [x1] at hc'; cases hc'; omega
  | @ok _ st1 st2 _ _ c1 _ hc' _ _ hright hc1 hh hu =>
    rw [x1] at hc'
    cases hc'
    obtain ⟨_, a2, a3, ⟨r', a5⟩⟩ := hsub hright
    rw [a5] at hc1
    cases hc1
    obtain ⟨q, _, _⟩ := use_same hu
    exact ⟨x6, q.steps.trans a2, q.nc.trans a3⟩
  | okAgain _ hc' _ _ hright hc1 hh =>
    rw [x1] at hc'
    cases hc'
    obtain ⟨_, a2, a3, ⟨r', a5⟩⟩ := hsub hright
    rw [a5] at hc1
    cases hc1
    have hh : x.has = false := hh
    rw [x5] at hh
    cases hh
  | wrong _ hc' _ _ hright hstep =>
    rw [x1] at hc'
    cases hc'
    have := (hsub hright).1
    cases this
end
end Go.Proofs.Ytfkedhclhmbpfaa
