/-
  ask and turned: with enough steps down they go through, and tell what the rules tell, or that a key asks for itself.
-/
import Derived.Test.YtfkedhclhmbpfaaPg
namespace Go.Proofs.Ytfkedhclhmbpfaa
set_option linter.unusedVariables false
set_option linter.unusedSimpArgs false

theorem qb_self {rs : List Rule} {st : St} {k : Int} (h : QB rs st k) (hb : st.busy k = true) : val rs st.inp k = none := by
  refine val_none (fun n => ?_)
  induction n using Nat.strongRecOn with
  | _ n ih =>
    cases hk : evalM rs n st.inp k with
    | none => rfl
    | some z =>
      obtain ⟨m, hm, hs⟩ := h k hb n (by rw [hk]; rfl)
      rw [ih m hm] at hs
      cases hs
theorem free_less {rs : List Rule} {st : St} {k : Int} (hk : inR rs k) (hb : st.busy k = false) : free rs { st with busy := setF st.busy k true } < free rs st := by
  unfold free
  have key : ∀ (n : Nat), k < n → 0 ≤ k → ((List.range n).filter fun (i : Nat) => !(setF st.busy k true) (i : Int)).length + 1 ≤ ((List.range n).filter fun (i : Nat) => !st.busy (i : Int)).length := by
    have le : ∀ l : List Nat, (l.filter fun (i : Nat) => !(setF st.busy k true) (i : Int)).length ≤ (l.filter fun (i : Nat) => !st.busy (i : Int)).length := by
      intro l
      induction l with
      | nil => exact Nat.le_refl _
      | cons x r ih =>
        by_cases e : (x : Int) = k
        · rw [List.filter_cons_of_neg (by unfold setF; simp [e]), List.filter_cons_of_pos (by rw [e, hb]; rfl)]
          simp only [List.length_cons]; omega
        · have : setF st.busy k true (x : Int) = st.busy (x : Int) := by unfold setF; rw [if_neg e]
          by_cases hx : st.busy (x : Int) = true
          · rw [List.filter_cons_of_neg (by rw [this, hx]; simp), List.filter_cons_of_neg (by rw [hx]; simp)]
            exact ih
          · rw [List.filter_cons_of_pos (by rw [this]; simpa using hx), List.filter_cons_of_pos (by simpa using hx)]
            simp only [List.length_cons]; omega
    have strict : ∀ l : List Nat, k.toNat ∈ l → 0 ≤ k → (l.filter fun (i : Nat) => !(setF st.busy k true) (i : Int)).length + 1 ≤ (l.filter fun (i : Nat) => !st.busy (i : Int)).length := by
      intro l
      induction l with
      | nil => intro h; cases h
      | cons x r ih =>
        intro h h0
        by_cases e : (x : Int) = k
        · rw [List.filter_cons_of_neg (by unfold setF; simp [e]), List.filter_cons_of_pos (by rw [e, hb]; rfl)]
          have := le r
          simp only [List.length_cons]; omega
        · have hr : k.toNat ∈ r := by
            rcases List.mem_cons.1 h with h | h
            · omega
            · exact h
          have := ih hr h0
          have hs : setF st.busy k true (x : Int) = st.busy (x : Int) := by unfold setF; rw [if_neg e]
          by_cases hx : st.busy (x : Int) = true
          · rw [List.filter_cons_of_neg (by rw [hs, hx]; simp), List.filter_cons_of_neg (by rw [hx]; simp)]
            exact this
          · rw [List.filter_cons_of_pos (by rw [hs]; simpa using hx), List.filter_cons_of_pos (by simpa using hx)]
            simp only [List.length_cons]; omega
    intro n hn h0
    exact strict _ (List.mem_range.2 (by omega)) h0
  have := key rs.length hk.2 hk.1
  show ((List.range rs.length).filter fun (i : Nat) => !(setF st.busy k true) (i : Int)).length < _
  omega

/-- States that differ in what is under way, in the cycle's mark, in counts, are alike as to what is kept. -/
theorem InvX.alike {Ul : List Int} {X : Int → Prop} {st st' : St} (h : InvX Ul X st) (h1 : st'.used = st.used) (h2 : st'.cells = st.cells) (h3 : st'.words = st.words) (h4 : st'.charged = st.charged) (h5 : st'.budget = st.budget) (h6 : st'.high = st.high) (h7 : st'.nc = st.nc) : InvX Ul X st' := by
  obtain ⟨a1, a2, a3, a4, a5, a6, a7, a8, a9, a10⟩ := h
  refine ⟨by rw [h1]; exact a1, by rw [h1, h2]; exact a2, fun k c hk hh hX => ?_, by rw [h4, h2, h1]; exact a4, by rw [h4, h5]; exact a5, by rw [h4, h6]; exact a6, by rw [h2, h7]; exact a7, by rw [h2]; exact a8, by rw [h3]; exact a9, a10⟩
  rw [h2] at hk
  have := a3 k c hk hh hX
  unfold St.text at this ⊢
  rw [h3]
  exact this
theorem InvB.alike {rs : List Rule} {st st' : St} (h : InvB rs st) (h1 : st'.rev = st.rev) (h2 : st'.inputs = st.inputs) (h3 : st'.words = st.words) (h4 : st'.cells = st.cells) : InvB rs st' := by
  have hcore : ∀ k, st'.core k = st.core k := fun k => by unfold St.core; rw [h4]
  have htext : ∀ c, st'.text c = st.text c := fun c => by unfold St.text; rw [h3]
  have hinp : st'.inp = st.inp := by unfold St.inp; rw [h2]
  refine ⟨fun k c hk => ?_, fun k x hx => ?_, by rw [h3]; exact h.wnd⟩
  · rw [hcore] at hk
    obtain ⟨a1, a2, a3, a4, ⟨ans, s, b1, b2, b3⟩, a6⟩ := h.cel k c hk
    refine ⟨by rw [h2]; exact a1, by rw [h1]; exact a2, a3, a4, ⟨ans, s, by rw [htext]; exact b1, b2, fun d hd => ?_⟩, fun hh => ?_⟩
    · obtain ⟨t, c1, c2, c3⟩ := b3 d hd
      refine ⟨t, c1, fun x hx => c2 x (by rw [← h2]; exact hx), fun hn => ?_⟩
      rw [h2] at hn
      obtain ⟨cd, e1, e2, e3⟩ := c3 hn
      exact ⟨cd, by rw [hcore]; exact e1, e2, fun hh => by rw [htext]; exact e3 hh⟩
    · rw [h1] at hh
      obtain ⟨s', d1, d2⟩ := a6 hh
      exact ⟨s', by rw [htext]; exact d1, by rw [hinp]; exact d2⟩
  · rw [h1]
    rw [h2] at hx
    exact h.inl k x hx

theorem setF_busy {f : Int → Bool} {k : Int} (hb : f k = false) : setF (setF f k true) k false = f := by
  funext x
  unfold setF
  by_cases e : x = k
  · subst e; simp [hb]
  · simp [e]
theorem setF_busy2 {f g : Int → Bool} {k : Int} (hg : g = setF f k true) (hb : f k = false) : setF g k false = f := by rw [hg]; exact setF_busy hb

/-- Something is done while a key is under way. -/
theorem under_good {rs : List Rule} {Ul : List Int} {α : Type} {st : St} {k : Int} (no : α) (body : St → Option (St × α)) (hA : InvA Ul st) (hB : InvB rs st) (hb : st.busy k = false)
    (P : St → α → Prop)
    (h : InvA Ul { st with busy := setF st.busy k true } → InvB rs { st with busy := setF st.busy k true } → ∃ st1 a, body { st with busy := setF st.busy k true } = some (st1, a) ∧ InvA Ul st1 ∧ InvB rs st1 ∧ Ext (fun u => setF st.busy k true u = true ∧ u ≠ k) { st with busy := setF st.busy k true } st1 ∧ st1.budget = st.budget ∧ P { st1 with busy := st.busy } a) :
    ∃ st' a, underM st k no body = some (st', a) ∧ InvA Ul st' ∧ InvB rs st' ∧ Ext (fun u => st.busy u = true) st st' ∧ st'.budget = st.budget ∧ P st' a := by
  unfold underM
  rw [if_neg (by rw [hb]; simp)]
  obtain ⟨st1, a, h1, h2, h3, h4, h5, h6⟩ := h (hA.alike rfl rfl rfl rfl rfl rfl rfl) (hB.alike rfl rfl rfl rfl)
  rw [h1]
  simp only
  have hbz : setF st1.busy k false = st.busy := setF_busy2 h4.busy hb
  rw [hbz]
  refine ⟨_, a, rfl, h2.alike rfl rfl rfl rfl rfl rfl rfl, h3.alike rfl rfl rfl rfl, ?_, h5, h6⟩
  refine ⟨h4.rev, h4.inputs, rfl, h4.words, h4.cyc, fun x c hx => ?_, fun x hx hxb => ?_, h4.steps, h4.checks⟩
  · obtain ⟨c', h7, h8⟩ := h4.keep x c hx
    refine ⟨c', h7, ?_⟩
    rcases h8 with h8 | ⟨e1, e2, e3, e4, e5⟩
    · exact .inl h8
    · refine .inr ⟨e1, e2, fun hh => e3 ⟨?_, ?_⟩, e4, e5⟩
      · unfold setF; split <;> simp [hh]
      · rintro rfl; rw [hb] at hh; cases hh
  · refine h4.fresh x hx ⟨?_, ?_⟩
    · unfold setF; split <;> simp [hxb]
    · rintro rfl; rw [hb] at hxb; cases hxb
/-- A key that is under way is asked for. -/
theorem under_cycle {rs : List Rule} {Ul : List Int} {α : Type} {st : St} {k : Int} (no : α) (body : St → Option (St × α)) (hA : InvA Ul st) (hB : InvB rs st) (hb : st.busy k = true) :
    underM st k no body = some ({ st with cycle := true }, no) ∧ InvA Ul { st with cycle := true } ∧ InvB rs { st with cycle := true } ∧ Ext (fun u => st.busy u = true) st { st with cycle := true } := by
  unfold underM
  rw [if_pos hb]
  exact ⟨rfl, hA.alike rfl rfl rfl rfl rfl rfl rfl, hB.alike rfl rfl rfl rfl, rfl, rfl, rfl, ⟨[], by simp⟩, fun _ => rfl, fun x c hx => ⟨c, hx, .inl rfl⟩, fun x hx _ => hx, Int.le_refl _, Int.le_refl _⟩

/-- The keys above k, k itself put aside. -/
theorem qb_up {rs : List Rule} {st : St} {k : Int} (h : QB rs st k) : ∀ u, setF st.busy k true u = true → u ≠ k → ∀ n, (evalM rs n st.inp u).isSome = true → ∃ m, m < n ∧ (evalM rs m st.inp k).isSome = true := by
  intro u hu hne
  unfold setF at hu
  rw [if_neg hne] at hu
  exact h u hu

theorem right_good {rs : List Rule} {Ul : List Int} (hU : Keys rs Ul) {m : Nat} {turned : St → Int → Option (St × Int)} (ht : TurnSpec rs Ul m turned) {st : St} {k : Int} {c : Core} (hA : InvA Ul st) (hB : InvB rs st) (hc : st.core k = some c) (hne : c.at_ ≠ st.rev) (hb : st.busy k = true) (hcy : st.cycle = false) (hf : inR rs k → free rs st < m)
    (hQ : ∀ u, st.busy u = true → u ≠ k → ∀ n, (evalM rs n st.inp u).isSome = true → ∃ m, m < n ∧ (evalM rs m st.inp k).isSome = true) :
    ∃ st' b, rightM turned k st = some (st', b) ∧ RightR rs Ul st k c st' b := by
  obtain ⟨cell, hcell, rfl⟩ : ∃ c0, st.cells k = some c0 ∧ coreOf c0 = c := by
    unfold St.core at hc
    simpa [Option.map_eq_some_iff] using hc
  unfold rightM
  rw [hcell]
  simp only
  have hA' : InvA Ul { st with checks := st.checks + 1 } := hA.alike rfl rfl rfl rfl rfl rfl rfl
  have hB' : InvB rs { st with checks := st.checks + 1 } := hB.alike rfl rfl rfl rfl
  obtain ⟨st', b, h1, h2, h3, h4, h5, h6, h7, h8⟩ := rightGo_good hU ht k (coreOf cell) cell.asked [] { st with checks := st.checks + 1 } rfl hA' hB' hc hne hb hcy hf (fun d hd => by cases hd) hQ
  refine ⟨st', b, h1, h2, h3, ⟨h4.rev, h4.inputs, h4.busy, h4.words, h4.cyc, h4.keep, h4.fresh, h4.steps, ?_⟩, h5, h6, h7, h8⟩
  have := h4.checks
  simp only at this
  omega

theorem turned_spec {rs : List Rule} {Ul : List Int} (hU : Keys rs Ul) {m : Nat} {ask : St → Int → Option (St × ByteArray)} {turned : St → Int → Option (St × Int)} (ha : AskSpec rs Ul m ask) (ht : TurnSpec rs Ul m turned) :
    TurnSpec rs Ul (m + 1) (fun st k => match st.inputs k with
      | some x => some (st, x.2)
      | none => match underM st k () (turnedIn (stepM rs ask) turned k) with
        | none => none
        | some (st1, _) => some (st1, match st1.cells k with | none => 0 | some c => c.turned)) := by
  intro st k hA hB hk hf hcy hQ
  simp only
  cases hin : st.inputs k with
  | some x => exact ⟨st, x.2, rfl, hA, hB, Ext.refl _ _, rfl, fun _ => ⟨fun y hy => by rw [← Option.some.inj hy], fun h => by cases h⟩, fun h => by rw [hcy] at h; cases h⟩
  | none =>
    simp only
    have hip : st.inp k = none := by unfold St.inp; rw [hin]; rfl
    cases hb : st.busy k with
    | true =>
      obtain ⟨h1, h2, h3, h4⟩ := under_cycle (rs := rs) (Ul := Ul) () (turnedIn (stepM rs ask) turned k) hA hB hb
      rw [h1]
      exact ⟨_, _, rfl, h2, h3, h4, rfl, (fun h => by cases h), fun _ => qb_self hQ hb⟩
    | false =>
      have main := under_good (rs := rs) (Ul := Ul) () (turnedIn (stepM rs ask) turned k) hA hB hb (fun st' _ => (st'.cycle = false → ∃ c, st'.core k = some c ∧ c.at_ = st.rev) ∧ (st'.cycle = true → val rs st.inp k = none)) (by
        intro hA1 hB1
        have hf1 : inR rs k → free rs { st with busy := setF st.busy k true } < m := fun hr => by
          have := free_less hr hb
          omega
        have hb1 : setF st.busy k true k = true := by unfold setF; simp
        have hstep : ∀ st1, InvA Ul st1 → InvB rs st1 → Ext (fun u => setF st.busy k true u = true ∧ u ≠ k) { st with busy := setF st.busy k true } st1 → st1.cycle = false → ∃ st2 s, stepM rs ask st1 k = some (st2, s) ∧ InvA Ul st2 ∧ InvB rs st2 ∧ Ext (fun u => setF st.busy k true u = true ∧ u ≠ k) { st with busy := setF st.busy k true } st2 ∧ st2.budget = st1.budget ∧ (st2.cycle = false → val rs st.inp k = some s ∧ ∃ c, st2.core k = some c ∧ c.at_ = st.rev) ∧ (st2.cycle = true → val rs st.inp k = none) := by
          intro st1 q1 q2 q3 q4
          obtain ⟨st2, s, a1, a2, a3, a4, a5, a6, a7⟩ := step_good hU ha q1 q2 hk (by rw [q3.inputs]; exact hin) (by rw [q3.busy]; exact hb1) q4 (fun hr => by rw [free_busy q3.busy]; exact hf1 hr) (by rw [q3.busy, q3.inp]; exact qb_up hQ)
          rw [q3.busy] at a4
          rw [q3.inp] at a6 a7
          refine ⟨st2, s, a1, a2, a3, q3.trans a4, a5, fun h => ⟨(a6 h).1, ?_⟩, a7⟩
          obtain ⟨_, c, b1, b2, _⟩ := a6 h
          exact ⟨c, b1, by rw [b2, q3.rev]⟩
        unfold turnedIn
        have hce : ({ st with busy := setF st.busy k true } : St).cells k = st.cells k := rfl
        cases hc : st.cells k with
        | none =>
          simp only
          rw [if_neg (by rw [show ({ st with busy := setF st.busy k true } : St).cycle = st.cycle from rfl, hcy]; simp)]
          obtain ⟨st2, s, a1, a2, a3, a4, a5, a6, a7⟩ := hstep _ hA1 hB1 (Ext.refl _ _) hcy
          rw [a1]
          exact ⟨st2, (), rfl, a2, a3, a4, a5, fun h => (a6 h).2, a7⟩
        | some c =>
          simp only
          have hcore : ({ st with busy := setF st.busy k true } : St).core k = some (coreOf c) := by
            show (st.cells k).map coreOf = _
            rw [hc]; rfl
          by_cases hat : c.at_ = st.rev
          · rw [if_pos hat]
            exact ⟨_, (), rfl, hA1, hB1, Ext.refl _ _, rfl, fun _ => ⟨coreOf c, hcore, hat⟩, (fun h => by rw [show ({ ({ st with busy := setF st.busy k true } : St) with busy := st.busy } : St).cycle = st.cycle from rfl, hcy] at h; cases h)⟩
          · rw [if_neg hat]
            obtain ⟨st1, b, r1, r2, r3, r4, r5, r6, r7, r8⟩ := right_good hU ht hA1 hB1 hcore hat hb1 hcy hf1 (qb_up hQ)
            rw [r1]
            cases b with
            | true =>
              simp only
              obtain ⟨e1, c', e2, e3, e4⟩ := r6 rfl
              exact ⟨st1, (), rfl, r2, r3, r4, r5, fun _ => ⟨c', e2, e3⟩, (fun h => by rw [show ({ st1 with busy := st.busy } : St).cycle = st1.cycle from rfl, e1] at h; cases h)⟩
            | false =>
              simp only
              cases hc1 : st1.cycle with
              | true =>
                rw [if_pos rfl]
                exact ⟨st1, (), rfl, r2, r3, r4, r5, (fun h => by rw [show ({ st1 with busy := st.busy } : St).cycle = st1.cycle from rfl, hc1] at h; cases h), fun _ => r7 hc1⟩
              | false =>
                rw [if_neg (by simp)]
                obtain ⟨st2, s, a1, a2, a3, a4, a5, a6, a7⟩ := hstep st1 r2 r3 r4 hc1
                rw [a1]
                exact ⟨st2, (), rfl, a2, a3, a4, a5.trans r5, fun h => (a6 h).2, a7⟩)
      obtain ⟨st', u, h1, h2, h3, h4, h5, h6, h7⟩ := main
      rw [h1]
      refine ⟨st', _, rfl, h2, h3, h4, h5, fun hc => ⟨(fun x hx => by cases hx), fun _ => ?_⟩, h7⟩
      obtain ⟨c, e1, e2⟩ := h6 hc
      obtain ⟨cell, hcell, rfl⟩ : ∃ c0, st'.cells k = some c0 ∧ coreOf c0 = c := by
        unfold St.core at e1
        simpa [Option.map_eq_some_iff] using e1
      exact ⟨coreOf cell, e1, e2, by rw [hcell]; rfl⟩

theorem cell_of_core {st : St} {k : Int} {c : Core} (h : st.core k = some c) : ∃ c0, st.cells k = some c0 ∧ coreOf c0 = c := by
  unfold St.core at h
  simpa [Option.map_eq_some_iff] using h
theorem core_of_cell {st : St} {k : Int} {c : Cell} (h : st.cells k = some c) : st.core k = some (coreOf c) := by
  unfold St.core
  rw [h]; rfl

/-- A value that is there, of a cell that is at the revision. -/
theorem have_good {rs : List Rule} {Ul : List Int} {st : St} {k : Int} {c : Cell} (hA : InvA Ul st) (hB : InvB rs st) (hc : st.cells k = some c) (hh : c.has = true) (hat : c.at_ = st.rev) :
    ∃ st', useM st k = some st' ∧ InvA Ul st' ∧ InvB rs st' ∧ Same st st' ∧ st'.budget = st.budget ∧ val rs st.inp k = some c.s ∧ st'.core k = some (coreOf c) ∧ st'.text (coreOf c) = some c.s ∧ st'.hits = st.hits := by
  obtain ⟨st', h1, h2, h3, h4, h5, h6, h7, h8, h9⟩ := use_good hA ((hA.umem k).2 ⟨c, hc, hh⟩)
  have ht := hA.utext k c hc hh (fun h => h)
  obtain ⟨s, b1, b2⟩ := (hB.cel k _ (core_of_cell hc)).now hat
  rw [ht] at b1
  obtain rfl := Option.some.inj b1
  exact ⟨st', h1, h2, h3.invB hB, h3, h5, b2, by rw [h3.core]; exact core_of_cell hc, by rw [h3.text]; exact ht, h9⟩

theorem ask_spec {rs : List Rule} {Ul : List Int} (hU : Keys rs Ul) {m : Nat} {ask : St → Int → Option (St × ByteArray)} {turned : St → Int → Option (St × Int)} (ha : AskSpec rs Ul m ask) (ht : TurnSpec rs Ul m turned) :
    AskSpec rs Ul (m + 1) (fun st k => match st.inputs k with
      | some x => some (st, x.1)
      | none =>
        if st.cycle = true then some (st, noBytes)
        else if hitM st k = true then (useM { st with hits := st.hits + 1 } k).map fun st1 => (st1, ((st.cells k).getD zeroCell).s)
        else underM st k noBytes (askIn (stepM rs ask) turned k)) := by
  intro st k hA hB hk hf hQ
  simp only
  cases hin : st.inputs k with
  | some x =>
    have hv : val rs st.inp k = some x.1 := val_in (by unfold St.inp; rw [hin]; rfl)
    exact ⟨st, x.1, rfl, hA, hB, Ext.refl _ _, rfl, fun _ => ⟨hv, Good.of_in hin⟩, fun h h' => by rw [h] at h'; cases h'⟩
  | none =>
    simp only
    have hip : st.inp k = none := by unfold St.inp; rw [hin]; rfl
    rcases (show st.cycle = true ∨ st.cycle = false by cases st.cycle <;> simp) with hcy | hcy
    · rw [if_pos hcy]
      exact ⟨st, noBytes, rfl, hA, hB, Ext.refl _ _, rfl, (fun h => by rw [hcy] at h; cases h), (fun h => by rw [hcy] at h; cases h)⟩
    · rw [if_neg (by rw [hcy]; simp)]
      have hQ := hQ hcy
      by_cases hh : hitM st k = true
      · rw [if_pos hh]
        unfold hitM at hh
        cases hc : st.cells k with
        | none => rw [hc] at hh; cases hh
        | some c =>
          rw [hc] at hh
          simp only [Bool.and_eq_true, decide_eq_true_eq] at hh
          have hA' : InvA Ul { st with hits := st.hits + 1 } := hA.alike rfl rfl rfl rfl rfl rfl rfl
          have hB' : InvB rs { st with hits := st.hits + 1 } := hB.alike rfl rfl rfl rfl
          obtain ⟨st', h1, h2, h3, h4, h5, h6, h7, h8, h9⟩ := have_good (k := k) (c := c) hA' hB' hc hh.1.2 hh.1.1
          rw [h1]
          have hE0 := h4.ext (fun u => st.busy u = true)
          have hE : Ext (fun u => st.busy u = true) st st' := ⟨hE0.rev, hE0.inputs, hE0.busy, hE0.words, hE0.cyc, hE0.keep, hE0.fresh, hE0.steps, hE0.checks⟩
          refine ⟨st', c.s, rfl, h2, h3, hE, h5, fun _ => ⟨h6, c.s, by rw [hE.inp]; exact h6, fun _ => ⟨coreOf c, h7, by rw [hE.rev]; exact hh.1.1, h8⟩⟩, fun _ h => ?_⟩
          have hcc : st'.cycle = st.cycle := h4.cycle
          rw [hcc, hcy] at h
          cases h
      · rw [if_neg hh]
        cases hb : st.busy k with
        | true =>
          obtain ⟨h1, h2, h3, h4⟩ := under_cycle (rs := rs) (Ul := Ul) noBytes (askIn (stepM rs ask) turned k) hA hB hb
          rw [h1]
          exact ⟨_, _, rfl, h2, h3, h4, rfl, (fun h => by cases h), fun _ _ => qb_self hQ hb⟩
        | false =>
          have main := under_good (rs := rs) (Ul := Ul) noBytes (askIn (stepM rs ask) turned k) hA hB hb (fun st' s => (st'.cycle = false → val rs st.inp k = some s ∧ ∃ c, st'.core k = some c ∧ c.at_ = st.rev ∧ st'.text c = some s) ∧ (st'.cycle = true → val rs st.inp k = none)) (by
            intro hA1 hB1
            have hf1 : inR rs k → free rs { st with busy := setF st.busy k true } < m := fun hr => by
              have := free_less hr hb
              omega
            have hb1 : setF st.busy k true k = true := by unfold setF; simp
            have hmiss : ∀ st1, InvA Ul st1 → InvB rs st1 → Ext (fun u => setF st.busy k true u = true ∧ u ≠ k) { st with busy := setF st.busy k true } st1 → st1.budget = st.budget → (st1.cycle = true → val rs st.inp k = none) → ∃ st2 s, missIn (stepM rs ask) k st1 = some (st2, s) ∧ InvA Ul st2 ∧ InvB rs st2 ∧ Ext (fun u => setF st.busy k true u = true ∧ u ≠ k) { st with busy := setF st.busy k true } st2 ∧ st2.budget = st.budget ∧ (st2.cycle = false → val rs st.inp k = some s ∧ ∃ c, st2.core k = some c ∧ c.at_ = st.rev ∧ st2.text c = some s) ∧ (st2.cycle = true → val rs st.inp k = none) := by
              intro st1 q1 q2 q3 q4 q5
              unfold missIn
              cases hc1 : st1.cycle with
              | true =>
                rw [if_pos rfl]
                exact ⟨st1, _, rfl, q1, q2, q3, q4, (fun h => by rw [hc1] at h; cases h), fun _ => q5 hc1⟩
              | false =>
                rw [if_neg (by simp)]
                obtain ⟨st2, s, a1, a2, a3, a4, a5, a6, a7⟩ := step_good hU ha q1 q2 hk (by rw [q3.inputs]; exact hin) (by rw [q3.busy]; exact hb1) hc1 (fun hr => by rw [free_busy q3.busy]; exact hf1 hr) (by rw [q3.busy, q3.inp]; exact qb_up hQ)
                rw [q3.busy] at a4
                rw [q3.inp] at a6 a7
                refine ⟨st2, s, a1, a2, a3, q3.trans a4, a5.trans q4, fun h => ⟨(a6 h).1, ?_⟩, a7⟩
                obtain ⟨_, c, b1, b2, b3⟩ := a6 h
                exact ⟨c, b1, by rw [b2, q3.rev], b3⟩
            have hfound : ∀ st1, InvA Ul st1 → InvB rs st1 → Ext (fun u => setF st.busy k true u = true ∧ u ≠ k) { st with busy := setF st.busy k true } st1 → st1.budget = st.budget → st1.cycle = false → (∃ c, st1.core k = some c ∧ c.at_ = st.rev) → ∃ st2 s, foundIn (stepM rs ask) k st1 = some (st2, s) ∧ InvA Ul st2 ∧ InvB rs st2 ∧ Ext (fun u => setF st.busy k true u = true ∧ u ≠ k) { st with busy := setF st.busy k true } st2 ∧ st2.budget = st.budget ∧ (st2.cycle = false → val rs st.inp k = some s ∧ ∃ c, st2.core k = some c ∧ c.at_ = st.rev ∧ st2.text c = some s) ∧ (st2.cycle = true → val rs st.inp k = none) := by
              intro st1 q1 q2 q3 q4 q5 q6
              obtain ⟨c, q7, q8⟩ := q6
              obtain ⟨cell, hcell, rfl⟩ := cell_of_core q7
              unfold foundIn
              rw [hcell]
              simp only
              cases hhas : cell.has with
              | false =>
                rw [if_neg (by simp)]
                exact hmiss st1 q1 q2 q3 q4 (fun h => by rw [q5] at h; cases h)
              | true =>
                rw [if_pos rfl]
                obtain ⟨st2, h1, h2, h3, h4, h5, h6, h7, h8, h9⟩ := have_good q1 q2 hcell hhas (by rw [q3.rev]; exact q8)
                rw [h1]
                rw [q3.inp] at h6
                exact ⟨st2, cell.s, rfl, h2, h3, q3.trans (h4.ext _), h5.trans q4, fun _ => ⟨h6, coreOf cell, h7, q8, h8⟩, fun h => by rw [h4.cycle, q5] at h; cases h⟩
            have out : ∀ (e : Option (St × ByteArray)), (∃ st2 s, e = some (st2, s) ∧ InvA Ul st2 ∧ InvB rs st2 ∧ Ext (fun u => setF st.busy k true u = true ∧ u ≠ k) { st with busy := setF st.busy k true } st2 ∧ st2.budget = st.budget ∧ (st2.cycle = false → val rs st.inp k = some s ∧ ∃ c, st2.core k = some c ∧ c.at_ = st.rev ∧ st2.text c = some s) ∧ (st2.cycle = true → val rs st.inp k = none)) → ∃ st1 a, e = some (st1, a) ∧ InvA Ul st1 ∧ InvB rs st1 ∧ Ext (fun u => setF st.busy k true u = true ∧ u ≠ k) { st with busy := setF st.busy k true } st1 ∧ st1.budget = st.budget ∧ ((({ st1 with busy := st.busy } : St).cycle = false → val rs st.inp k = some a ∧ ∃ c, ({ st1 with busy := st.busy } : St).core k = some c ∧ c.at_ = st.rev ∧ ({ st1 with busy := st.busy } : St).text c = some a) ∧ (({ st1 with busy := st.busy } : St).cycle = true → val rs st.inp k = none)) := fun e h => h
            refine out _ ?_
            unfold askIn
            cases hc : st.cells k with
            | none =>
              simp only
              exact hmiss _ hA1 hB1 (Ext.refl _ _) rfl (fun h => by rw [show ({ st with busy := setF st.busy k true } : St).cycle = st.cycle from rfl, hcy] at h; cases h)
            | some c =>
              simp only
              have hcore : ({ st with busy := setF st.busy k true } : St).core k = some (coreOf c) := by
                show (st.cells k).map coreOf = _
                rw [hc]; rfl
              by_cases hat : c.at_ = st.rev
              · rw [if_pos hat]
                exact hfound _ hA1 hB1 (Ext.refl _ _) rfl hcy ⟨coreOf c, hcore, hat⟩
              · rw [if_neg hat]
                obtain ⟨st1, b, r1, r2, r3, r4, r5, r6, r7, r8⟩ := right_good hU ht hA1 hB1 hcore hat hb1 hcy hf1 (qb_up hQ)
                rw [r1]
                cases b with
                | true =>
                  simp only
                  obtain ⟨e1, c', e2, e3, e4⟩ := r6 rfl
                  exact hfound st1 r2 r3 r4 r5 e1 ⟨c', e2, e3⟩
                | false =>
                  simp only
                  exact hmiss st1 r2 r3 r4 r5 r7)
          obtain ⟨st', s, h1, h2, h3, h4, h5, h6, h7⟩ := main
          rw [h1]
          refine ⟨st', s, rfl, h2, h3, h4, h5, fun hc => ?_, fun _ => h7⟩
          obtain ⟨e0, c, e1, e2, e3⟩ := h6 hc
          exact ⟨e0, s, by rw [h4.inp]; exact e0, fun _ => ⟨c, e1, by rw [h4.rev]; exact e2, e3⟩⟩

/-- Both, to any depth. -/
theorem both_spec {rs : List Rule} {Ul : List Int} (hU : Keys rs Ul) : ∀ n, AskSpec rs Ul n (askM rs n) ∧ TurnSpec rs Ul n (turnedM rs n) := by
  intro n
  induction n with
  | zero => exact ⟨fun st k _ _ _ hf => absurd hf (Nat.not_lt_zero _), fun st k _ _ _ hf => absurd hf (Nat.not_lt_zero _)⟩
  | succ n ih =>
    refine ⟨?_, ?_⟩
    · have h := ask_spec hU ih.1 ih.2
      intro st k
      have := h st k
      unfold askM
      exact this
    · have h := turned_spec hU ih.1 ih.2
      intro st k
      have := h st k
      unfold turnedM
      exact this
end Go.Proofs.Ytfkedhclhmbpfaa
