/-
  A key whose keys did not turn takes no step.
-/
import Derived.Test.YtfkedhclhmbpfaaPr
namespace Go.Proofs.Ytfkedhclhmbpfaa
set_option linter.unusedVariables false
set_option linter.unusedSimpArgs false

/-- A key that was right at r0. -/
def Calm (r0 : Int) (st : St) (k : Int) : Prop := (∀ y, st.inputs k = some y → y.2 ≤ r0) ∧ (st.inputs k = none → ∃ c, st.core k = some c ∧ (c.at_ = r0 ∨ c.at_ = st.rev))
/-- What was right at r0 hangs on what was right then. -/
def Settled (r0 : Int) (st : St) : Prop := ∀ x c, st.core x = some c → (c.at_ = r0 ∨ c.at_ = st.rev) → c.turned ≤ r0 ∧ ∀ d ∈ c.asked, Calm r0 st d
/-- Cells have been found right, and no more. -/
structure Up (r0 : Int) (st st' : St) : Prop where
  rev : st'.rev = st.rev
  inputs : st'.inputs = st.inputs
  steps : st'.steps = st.steps
  core : ∀ x, (st.core x = none ∧ st'.core x = none) ∨ ∃ c a, st.core x = some c ∧ st'.core x = some { c with at_ := a } ∧ (a = c.at_ ∨ ((c.at_ = r0 ∨ c.at_ = st.rev) ∧ a = st.rev))
theorem Up.of_same {r0 : Int} {st st' : St} (h1 : st'.rev = st.rev) (h2 : st'.inputs = st.inputs) (h3 : st'.steps = st.steps) (h4 : ∀ x, st'.core x = st.core x) : Up r0 st st' :=
  ⟨h1, h2, h3, fun x => by
    cases hc : st.core x with
    | none => exact .inl ⟨rfl, by rw [h4, hc]⟩
    | some c => exact .inr ⟨c, c.at_, rfl, by rw [h4, hc], .inl rfl⟩⟩
theorem Up.trans {r0 : Int} {a b c : St} (h : Up r0 a b) (k : Up r0 b c) : Up r0 a c := by
  refine ⟨k.rev.trans h.rev, k.inputs.trans h.inputs, k.steps.trans h.steps, fun x => ?_⟩
  rcases h.core x with ⟨h1, h2⟩ | ⟨cx, ax, h1, h2, h3⟩
  · rcases k.core x with ⟨k1, k2⟩ | ⟨cy, ay, k1, k2, k3⟩
    · exact .inl ⟨h1, k2⟩
    · rw [h2] at k1; cases k1
  · rcases k.core x with ⟨k1, k2⟩ | ⟨cy, ay, k1, k2, k3⟩
    · rw [h2] at k1; cases k1
    · rw [h2] at k1
      obtain rfl := Option.some.inj k1
      refine .inr ⟨cx, ay, h1, k2, ?_⟩
      have hr := h.rev
      dsimp only at k3
      rcases h3 with h3 | ⟨h3, h4⟩
      · rcases k3 with k3 | ⟨k3, k4⟩
        · exact .inl (k3.trans h3)
        · refine .inr ⟨?_, k4.trans hr⟩
          rcases k3 with k3 | k3
          · exact .inl (h3 ▸ k3)
          · exact .inr (by omega)
      · rcases k3 with k3 | ⟨k3, k4⟩
        · exact .inr ⟨h3, k3.trans h4⟩
        · exact .inr ⟨h3, k4.trans hr⟩
theorem Up.calm {r0 : Int} {st st' : St} (h : Up r0 st st') {k : Int} (hk : Calm r0 st k) : Calm r0 st' k := by
  refine ⟨fun y hy => hk.1 y (by rw [← h.inputs]; exact hy), fun hn => ?_⟩
  obtain ⟨c, h1, h2⟩ := hk.2 (by rw [← h.inputs]; exact hn)
  have hr := h.rev
  rcases h.core k with ⟨k1, _⟩ | ⟨cy, a, k1, k2, k3⟩
  · rw [h1] at k1; cases k1
  · rw [h1] at k1
    obtain rfl := Option.some.inj k1
    refine ⟨_, k2, ?_⟩
    dsimp only
    rcases k3 with k3 | ⟨_, k3⟩
    · rcases h2 with h2 | h2
      · exact .inl (k3.trans h2)
      · exact .inr (by omega)
    · exact .inr (by omega)
theorem Up.settled {r0 : Int} {st st' : St} (h : Up r0 st st') (hs : Settled r0 st) : Settled r0 st' := by
  intro x c hc hat
  have hr := h.rev
  rcases h.core x with ⟨_, k1⟩ | ⟨cy, a, k1, k2, k3⟩
  · rw [hc] at k1; cases k1
  · rw [hc] at k2
    obtain rfl := Option.some.inj k2
    dsimp only at hat ⊢
    obtain ⟨q1, q2⟩ := hs x cy k1 (by
      rcases k3 with k3 | ⟨k3, _⟩
      · rcases hat with hat | hat
        · exact .inl (by omega)
        · exact .inr (by omega)
      · exact k3)
    exact ⟨q1, fun d hd => h.calm (q2 d hd)⟩
def HasAll (st : St) : Prop := ∀ k c, st.cells k = some c → c.has = true

/-- What a run does where all is calm. -/
def Rcalm (r0 : Int) : Job → St → St → Prop
  | .ask k s, st, st' => r0 < st.rev → Settled r0 st → Calm r0 st k → HasAll st → Up r0 st st' ∧ HasAll st'
  | .turned k t, st, st' => r0 < st.rev → Settled r0 st → Calm r0 st k → HasAll st → Up r0 st st' ∧ HasAll st' ∧ t ≤ r0
  | .right k l b, st, st' => r0 < st.rev → Settled r0 st → (∀ d ∈ l, Calm r0 st d) → HasAll st → (∃ c, st.core k = some c ∧ (c.at_ = r0 ∨ c.at_ = st.rev)) → b = true ∧ Up r0 st st' ∧ HasAll st'
  | _, _, _ => True

theorem R_calm {rs : List Rule} {r0 : Int} {j : Job} {st st' : St} (h : R rs j st st') : Rcalm r0 j st st' := by
  have core_none : ∀ {st : St} {k : Int}, st.inputs k = none → st.cells k = none → Calm r0 st k → False := fun hin hc hk => by
    obtain ⟨c, h1, _⟩ := hk.2 hin
    unfold St.core at h1
    rw [hc] at h1
    cases h1
  have at_old : ∀ {st : St} {k : Int} {c : Cell}, st.inputs k = none → st.cells k = some c → Calm r0 st k → c.at_ = r0 ∨ c.at_ = st.rev := fun hin hc hk => by
    obtain ⟨c', h1, h2⟩ := hk.2 hin
    rw [core_of_cell hc] at h1
    rw [← Option.some.inj h1] at h2
    exact h2
  induction h with
  | input hin => exact fun _ _ _ hh => ⟨Up.of_same rfl rfl rfl (fun _ => rfl), hh⟩
  | hit hin hc hat hh hu =>
    intro _ _ _ ha
    obtain ⟨a, b, _⟩ := use_same hu
    exact ⟨Up.of_same a.rev a.inputs a.steps a.core, fun k c hc => ha k c (by rw [b] at hc; exact hc)⟩
  | new hin hc hb h ih => exact fun _ _ hk _ => (core_none hin hc hk).elim
  | again hin hc hat hh hb h ih => intro _ _ _ ha; rw [ha _ _ hc] at hh; cases hh
  | @ok st st1 st2 k c c1 hin hc hat hb h hc1 hh hu ih =>
    intro hr hs hk ha
    have hq := at_old hin hc hk
    have u0 : Up r0 st (st.bz k).ck := Up.of_same rfl rfl rfl (fun _ => rfl)
    obtain ⟨_, a1, a2⟩ := ih hr (u0.settled hs) (fun d hd => u0.calm ((hs k _ (core_of_cell hc) hq).2 d hd)) ha ⟨_, core_of_cell hc, hq⟩
    obtain ⟨a, b, _⟩ := use_same hu
    have u2 : Up r0 st1 (st2.ub k) := Up.of_same a.rev a.inputs a.steps a.core
    exact ⟨(u0.trans a1).trans u2, fun x cx hx => a2 x cx (by have hx : st2.cells x = some cx := hx; rw [b] at hx; exact hx)⟩
  | @okAgain st st1 st2 k c c1 s hin hc hat hb h hc1 hh h2 ih ih2 =>
    intro hr hs hk ha
    have hq := at_old hin hc hk
    have u0 : Up r0 st (st.bz k).ck := Up.of_same rfl rfl rfl (fun _ => rfl)
    obtain ⟨_, a1, a2⟩ := ih hr (u0.settled hs) (fun d hd => u0.calm ((hs k _ (core_of_cell hc) hq).2 d hd)) ha ⟨_, core_of_cell hc, hq⟩
    rw [a2 _ _ hc1] at hh
    cases hh
  | @wrong st st1 st2 k c s hin hc hat hb h h2 ih ih2 =>
    intro hr hs hk ha
    have hq := at_old hin hc hk
    have u0 : Up r0 st (st.bz k).ck := Up.of_same rfl rfl rfl (fun _ => rfl)
    obtain ⟨e, _⟩ := ih hr (u0.settled hs) (fun d hd => u0.calm ((hs k _ (core_of_cell hc) hq).2 d hd)) ha ⟨_, core_of_cell hc, hq⟩
    cases e
  | tinput hin => exact fun _ _ hk hh => ⟨Up.of_same rfl rfl rfl (fun _ => rfl), hh, hk.1 _ hin⟩
  | @tat st k c hin hc hat hb =>
    intro hr hs hk ha
    exact ⟨Up.of_same rfl rfl rfl (fun _ => rfl), ha, (hs k _ (core_of_cell hc) (.inr hat)).1⟩
  | tnew hin hc hb h hc1 ih => exact fun _ _ hk _ => (core_none hin hc hk).elim
  | @tok st st1 k c c1 hin hc hat hb h hc1 ih =>
    intro hr hs hk ha
    have hq := at_old hin hc hk
    have u0 : Up r0 st (st.bz k).ck := Up.of_same rfl rfl rfl (fun _ => rfl)
    obtain ⟨_, a1, a2⟩ := ih hr (u0.settled hs) (fun d hd => u0.calm ((hs k _ (core_of_cell hc) hq).2 d hd)) ha ⟨_, core_of_cell hc, hq⟩
    have u1 := u0.trans a1
    have hin1 : st1.inputs k = none := by rw [u1.inputs]; exact hin
    have := (u1.settled hs) k _ (core_of_cell hc1) (at_old hin1 hc1 (u1.calm hk))
    have u2 : Up r0 st1 (st1.ub k) := Up.of_same rfl rfl rfl (fun _ => rfl)
    exact ⟨u1.trans u2, a2, this.1⟩
  | @twrong st st1 st2 k c c2 s hin hc hat hb h h2 hc2 ih ih2 =>
    intro hr hs hk ha
    have hq := at_old hin hc hk
    have u0 : Up r0 st (st.bz k).ck := Up.of_same rfl rfl rfl (fun _ => rfl)
    obtain ⟨e, _⟩ := ih hr (u0.settled hs) (fun d hd => u0.calm ((hs k _ (core_of_cell hc) hq).2 d hd)) ha ⟨_, core_of_cell hc, hq⟩
    cases e
  | rule => trivial
  | text0 => trivial
  | text1 => trivial
  | rnil => trivial
  | rskip => trivial
  | rmore => trivial
  | rstop => trivial
  | @gnil st k c hc =>
    intro hr hs hl ha hk
    obtain ⟨c', h1, h2⟩ := hk
    rw [core_of_cell hc] at h1
    obtain rfl := Option.some.inj h1
    refine ⟨rfl, ⟨rfl, rfl, rfl, fun x => ?_⟩, fun x cx hx => ?_⟩
    · by_cases e : x = k
      · subst e
        exact .inr ⟨coreOf c, st.rev, core_of_cell hc, by show Option.map coreOf (setF st.cells x (some { c with at_ := st.rev }) x) = _; rw [setF_same]; rfl, .inr ⟨h2, rfl⟩⟩
      · have : (st.setCell k { c with at_ := st.rev }).core x = st.core x := by show Option.map coreOf (setF st.cells k (some { c with at_ := st.rev }) x) = Option.map coreOf (st.cells x); rw [setF_other _ _ e]
        rw [this]
        cases hx : st.core x with
        | none => exact .inl ⟨rfl, rfl⟩
        | some cx => exact .inr ⟨cx, cx.at_, rfl, rfl, .inl rfl⟩
    · have hx : setF st.cells k _ x = some cx := hx
      by_cases e : x = k
      · subst e; rw [setF_same] at hx; cases hx; exact ha x c hc
      · rw [setF_other _ _ e] at hx; exact ha x cx hx
  | @gold st st1 k d t l c h hc hlt ih =>
    intro hr hs hl ha hk
    obtain ⟨a1, a2, a3⟩ := ih hr hs (hl d List.mem_cons_self) ha
    obtain ⟨c', h1, h2⟩ := hk
    exfalso
    rcases a1.core k with ⟨k1, _⟩ | ⟨cy, a, k1, k2, k3⟩
    · rw [h1] at k1; cases k1
    · rw [h1] at k1
      obtain rfl := Option.some.inj k1
      rw [core_of_cell hc] at k2
      have e : c.at_ = a := congrArg Core.at_ (Option.some.inj k2)
      rcases k3 with k3 | ⟨_, k3⟩
      · rcases h2 with h2 | h2 <;> omega
      · omega
  | @gmore st st1 st' k d t l c b h hc hlt h2 ih ih2 =>
    intro hr hs hl ha hk
    obtain ⟨a1, a2, a3⟩ := ih hr hs (hl d List.mem_cons_self) ha
    obtain ⟨c', h1, h2⟩ := hk
    have hrev := a1.rev
    have hk1 : ∃ c, st1.core k = some c ∧ (c.at_ = r0 ∨ c.at_ = st1.rev) := by
      rcases a1.core k with ⟨k1, _⟩ | ⟨cy, a, k1, k2, k3⟩
      · rw [h1] at k1; cases k1
      · rw [h1] at k1
        obtain rfl := Option.some.inj k1
        refine ⟨_, k2, ?_⟩
        dsimp only
        rcases k3 with k3 | ⟨_, k3⟩
        · rcases h2 with h2 | h2
          · exact .inl (by omega)
          · exact .inr (by omega)
        · exact .inr (by omega)
    obtain ⟨b1, b2, b3⟩ := ih2 (by rw [hrev]; exact hr) (a1.settled hs) (fun y hy => a1.calm (hl y (List.mem_cons_of_mem _ hy))) a2 hk1
    exact ⟨b1, a1.trans b2, b3⟩

theorem textGo_away {f g : Int → Option ByteArray} (kind : Int) (l : List Int) (h : ∀ d ∈ l, f d = g d) : ∀ (i : Nat) (sum : Int), textGo kind (pureA f) l i sum () = textGo kind (pureA g) l i sum () := by
  induction l with
  | nil => intro i sum; rw [textGo, textGo]
  | cons d r ih =>
    intro i sum
    have ih := ih (fun x hx => h x (List.mem_cons_of_mem _ hx))
    have hd := h d List.mem_cons_self
    by_cases hs : skips kind i sum
    · rw [textGo_skip _ _ _ _ _ _ _ hs, textGo_skip _ _ _ _ _ _ _ hs]
      exact ih _ _
    · cases hf : f d with
      | none => rw [textGo_fail _ _ _ _ _ _ _ hs (pureA_none hf), textGo_fail _ _ _ _ _ _ _ hs (pureA_none (hd ▸ hf))]
      | some t =>
        rw [textGo_next _ _ _ _ _ _ _ hs (pureA_some hf), textGo_next _ _ _ _ _ _ _ hs (pureA_some (hd ▸ hf))]
        cases nextM kind i sum t with
        | inl s => exact ih _ _
        | inr v => rfl
/-- An input that no rule asks for tells nothing. -/
theorem val_away {rs : List Rule} {z : Int} (hz : ∀ r ∈ rs, ∀ d ∈ r.l, d ≠ z) {ip ip' : Inp} (hi : ∀ x, x ≠ z → ip x = ip' x) {k : Int} (hk : k ≠ z) {s : ByteArray} (h : val rs ip k = some s) : val rs ip' k = some s := by
  have key : ∀ n k, k ≠ z → evalM rs n ip k = evalM rs n ip' k := by
    intro n
    induction n with
    | zero => intro k _; rfl
    | succ n ih =>
      intro k hk
      unfold evalM
      rw [hi k hk]
      cases ip' k with
      | some s => rfl
      | none =>
        have : textM rs (pureA (evalM rs n ip)) () k = textM rs (pureA (evalM rs n ip')) () k := by
          unfold textM
          split
          · rfl
          · cases hr : rs[k.toNat]? with
            | none => rfl
            | some r => exact textGo_away _ _ (fun d hd => ih d (hz r (List.mem_of_getElem? hr) d hd)) _ _
        simp only [this]
  obtain ⟨n, hn⟩ := val_some.1 h
  exact val_some.2 ⟨n, by rw [← key n k hk]; exact hn⟩
end Go.Proofs.Ytfkedhclhmbpfaa
