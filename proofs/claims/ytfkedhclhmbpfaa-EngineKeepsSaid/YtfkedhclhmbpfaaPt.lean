/-
  Two engines of unlike budgets, side by side.
-/
import Derived.Test.YtfkedhclhmbpfaaPs
namespace Go.Proofs.Ytfkedhclhmbpfaa
set_option linter.unusedVariables false
set_option linter.unusedSimpArgs false

/-- A text's number, and the list behind it. -/
def wordF (ws : List ByteArray) (s : ByteArray) : List ByteArray × Int := match pos ws s with
  | some i => (ws, (i : Int) + 1)
  | none => (ws ++ [s], (ws.length : Int) + 1)
theorem word_is {st st' : St} {s : ByteArray} {d : Int} (h : wordM st s = some (st', d)) : st' = { st with words := (wordF st.words s).1 } ∧ d = (wordF st.words s).2 := by
  unfold wordM at h
  unfold wordF
  split at h
  · cases hp : pos st.words s with
    | some i => rw [hp] at h; cases h; exact ⟨rfl, rfl⟩
    | none => rw [hp] at h; cases h; exact ⟨rfl, rfl⟩
  · cases h
theorem wrote_is {st st' : St} {k : Int} {asked : List Int} {s : ByteArray} (h : wroteM st k asked s = some st') : Same2 (newSt st k asked (wordF st.words s).2 (wordF st.words s).1) st' := by
  cases hw : wordM (freshM st k) s with
  | none => unfold wroteM at h; rw [hw] at h; cases h
  | some x =>
    obtain ⟨st1, d⟩ := x
    obtain ⟨rfl, rfl⟩ := word_is hw
    have hw' : wordM (freshM st k) s = some ({ freshM st k with words := (wordF st.words s).1 }, (wordF st.words s).2) := hw
    rw [wrote_eq hw'] at h
    exact (keep_same h).1
theorem newCell_core (st : St) (k : Int) (asked : List Int) (d : Int) : coreOf (newCell st k asked d) = ⟨d, asked, st.rev, if d = ((st.core k).getD (coreOf zeroCell)).digest then ((st.core k).getD (coreOf zeroCell)).turned else st.rev⟩ := by
  unfold St.core newCell coreOf
  cases st.cells k with
  | none => rfl
  | some c => rfl
theorem core_some {st : St} {k : Int} : (st.cells k).isSome = (st.core k).isSome := by
  unfold St.core
  cases st.cells k <;> rfl

/-- No cell turned but for its value. -/
structure SameC (st st' : St) : Prop where
  rev : st'.rev = st.rev
  inputs : st'.inputs = st.inputs
  words : st'.words = st.words
  nc : st'.nc = st.nc
  core : ∀ x, st'.core x = st.core x
  steps : st.steps ≤ st'.steps
theorem SameC.refl (st : St) : SameC st st := ⟨rfl, rfl, rfl, rfl, fun _ => rfl, Int.le_refl _⟩
theorem SameC.trans {a b c : St} (h : SameC a b) (k : SameC b c) : SameC a c := ⟨k.rev.trans h.rev, k.inputs.trans h.inputs, k.words.trans h.words, k.nc.trans h.nc, fun x => (k.core x).trans (h.core x), Int.le_trans h.steps k.steps⟩
theorem SameC.of2 {st st' : St} (h : Same2 st st') : SameC st st' := ⟨h.rev, h.inputs, h.words, h.nc, h.core, by rw [h.steps]; exact Int.le_refl _⟩
theorem SameC.good {rs : List Rule} {st st' : St} (h : SameC st st') {d : Int} (hg : Good rs st d) : Good rs st' d := by
  obtain ⟨t, h1, h2⟩ := hg
  have hi : st'.inp = st.inp := by unfold St.inp; rw [h.inputs]
  refine ⟨t, by rw [hi]; exact h1, fun hn => ?_⟩
  obtain ⟨c, h3, h4, h5⟩ := h2 (by rw [← h.inputs]; exact hn)
  refine ⟨c, by rw [h.core]; exact h3, by rw [h.rev]; exact h4, ?_⟩
  unfold St.text at h5 ⊢
  rw [h.words]
  exact h5

section
variable {rs : List Rule} {Ul : List Int}
/-- What a run does of what is right already. -/
def Rstill (rs : List Rule) (Ul : List Int) : Job → St → St → Prop
  | .ask k s, st, st' => InvA Ul st → InvB rs st → k ∈ Ul → Good rs st k → SameC st st'
  | .step k s, st, st' => InvA Ul st → InvB rs st → k ∈ Ul → st.inputs k = none → (∃ c, st.core k = some c ∧ c.at_ = st.rev) → SameC st st'
  | .text k ks s, st, st' => InvA Ul st → InvB rs st → (∀ d ∈ ks, Good rs st d) → SameC st st'
  | .run kind l i sum ks ks' s, st, st' => InvA Ul st → InvB rs st → (∀ d ∈ l, d ∈ Ul) → (∀ d ∈ ks', Good rs st d) → SameC st st'
  | _, _, _ => True

theorem good_core {st : St} {k : Int} (h : Good rs st k) (hin : st.inputs k = none) : ∃ c, st.core k = some c ∧ c.at_ = st.rev := by
  obtain ⟨t, _, h2⟩ := h
  obtain ⟨c, a, b, _⟩ := h2 hin
  exact ⟨c, a, b⟩
theorem core_cell_at {st : St} {k : Int} {c : Cell} (hc : st.cells k = some c) (h : ∃ c, st.core k = some c ∧ c.at_ = st.rev) : c.at_ = st.rev := by
  obtain ⟨c', h1, h2⟩ := h
  rw [core_of_cell hc] at h1
  rw [← Option.some.inj h1] at h2
  exact h2
theorem core_cell_none {st : St} {k : Int} (hc : st.cells k = none) (h : ∃ c, st.core k = some c ∧ c.at_ = st.rev) : False := by
  obtain ⟨c', h1, h2⟩ := h
  unfold St.core at h1
  rw [hc] at h1
  cases h1

theorem R_still (hU : Keys rs Ul) {j : Job} {st st' : St} (h : R rs j st st') : Rstill rs Ul j st st' := by
  induction h with
  | input hin => exact fun _ _ _ _ => SameC.refl _
  | @hit st st' k c hin hc hat hh hu =>
    intro _ _ _ _
    obtain ⟨a, b, _⟩ := use_same hu
    exact ⟨a.rev, a.inputs, a.words, a.nc, a.core, by rw [a.steps]; exact Int.le_refl _⟩
  | new hin hc hb h ih => exact fun _ _ _ hg => (core_cell_none hc (good_core hg hin)).elim
  | @again st st1 k c s hin hc hat hh hb h ih =>
    intro hA hB hk hg
    have := ih (hA.bz k) (hB.bz k) hk hin (good_core hg hin)
    exact ⟨this.rev, this.inputs, this.words, this.nc, this.core, this.steps⟩
  | ok hin hc hat => exact fun _ _ _ hg => absurd (core_cell_at hc (good_core hg hin)) hat
  | okAgain hin hc hat => exact fun _ _ _ hg => absurd (core_cell_at hc (good_core hg hin)) hat
  | wrong hin hc hat => exact fun _ _ _ hg => absurd (core_cell_at hc (good_core hg hin)) hat
  | tinput => trivial
  | tat => trivial
  | tnew => trivial
  | tok => trivial
  | twrong => trivial
  | @rule st st1 st2 k asked s h hw ih =>
    intro hA hB hk hin hc
    obtain ⟨c, hc1, hc2⟩ := hc
    obtain ⟨a1, a2, a3, a4, a5, a6, a7⟩ := R_inv hU h hA hB
    obtain ⟨s', b1, b2, b3⟩ := (hB.cel k c hc1).deps hB hc2
    have hval : val rs st.inp k = some s := val_of_text (by unfold St.inp; rw [hin]; rfl) (textM_rep a6)
    rw [b2] at a6
    simp only [Option.some.injEq, Prod.mk.injEq] at a6
    obtain ⟨e1, e2⟩ := a6
    have S1 := ih hA hB (fun d hd => b3 d (by rw [e1]; exact hd))
    have S2 := wrote_is hw
    have hmem : s ∈ st1.words := by
      rw [S1.words, ← e2]
      unfold St.text at b1
      exact List.mem_of_getElem? b1
    -- the text's number is the cell's
    have hcore1 : st1.core k = some c := by rw [S1.core]; exact hc1
    have hdig : (wordF st1.words s).1 = st1.words ∧ (wordF st1.words s).2 = c.digest := by
      unfold wordF
      cases hp : pos st1.words s with
      | none => exact absurd hmem (pos_none.1 hp)
      | some i =>
        refine ⟨rfl, ?_⟩
        have h1 : st1.words[(c.digest - 1).toNat]? = some s := by
          rw [S1.words, ← e2]
          exact b1
        have h2 := nodup_at a2.wnd h1 (pos_some hp)
        have h3 := (hB.cel k c hc1).dig
        show (i : Int) + 1 = c.digest
        omega
    rw [hdig.1, hdig.2] at S2
    have hn1 : (st1.cells k).isSome = true := by rw [core_some, hcore1]; rfl
    refine S1.trans ⟨S2.rev, S2.inputs, S2.words, ?_, fun x => ?_, ?_⟩
    · have q1 : st2.nc = (if (st1.cells k).isSome then st1.nc else st1.nc + 1) := S2.nc
      rw [hn1] at q1
      simpa using q1
    · rw [S2.core x]
      by_cases e : x = k
      · subst e
        rw [new_core_self, newCell_core, hcore1]
        simp only [Option.getD_some]
        rw [if_pos trivial, ← e1]
        have : c.at_ = st1.rev := by rw [S1.rev]; exact hc2
        rw [← this]
      · rw [new_core_other _ _ _ _ e]
    · have q1 : st2.steps = st1.steps + 1 := S2.steps
      omega
  | text0 => exact fun _ _ _ => SameC.refl _
  | @text1 st st1 k r ks s hk hr h ih => exact fun hA hB hg => ih hA hB (hU r (List.mem_of_getElem? hr)) hg
  | rnil => exact fun _ _ _ _ => SameC.refl _
  | @rskip st st' kind d l i sum ks ks' s hs h ih => exact fun hA hB hl hg => ih hA hB (fun x hx => hl x (List.mem_cons_of_mem _ hx)) hg
  | @rmore st st1 st' kind d l i sum sum' ks ks' s t hs ha hn h ih ih2 =>
    intro hA hB hl hg
    have hd := hl d List.mem_cons_self
    obtain ⟨a1, a2, a3, a4, a5, a6⟩ := R_inv hU ha hA hB hd
    have hl' : ∀ x ∈ l, x ∈ Ul := fun x hx => hl x (List.mem_cons_of_mem _ hx)
    obtain ⟨_, _, _, _, _, b6, _⟩ := R_inv hU h a1 a2 hl'
    have hdm : d ∈ ks' := textGo_noted b6
    have S1 := ih hA hB hd (hg d hdm)
    exact S1.trans (ih2 a1 a2 hl' (fun y hy => S1.good (hg y hy)))
  | @rstop st st1 kind d l i sum ks t v hs ha hn ih =>
    intro hA hB hl hg
    exact ih hA hB (hl d List.mem_cons_self) (hg d (noted_sub ks d).2)
  | gnil => trivial
  | gold => trivial
  | gmore => trivial

/-- Alike but for values; the second has taken more steps. -/
structure Sim (a b : St) : Prop where
  rev : b.rev = a.rev
  inputs : b.inputs = a.inputs
  words : b.words = a.words
  nc : b.nc = a.nc
  core : ∀ x, b.core x = a.core x
  steps : a.steps ≤ b.steps
theorem Sim.right {a b b' : St} (h : Sim a b) (k : SameC b b') : Sim a b' := ⟨k.rev.trans h.rev, k.inputs.trans h.inputs, k.words.trans h.words, k.nc.trans h.nc, fun x => (k.core x).trans (h.core x), Int.le_trans h.steps k.steps⟩
theorem Sim.left {a a' b : St} (h : Sim a b) (k : Same2 a a') : Sim a' b := ⟨h.rev.trans k.rev.symm, h.inputs.trans k.inputs.symm, h.words.trans k.words.symm, h.nc.trans k.nc.symm, fun x => (h.core x).trans (k.core x).symm, by rw [k.steps]; exact h.steps⟩
theorem Sim.alike {a b a' b' : St} (h : Sim a b) (a1 : a'.rev = a.rev) (a2 : a'.inputs = a.inputs) (a3 : a'.words = a.words) (a4 : a'.nc = a.nc) (a5 : a'.cells = a.cells) (a6 : a'.steps = a.steps) (b1 : b'.rev = b.rev) (b2 : b'.inputs = b.inputs) (b3 : b'.words = b.words) (b4 : b'.nc = b.nc) (b5 : b'.cells = b.cells) (b6 : b'.steps = b.steps) : Sim a' b' :=
  ⟨by rw [a1, b1]; exact h.rev, by rw [a2, b2]; exact h.inputs, by rw [a3, b3]; exact h.words, by rw [a4, b4]; exact h.nc, fun x => by unfold St.core; rw [a5, b5]; exact h.core x, by rw [a6, b6]; exact h.steps⟩
theorem Sim.none {a b : St} (h : Sim a b) {k : Int} (hc : a.cells k = none) : b.cells k = none := by
  have := h.core k
  unfold St.core at this
  rw [hc] at this
  cases hb : b.cells k with
  | none => rfl
  | some c => rw [hb] at this; cases this
theorem Sim.some {a b : St} (h : Sim a b) {k : Int} {c : Cell} (hc : a.cells k = some c) : ∃ c', b.cells k = some c' ∧ coreOf c' = coreOf c := by
  have := h.core k
  rw [core_of_cell hc] at this
  exact cell_of_core this
theorem Sim.inp {a b : St} (h : Sim a b) : b.inp = a.inp := by unfold St.inp; rw [h.inputs]
theorem Sim.good {a b : St} (h : Sim a b) {d : Int} (hg : Good rs a d) : Good rs b d :=
  (show SameC a b from ⟨h.rev, h.inputs, h.words, h.nc, h.core, h.steps⟩).good hg
end
end Go.Proofs.Ytfkedhclhmbpfaa
