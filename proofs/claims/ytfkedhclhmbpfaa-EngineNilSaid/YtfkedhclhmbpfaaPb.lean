/-
  What holds of an engine at all times: of its cells' texts, numbers and lists.
-/
import Derived.Test.YtfkedhclhmbpfaaPa
namespace Go.Proofs.Ytfkedhclhmbpfaa
set_option linter.unusedVariables false
set_option linter.unusedSimpArgs false

/-- A cell but for its value. -/
structure Core where
  digest : Int
  asked : List Int
  at_ : Int
  turned : Int
def coreOf (c : Cell) : Core := ⟨c.digest, c.asked, c.at_, c.turned⟩
def St.core (st : St) (k : Int) : Option Core := (st.cells k).map coreOf
def St.text (st : St) (c : Core) : Option ByteArray := st.words[(c.digest - 1).toNat]?
def St.inp (st : St) : Inp := fun k => (st.inputs k).map fun x => x.1

/-- What is known of a key that a cell asked for. -/
def DepOK (st : St) (c : Core) (d : Int) (t : ByteArray) : Prop :=
  (∀ x, st.inputs d = some x → x.2 ≤ c.at_ → x.1 = t) ∧ (st.inputs d = none → ∃ cd, st.core d = some cd ∧ c.at_ ≤ cd.at_ ∧ (cd.turned ≤ c.at_ → st.text cd = some t))

/-- What is known of a cell. -/
structure CellOK (rs : List Rule) (st : St) (k : Int) (c : Core) : Prop where
  apart : st.inputs k = none
  at_le : c.at_ ≤ st.rev
  turned_le : c.turned ≤ c.at_
  dig : 1 ≤ c.digest
  trace : ∃ ans s, st.text c = some s ∧ textM rs (repA ans) [] k = some (c.asked, s) ∧ ∀ d ∈ c.asked, ∃ t, ans d = some t ∧ DepOK st c d t
  now : c.at_ = st.rev → ∃ s, st.text c = some s ∧ val rs st.inp k = some s

structure InvB (rs : List Rule) (st : St) : Prop where
  cel : ∀ k c, st.core k = some c → CellOK rs st k c
  inl : ∀ k x, st.inputs k = some x → x.2 ≤ st.rev
  wnd : st.words.Nodup

/-- Between st and st' no cell of B turned; a cell that turned is at the revision, and was not. -/
structure Ext (B : Int → Prop) (st st' : St) : Prop where
  rev : st'.rev = st.rev
  inputs : st'.inputs = st.inputs
  busy : st'.busy = st.busy
  words : ∃ l, st'.words = st.words ++ l
  cyc : st.cycle = true → st'.cycle = true
  keep : ∀ k c, st.core k = some c → ∃ c', st'.core k = some c' ∧ (c' = c ∨ (c'.at_ = st.rev ∧ c.at_ ≠ st.rev ∧ ¬ B k ∧ (c'.digest = c.digest → c'.turned = c.turned) ∧ (c'.digest ≠ c.digest → c'.turned = st.rev)))
  fresh : ∀ k, st.core k = none → B k → st'.core k = none
  steps : st.steps ≤ st'.steps
  checks : st.checks ≤ st'.checks

theorem Ext.refl (B : Int → Prop) (st : St) : Ext B st st := ⟨rfl, rfl, rfl, ⟨[], by simp⟩, id, fun k c h => ⟨c, h, .inl rfl⟩, fun k h _ => h, Int.le_refl _, Int.le_refl _⟩
theorem Ext.weaken {B B' : Int → Prop} {st st' : St} (h : Ext B st st') (hb : ∀ k, B' k → B k) : Ext B' st st' :=
  { h with
    keep := fun k c hk => by
      obtain ⟨c', h1, h2⟩ := h.keep k c hk
      exact ⟨c', h1, h2.imp id (fun ⟨a, b, c, d⟩ => ⟨a, b, fun hh => c (hb k hh), d⟩)⟩
    fresh := fun k hk hb' => h.fresh k hk (hb k hb') }
theorem Ext.trans {B : Int → Prop} {a b c : St} (h : Ext B a b) (k : Ext B b c) : Ext B a c where
  rev := k.rev.trans h.rev
  inputs := k.inputs.trans h.inputs
  busy := k.busy.trans h.busy
  words := by
    obtain ⟨l, hl⟩ := h.words
    obtain ⟨m, hm⟩ := k.words
    exact ⟨l ++ m, by rw [hm, hl, List.append_assoc]⟩
  cyc := fun hc => k.cyc (h.cyc hc)
  keep := fun x c0 hx => by
    obtain ⟨c1, h1, h2⟩ := h.keep x c0 hx
    obtain ⟨c2, k1, k2⟩ := k.keep x c1 h1
    refine ⟨c2, k1, ?_⟩
    rw [h.rev] at k2
    rcases h2 with rfl | ⟨e1, e2, e3, e4, e5⟩
    · exact k2
    · rcases k2 with rfl | ⟨f1, f2, _⟩
      · exact .inr ⟨e1, e2, e3, e4, e5⟩
      · exact absurd e1 f2
  fresh := fun x hx hb => k.fresh x (h.fresh x hx hb) hb
  steps := Int.le_trans h.steps k.steps
  checks := Int.le_trans h.checks k.checks

theorem Ext.inp {B : Int → Prop} {st st' : St} (h : Ext B st st') : st'.inp = st.inp := by unfold St.inp; rw [h.inputs]
theorem Ext.text {B : Int → Prop} {st st' : St} (h : Ext B st st') {c : Core} {s : ByteArray} (hs : st.text c = some s) : st'.text c = some s := by
  obtain ⟨l, hl⟩ := h.words
  unfold St.text at hs ⊢
  rw [hl, List.getElem?_append_left (List.getElem?_eq_some_iff.1 hs).1]
  exact hs

/-- A cell that has not turned is what it was. -/
theorem CellOK.ext {rs : List Rule} {B : Int → Prop} {st st' : St} {k : Int} {c : Core} (hi : ∀ d c, st.core d = some c → c.at_ ≤ st.rev ∧ ∃ s, st.text c = some s) (h : CellOK rs st k c) (e : Ext B st st') : CellOK rs st' k c where
  apart := by rw [e.inputs]; exact h.apart
  at_le := by rw [e.rev]; exact h.at_le
  turned_le := h.turned_le
  dig := h.dig
  trace := by
    obtain ⟨ans, s, h1, h2, h3⟩ := h.trace
    refine ⟨ans, s, e.text h1, h2, fun d hd => ?_⟩
    obtain ⟨t, ht, h4, h5⟩ := h3 d hd
    refine ⟨t, ht, fun x hx hle => h4 x (by rw [← e.inputs]; exact hx) hle, fun hn => ?_⟩
    rw [e.inputs] at hn
    obtain ⟨cd, hcd, hat, htx⟩ := h5 hn
    obtain ⟨cd', hcd', hor⟩ := e.keep d cd hcd
    refine ⟨cd', hcd', ?_⟩
    rcases hor with rfl | ⟨e1, e2, e3, e4, e5⟩
    · exact ⟨hat, fun hh => e.text (htx hh)⟩
    · refine ⟨by rw [e1]; exact h.at_le, fun hh => ?_⟩
      by_cases hdg : cd'.digest = cd.digest
      · have := e.text (htx (by rw [← e4 hdg]; exact hh))
        unfold St.text at this ⊢
        rw [hdg]
        exact this
      · have h6 := e5 hdg
        have h7 := h.at_le
        have h8 := (hi d cd hcd).1
        exact absurd (by omega) e2
  now := fun hh => by
    rw [e.rev] at hh
    obtain ⟨s, h1, h2⟩ := h.now hh
    exact ⟨s, e.text h1, by rw [e.inp]; exact h2⟩
theorem InvB.basics {rs : List Rule} {st : St} (h : InvB rs st) : ∀ d c, st.core d = some c → c.at_ ≤ st.rev ∧ ∃ s, st.text c = some s := fun d c hd => by
  have := h.cel d c hd
  obtain ⟨ans, s, h1, _⟩ := this.trace
  exact ⟨this.at_le, s, h1⟩
/-- Where one cell turned (or is new), it is enough to know of that one. -/
theorem InvB.ext {rs : List Rule} {B : Int → Prop} {st st' : St} (h : InvB rs st) (e : Ext B st st') (hw : st'.words.Nodup) (hn : ∀ k c, st'.core k = some c → st.core k ≠ some c → CellOK rs st' k c) : InvB rs st' where
  cel := fun k c hk => by
    by_cases he : st.core k = some c
    · exact (h.cel k c he).ext h.basics e
    · exact hn k c hk he
  inl := fun k x hx => by
    rw [e.rev]
    rw [e.inputs] at hx
    exact h.inl k x hx
  wnd := hw

/-- States that differ in values, uses and counts alone. -/
structure Same (st st' : St) : Prop where
  rev : st'.rev = st.rev
  inputs : st'.inputs = st.inputs
  busy : st'.busy = st.busy
  words : st'.words = st.words
  cycle : st'.cycle = st.cycle
  core : ∀ k, st'.core k = st.core k
  steps : st'.steps = st.steps
  checks : st'.checks = st.checks
theorem Same.refl (st : St) : Same st st := ⟨rfl, rfl, rfl, rfl, rfl, fun _ => rfl, rfl, rfl⟩
theorem Same.trans {a b c : St} (h : Same a b) (k : Same b c) : Same a c := ⟨k.rev.trans h.rev, k.inputs.trans h.inputs, k.busy.trans h.busy, k.words.trans h.words, k.cycle.trans h.cycle, fun x => (k.core x).trans (h.core x), k.steps.trans h.steps, k.checks.trans h.checks⟩
theorem Same.ext {st st' : St} (h : Same st st') (B : Int → Prop) : Ext B st st' :=
  ⟨h.rev, h.inputs, h.busy, ⟨[], by rw [h.words]; simp⟩, fun hc => by rw [h.cycle]; exact hc, fun k c hk => ⟨c, by rw [h.core]; exact hk, .inl rfl⟩, fun k hk _ => by rw [h.core]; exact hk, by rw [h.steps]; exact Int.le_refl _, by rw [h.checks]; exact Int.le_refl _⟩
theorem Same.invB {rs : List Rule} {st st' : St} (h : Same st st') (hi : InvB rs st) : InvB rs st' :=
  hi.ext (h.ext (fun _ => False)) (by rw [h.words]; exact hi.wnd) (fun k c hk hn => absurd (by rw [← h.core]; exact hk) hn)
theorem Same.text {st st' : St} (h : Same st st') (c : Core) : st'.text c = st.text c := by unfold St.text; rw [h.words]
end Go.Proofs.Ytfkedhclhmbpfaa
