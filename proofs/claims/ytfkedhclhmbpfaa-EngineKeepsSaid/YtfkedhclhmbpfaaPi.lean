/-
  What the rules tell, by definition: the evaluation of a key from the inputs.
  What holds of an engine at all times: of its cells' texts, numbers and lists.
  Values, uses and charges: what holds of them, and that what the engine does with them goes through.
  A key's rule is written: what then holds.
  A key's rule is written: all holds again.
  A rule's run, and step: they go through, and tell what the rules tell.
  right: it goes through, and a cell that it finds right is.
  ask and turned: with enough steps down they go through, and tell what the rules tell, or that a key asks for itself.
  The calls from outside: they go through, and keep what holds of an engine.
-/
import Derived.Test.YtfkedhclhmbpfaaM

section
namespace Go.Proofs.Ytfkedhclhmbpfaa
set_option linter.unusedVariables false
set_option linter.unusedSimpArgs false

abbrev Inp := Int → Option ByteArray
/-- 'ask' without a state. -/
def pureA (f : Int → Option ByteArray) (_ : Unit) (d : Int) : Option (Unit × ByteArray) := (f d).map fun t => ((), t)
/-- 'ask' that notes the keys. -/
def noted (l : List Int) (d : Int) : List Int := if d ∈ l then l else l ++ [d]
def repA (f : Int → Option ByteArray) (l : List Int) (d : Int) : Option (List Int × ByteArray) := (f d).map fun t => (noted l d, t)

/-- A key's text, in at most n steps down. -/
def evalM (rs : List Rule) : Nat → Inp → Int → Option ByteArray
  | 0, _, _ => none
  | n + 1, ip, k => match ip k with
    | some s => some s
    | none => (textM rs (pureA (evalM rs n ip)) () k).map fun x => x.2

theorem textGo_mono {f g : Int → Option ByteArray} (h : ∀ d s, f d = some s → g d = some s) (kind : Int) (l : List Int) : ∀ (i : Nat) (sum : Int) (s : ByteArray), textGo kind (pureA f) l i sum () = some ((), s) → textGo kind (pureA g) l i sum () = some ((), s) := by
  induction l with
  | nil => intro i sum s hs; exact hs
  | cons d r ih =>
    intro i sum s hs
    unfold textGo at hs ⊢
    split at hs
    · rename_i hc
      rw [if_pos hc]
      exact ih _ _ _ hs
    · rename_i hc
      rw [if_neg hc]
      cases hf : f d with
      | none => simp [pureA, hf] at hs
      | some t =>
        simp only [pureA, hf, Option.map_some] at hs
        simp only [pureA, h d t hf, Option.map_some]
        split at hs
        · rename_i h1
          rw [if_pos h1]
          exact ih _ _ _ hs
        · rename_i h1
          rw [if_neg h1]
          split at hs
          · rename_i h2
            rw [if_pos h2]
            exact hs
          · rename_i h2
            rw [if_neg h2]
            split at hs
            · rename_i h3
              rw [if_pos h3]
              exact hs
            · rename_i h3
              rw [if_neg h3]
              exact ih _ _ _ hs
theorem textM_mono {f g : Int → Option ByteArray} (h : ∀ d s, f d = some s → g d = some s) (rs : List Rule) (k : Int) (s : ByteArray) (hs : textM rs (pureA f) () k = some ((), s)) : textM rs (pureA g) () k = some ((), s) := by
  unfold textM at hs ⊢
  split at hs
  · rename_i hc
    rw [if_pos hc]
    exact hs
  · rename_i hc
    rw [if_neg hc]
    split at hs
    · exact hs
    · exact textGo_mono h _ _ _ _ _ hs
theorem eval_up (rs : List Rule) (ip : Inp) : ∀ (n : Nat) (k : Int) (s : ByteArray), evalM rs n ip k = some s → evalM rs (n + 1) ip k = some s := by
  intro n
  induction n with
  | zero => intro k s h; cases h
  | succ n ih =>
    intro k s h
    unfold evalM at h ⊢
    cases hk : ip k with
    | some t => rw [hk] at h; exact h
    | none =>
      rw [hk] at h
      simp only [Option.map_eq_some_iff] at h ⊢
      obtain ⟨⟨u, t⟩, h, rfl⟩ := h
      exact ⟨((), t), textM_mono (fun d s hd => ih d s hd) rs k t h, rfl⟩
theorem eval_le (rs : List Rule) (ip : Inp) {n m : Nat} (hnm : n ≤ m) (k : Int) (s : ByteArray) (h : evalM rs n ip k = some s) : evalM rs m ip k = some s := by
  induction hnm with
  | refl => exact h
  | step _ ih => exact eval_up rs ip _ k s ih
theorem eval_det (rs : List Rule) (ip : Inp) {n m : Nat} {k : Int} {s t : ByteArray} (h1 : evalM rs n ip k = some s) (h2 : evalM rs m ip k = some t) : s = t := by
  have a := eval_le rs ip (Nat.le_max_left n m) k s h1
  have b := eval_le rs ip (Nat.le_max_right n m) k t h2
  rw [a] at b
  exact Option.some.inj b

/-- A key's text, if it has one. -/
noncomputable def val (rs : List Rule) (ip : Inp) (k : Int) : Option ByteArray :=
  open Classical in if h : ∃ s, ∃ n, evalM rs n ip k = some s then some (Classical.choose h) else none
theorem val_some {rs : List Rule} {ip : Inp} {k : Int} {s : ByteArray} : val rs ip k = some s ↔ ∃ n, evalM rs n ip k = some s := by
  unfold val
  constructor
  · intro h
    split at h
    · rename_i hx
      rw [← Option.some.inj h]
      exact Classical.choose_spec hx
    · cases h
  · rintro ⟨n, hn⟩
    have hx : ∃ s, ∃ n, evalM rs n ip k = some s := ⟨s, n, hn⟩
    rw [dif_pos hx]
    obtain ⟨m, hm⟩ := Classical.choose_spec hx
    rw [eval_det rs ip hm hn]
theorem val_none {rs : List Rule} {ip : Inp} {k : Int} (h : ∀ n, evalM rs n ip k = none) : val rs ip k = none := by
  cases hv : val rs ip k with
  | none => rfl
  | some s =>
    obtain ⟨n, hn⟩ := val_some.1 hv
    rw [h n] at hn
    cases hn
theorem val_in {rs : List Rule} {ip : Inp} {k : Int} {s : ByteArray} (h : ip k = some s) : val rs ip k = some s := val_some.2 ⟨1, by unfold evalM; rw [h]⟩

/-- Out of texts that have each a depth, a text of some depth. -/
theorem textGo_fin (rs : List Rule) (ip : Inp) (kind : Int) (l : List Int) : ∀ (i : Nat) (sum : Int) (s : ByteArray), textGo kind (pureA (val rs ip)) l i sum () = some ((), s) → ∃ n, textGo kind (pureA (evalM rs n ip)) l i sum () = some ((), s) := by
  induction l with
  | nil => intro i sum s hs; exact ⟨0, hs⟩
  | cons d r ih =>
    intro i sum s hs
    unfold textGo at hs
    split at hs
    · rename_i hc
      obtain ⟨n, hn⟩ := ih _ _ _ hs
      exact ⟨n, by unfold textGo; rw [if_pos hc]; exact hn⟩
    · rename_i hc
      cases hf : val rs ip d with
      | none => simp [pureA, hf] at hs
      | some t =>
        simp only [pureA, hf, Option.map_some] at hs
        obtain ⟨m, hm⟩ := val_some.1 hf
        have up : ∀ {i sum}, (∃ n, textGo kind (pureA (evalM rs n ip)) r i sum () = some ((), s)) → ∃ n, m ≤ n ∧ textGo kind (pureA (evalM rs n ip)) r i sum () = some ((), s) := by
          rintro i sum ⟨n, hn⟩
          exact ⟨max n m, Nat.le_max_right _ _, textGo_mono (fun d s hd => eval_le rs ip (Nat.le_max_left _ _) d s hd) _ _ _ _ _ hn⟩
        split at hs
        · rename_i h1
          obtain ⟨n, hmn, hn⟩ := up (ih _ _ _ hs)
          exact ⟨n, by unfold textGo; rw [if_neg hc]; simp only [pureA, eval_le rs ip hmn d t hm, Option.map_some]; rw [if_pos h1]; exact hn⟩
        · rename_i h1
          split at hs
          · rename_i h2
            exact ⟨m, by unfold textGo; rw [if_neg hc]; simp only [pureA, hm, Option.map_some]; rw [if_neg h1, if_pos h2]; exact hs⟩
          · rename_i h2
            split at hs
            · rename_i h3
              exact ⟨m, by unfold textGo; rw [if_neg hc]; simp only [pureA, hm, Option.map_some]; rw [if_neg h1, if_neg h2, if_pos h3]; exact hs⟩
            · rename_i h3
              obtain ⟨n, hmn, hn⟩ := up (ih _ _ _ hs)
              exact ⟨n, by unfold textGo; rw [if_neg hc]; simp only [pureA, eval_le rs ip hmn d t hm, Option.map_some]; rw [if_neg h1, if_neg h2, if_neg h3]; exact hn⟩
theorem val_of_text {rs : List Rule} {ip : Inp} {k : Int} {s : ByteArray} (hk : ip k = none) (h : textM rs (pureA (val rs ip)) () k = some ((), s)) : val rs ip k = some s := by
  have : ∃ n, textM rs (pureA (evalM rs n ip)) () k = some ((), s) := by
    unfold textM at h ⊢
    split at h
    · rename_i hc
      exact ⟨0, by rw [if_pos hc]; exact h⟩
    · rename_i hc
      split at h
      · rename_i hr
        exact ⟨0, by rw [if_neg hc]; exact h⟩
      · rename_i r hr
        obtain ⟨n, hn⟩ := textGo_fin rs ip _ _ _ _ _ h
        exact ⟨n, by rw [if_neg hc]; exact hn⟩
  obtain ⟨n, hn⟩ := this
  exact val_some.2 ⟨n + 1, by unfold evalM; rw [hk]; simp only [hn, Option.map_some]⟩

/-- A run that notes is a run that doesn't. -/
theorem textGo_rep {f : Int → Option ByteArray} (kind : Int) (l : List Int) : ∀ (i : Nat) (sum : Int) (ks ks' : List Int) (s : ByteArray), textGo kind (repA f) l i sum ks = some (ks', s) → textGo kind (pureA f) l i sum () = some ((), s) := by
  induction l with
  | nil =>
    intro i sum ks ks' s hs
    unfold textGo at hs ⊢
    simp only [Option.some.injEq, Prod.mk.injEq] at hs
    rw [hs.2]
  | cons d r ih =>
    intro i sum ks ks' s hs
    unfold textGo at hs ⊢
    split at hs
    · rename_i hc
      rw [if_pos hc]
      exact ih _ _ _ _ _ hs
    · rename_i hc
      rw [if_neg hc]
      cases hf : f d with
      | none => simp [repA, hf] at hs
      | some t =>
        simp only [repA, hf, Option.map_some] at hs
        simp only [pureA, hf, Option.map_some]
        split at hs
        · rename_i h1
          rw [if_pos h1]
          exact ih _ _ _ _ _ hs
        · rename_i h1
          rw [if_neg h1]
          split at hs
          · rename_i h2
            rw [if_pos h2]
            simp only [Option.some.injEq, Prod.mk.injEq] at hs
            rw [hs.2]
          · rename_i h2
            rw [if_neg h2]
            split at hs
            · rename_i h3
              rw [if_pos h3]
              simp only [Option.some.injEq, Prod.mk.injEq] at hs
              rw [hs.2]
            · rename_i h3
              rw [if_neg h3]
              exact ih _ _ _ _ _ hs
theorem textM_rep {f : Int → Option ByteArray} {rs : List Rule} {k : Int} {ks ks' : List Int} {s : ByteArray} (h : textM rs (repA f) ks k = some (ks', s)) : textM rs (pureA f) () k = some ((), s) := by
  unfold textM at h ⊢
  split at h
  · rename_i hc
    rw [if_pos hc]
    simp only [Option.some.injEq, Prod.mk.injEq] at h
    rw [h.2]
  · rename_i hc
    rw [if_neg hc]
    split at h
    · simp only [Option.some.injEq, Prod.mk.injEq] at h
      rw [h.2]
    · exact textGo_rep _ _ _ _ _ _ _ h
end Go.Proofs.Ytfkedhclhmbpfaa
end

section
namespace Go.Proofs.Ytfkedhclhmbpfaa
set_option linter.unusedVariables false
set_option linter.unusedSimpArgs false

/-- A cell but for its value. -/
structure Core where
  digest : Int
  asked : List Int
  at_ : Int
  turned : Int
def coreOf (c : Cell) : Core := ⟨c.digest, c.asked, c.at_, c.turned⟩
def St.core (st : St) (k : Int) : Option Core := (st.cells k).map coreOf
def St.text (st : St) (c : Core) : Option ByteArray := st.words[(c.digest - 1).toNat]?
def St.inp (st : St) : Inp := fun k => (st.inputs k).map fun x => x.1

/-- What is known of a key that a cell asked for. -/
def DepOK (st : St) (c : Core) (d : Int) (t : ByteArray) : Prop :=
  (∀ x, st.inputs d = some x → x.2 ≤ c.at_ → x.1 = t) ∧ (st.inputs d = none → ∃ cd, st.core d = some cd ∧ c.at_ ≤ cd.at_ ∧ (cd.turned ≤ c.at_ → st.text cd = some t))

/-- What is known of a cell. -/
structure CellOK (rs : List Rule) (st : St) (k : Int) (c : Core) : Prop where
  apart : st.inputs k = none
  at_le : c.at_ ≤ st.rev
  turned_le : c.turned ≤ c.at_
  dig : 1 ≤ c.digest
  trace : ∃ ans s, st.text c = some s ∧ textM rs (repA ans) [] k = some (c.asked, s) ∧ ∀ d ∈ c.asked, ∃ t, ans d = some t ∧ DepOK st c d t
  now : c.at_ = st.rev → ∃ s, st.text c = some s ∧ val rs st.inp k = some s

structure InvB (rs : List Rule) (st : St) : Prop where
  cel : ∀ k c, st.core k = some c → CellOK rs st k c
  inl : ∀ k x, st.inputs k = some x → x.2 ≤ st.rev
  wnd : st.words.Nodup

/-- Between st and st' no cell of B turned; a cell that turned is at the revision, and was not. -/
structure Ext (B : Int → Prop) (st st' : St) : Prop where
  rev : st'.rev = st.rev
  inputs : st'.inputs = st.inputs
  busy : st'.busy = st.busy
  words : ∃ l, st'.words = st.words ++ l
  cyc : st.cycle = true → st'.cycle = true
  keep : ∀ k c, st.core k = some c → ∃ c', st'.core k = some c' ∧ (c' = c ∨ (c'.at_ = st.rev ∧ c.at_ ≠ st.rev ∧ ¬ B k ∧ (c'.digest = c.digest → c'.turned = c.turned) ∧ (c'.digest ≠ c.digest → c'.turned = st.rev)))
  fresh : ∀ k, st.core k = none → B k → st'.core k = none
  steps : st.steps ≤ st'.steps
  checks : st.checks ≤ st'.checks

theorem Ext.refl (B : Int → Prop) (st : St) : Ext B st st := ⟨rfl, rfl, rfl, ⟨[], by simp⟩, id, fun k c h => ⟨c, h, .inl rfl⟩, fun k h _ => h, Int.le_refl _, Int.le_refl _⟩
theorem Ext.weaken {B B' : Int → Prop} {st st' : St} (h : Ext B st st') (hb : ∀ k, B' k → B k) : Ext B' st st' :=
  { h with
    keep := fun k c hk => by
      obtain ⟨c', h1, h2⟩ := h.keep k c hk
      exact ⟨c', h1, h2.imp id (fun ⟨a, b, c, d⟩ => ⟨a, b, fun hh => c (hb k hh), d⟩)⟩
    fresh := fun k hk hb' => h.fresh k hk (hb k hb') }
theorem Ext.trans {B : Int → Prop} {a b c : St} (h : Ext B a b) (k : Ext B b c) : Ext B a c where
  rev := k.rev.trans h.rev
  inputs := k.inputs.trans h.inputs
  busy := k.busy.trans h.busy
  words := by
    obtain ⟨l, hl⟩ := h.words
    obtain ⟨m, hm⟩ := k.words
    exact ⟨l ++ m, by rw [hm, hl, List.append_assoc]⟩
  cyc := fun hc => k.cyc (h.cyc hc)
  keep := fun x c0 hx => by
    obtain ⟨c1, h1, h2⟩ := h.keep x c0 hx
    obtain ⟨c2, k1, k2⟩ := k.keep x c1 h1
    refine ⟨c2, k1, ?_⟩
    rw [h.rev] at k2
    rcases h2 with rfl | ⟨e1, e2, e3, e4, e5⟩
    · exact k2
    · rcases k2 with rfl | ⟨f1, f2, _⟩
      · exact .inr ⟨e1, e2, e3, e4, e5⟩
      · exact absurd e1 f2
  fresh := fun x hx hb => k.fresh x (h.fresh x hx hb) hb
  steps := Int.le_trans h.steps k.steps
  checks := Int.le_trans h.checks k.checks

theorem Ext.inp {B : Int → Prop} {st st' : St} (h : Ext B st st') : st'.inp = st.inp := by unfold St.inp; rw [h.inputs]
theorem Ext.text {B : Int → Prop} {st st' : St} (h : Ext B st st') {c : Core} {s : ByteArray} (hs : st.text c = some s) : st'.text c = some s := by
  obtain ⟨l, hl⟩ := h.words
  unfold St.text at hs ⊢
  rw [hl, List.getElem?_append_left (List.getElem?_eq_some_iff.1 hs).1]
  exact hs

/-- A cell that has not turned is what it was. -/
theorem CellOK.ext {rs : List Rule} {B : Int → Prop} {st st' : St} {k : Int} {c : Core} (hi : ∀ d c, st.core d = some c → c.at_ ≤ st.rev ∧ ∃ s, st.text c = some s) (h : CellOK rs st k c) (e : Ext B st st') : CellOK rs st' k c where
  apart := by rw [e.inputs]; exact h.apart
  at_le := by rw [e.rev]; exact h.at_le
  turned_le := h.turned_le
  dig := h.dig
  trace := by
    obtain ⟨ans, s, h1, h2, h3⟩ := h.trace
    refine ⟨ans, s, e.text h1, h2, fun d hd => ?_⟩
    obtain ⟨t, ht, h4, h5⟩ := h3 d hd
    refine ⟨t, ht, fun x hx hle => h4 x (by rw [← e.inputs]; exact hx) hle, fun hn => ?_⟩
    rw [e.inputs] at hn
    obtain ⟨cd, hcd, hat, htx⟩ := h5 hn
    obtain ⟨cd', hcd', hor⟩ := e.keep d cd hcd
    refine ⟨cd', hcd', ?_⟩
    rcases hor with rfl | ⟨e1, e2, e3, e4, e5⟩
    · exact ⟨hat, fun hh => e.text (htx hh)⟩
    · refine ⟨by rw [e1]; exact h.at_le, fun hh => ?_⟩
      by_cases hdg : cd'.digest = cd.digest
      · have := e.text (htx (by rw [← e4 hdg]; exact hh))
        unfold St.text at this ⊢
        rw [hdg]
        exact this
      · have h6 := e5 hdg
        have h7 := h.at_le
        have h8 := (hi d cd hcd).1
        exact absurd (by omega) e2
  now := fun hh => by
    rw [e.rev] at hh
    obtain ⟨s, h1, h2⟩ := h.now hh
    exact ⟨s, e.text h1, by rw [e.inp]; exact h2⟩
theorem InvB.basics {rs : List Rule} {st : St} (h : InvB rs st) : ∀ d c, st.core d = some c → c.at_ ≤ st.rev ∧ ∃ s, st.text c = some s := fun d c hd => by
  have := h.cel d c hd
  obtain ⟨ans, s, h1, _⟩ := this.trace
  exact ⟨this.at_le, s, h1⟩
/-- Where one cell turned (or is new), it is enough to know of that one. -/
theorem InvB.ext {rs : List Rule} {B : Int → Prop} {st st' : St} (h : InvB rs st) (e : Ext B st st') (hw : st'.words.Nodup) (hn : ∀ k c, st'.core k = some c → st.core k ≠ some c → CellOK rs st' k c) : InvB rs st' where
  cel := fun k c hk => by
    by_cases he : st.core k = some c
    · exact (h.cel k c he).ext h.basics e
    · exact hn k c hk he
  inl := fun k x hx => by
    rw [e.rev]
    rw [e.inputs] at hx
    exact h.inl k x hx
  wnd := hw

/-- States that differ in values, uses and counts alone. -/
structure Same (st st' : St) : Prop where
  rev : st'.rev = st.rev
  inputs : st'.inputs = st.inputs
  busy : st'.busy = st.busy
  words : st'.words = st.words
  cycle : st'.cycle = st.cycle
  core : ∀ k, st'.core k = st.core k
  steps : st'.steps = st.steps
  checks : st'.checks = st.checks
theorem Same.refl (st : St) : Same st st := ⟨rfl, rfl, rfl, rfl, rfl, fun _ => rfl, rfl, rfl⟩
theorem Same.trans {a b c : St} (h : Same a b) (k : Same b c) : Same a c := ⟨k.rev.trans h.rev, k.inputs.trans h.inputs, k.busy.trans h.busy, k.words.trans h.words, k.cycle.trans h.cycle, fun x => (k.core x).trans (h.core x), k.steps.trans h.steps, k.checks.trans h.checks⟩
theorem Same.ext {st st' : St} (h : Same st st') (B : Int → Prop) : Ext B st st' :=
  ⟨h.rev, h.inputs, h.busy, ⟨[], by rw [h.words]; simp⟩, fun hc => by rw [h.cycle]; exact hc, fun k c hk => ⟨c, by rw [h.core]; exact hk, .inl rfl⟩, fun k hk _ => by rw [h.core]; exact hk, by rw [h.steps]; exact Int.le_refl _, by rw [h.checks]; exact Int.le_refl _⟩
theorem Same.invB {rs : List Rule} {st st' : St} (h : Same st st') (hi : InvB rs st) : InvB rs st' :=
  hi.ext (h.ext (fun _ => False)) (by rw [h.words]; exact hi.wnd) (fun k c hk hn => absurd (by rw [← h.core]; exact hk) hn)
theorem Same.text {st st' : St} (h : Same st st') (c : Core) : st'.text c = st.text c := by unfold St.text; rw [h.words]
end Go.Proofs.Ytfkedhclhmbpfaa
end

section
namespace Go.Proofs.Ytfkedhclhmbpfaa
set_option linter.unusedVariables false
set_option linter.unusedSimpArgs false

theorem sub_len {α : Type} [DecidableEq α] : ∀ (l m : List α), l.Nodup → (∀ x ∈ l, x ∈ m) → l.length ≤ m.length := by
  intro l
  induction l with
  | nil => intro m _ _; exact Nat.zero_le _
  | cons x r ih =>
    intro m hn hs
    obtain ⟨hx, hr⟩ := List.nodup_cons.1 hn
    have h1 := ih (m.erase x) hr (fun y hy => (List.mem_erase_of_ne (fun (e : y = x) => hx (e ▸ hy))).2 (hs y (List.mem_cons_of_mem _ hy)))
    have hm : x ∈ m := hs x List.mem_cons_self
    rw [List.length_erase_of_mem hm] at h1
    have : 0 < m.length := List.length_pos_of_mem hm
    simp only [List.length_cons]
    omega

def tot (f : Int → Option Cell) (l : List Int) : Int := (l.map fun k => cost ((f k).getD zeroCell).s).sum
theorem tot_nil (f : Int → Option Cell) : tot f [] = 0 := rfl
theorem tot_cons (f : Int → Option Cell) (k : Int) (l : List Int) : tot f (k :: l) = cost ((f k).getD zeroCell).s + tot f l := rfl
theorem cost_pos (s : ByteArray) : 1 ≤ cost s := by unfold cost; omega
theorem tot_len (f : Int → Option Cell) (l : List Int) : (l.length : Int) ≤ tot f l := by
  induction l with
  | nil => exact Int.le_refl _
  | cons x r ih =>
    rw [tot_cons]
    have := cost_pos ((f x).getD zeroCell).s
    simp only [List.length_cons]
    omega
theorem tot_congr {f g : Int → Option Cell} {l : List Int} (h : ∀ k ∈ l, f k = g k) : tot f l = tot g l := by
  induction l with
  | nil => rfl
  | cons x r ih =>
    rw [tot_cons, tot_cons, h x List.mem_cons_self, ih (fun k hk => h k (List.mem_cons_of_mem _ hk))]
theorem tot_drop (f : Int → Option Cell) {l : List Int} {k : Int} (hn : l.Nodup) (hk : k ∈ l) : tot f l = cost ((f k).getD zeroCell).s + tot f (dropL l k) := by
  induction l with
  | nil => cases hk
  | cons x r ih =>
    obtain ⟨hx, hr⟩ := List.nodup_cons.1 hn
    by_cases e : x = k
    · subst e
      have : dropL (x :: r) x = r := by
        unfold dropL
        rw [List.filter_cons_of_neg (by simp), List.filter_eq_self]
        intro y hy
        rw [decide_eq_true_eq]
        intro (e : y = x)
        exact hx (e ▸ hy)
      rw [this, tot_cons]
    · have hkr : k ∈ r := by
        rcases List.mem_cons.1 hk with h | h
        · exact absurd h.symm e
        · exact h
      have : dropL (x :: r) k = x :: dropL r k := by
        unfold dropL
        rw [List.filter_cons_of_pos (by simpa using e)]
      rw [this, tot_cons, tot_cons, ih hr hkr]
      omega

/-- The texts that rules tell. -/
def texts0 : List ByteArray := ⟨#[48]⟩ :: (List.range 2001).map fun (i : Nat) => valueM ((i : Int) - 1000)
theorem texts0_len : texts0.length = 2002 := by unfold texts0; simp
theorem texts0_value {n : Int} (h0 : -1000 ≤ n) (h1 : n ≤ 1000) : valueM n ∈ texts0 := by
  unfold texts0
  refine List.mem_cons_of_mem _ (List.mem_map.2 ⟨(n + 1000).toNat, List.mem_range.2 (by omega), ?_⟩)
  congr 1
  omega
theorem valueF_size (f : Nat) : ∀ n, (valueF f n).size ≤ f + 1 ∧ 1 ≤ (valueF f n).size := by
  induction f with
  | zero => intro n; exact ⟨Nat.le_refl _, Nat.le_refl _⟩
  | succ f ih =>
    intro n
    unfold valueF
    split
    · rw [ByteArray.size_append]
      have h1 : (ByteArray.mk #[byteOf (48 + n % 10)]).size = 1 := rfl
      have := ih (n / 10)
      omega
    · have h1 : (ByteArray.mk #[byteOf (48 + n)]).size = 1 := rfl
      omega
theorem texts0_size {s : ByteArray} (h : s ∈ texts0) : s.size ≤ 21 ∧ 1 ≤ s.size := by
  unfold texts0 at h
  rcases List.mem_cons.1 h with rfl | h
  · exact ⟨by show 1 ≤ 21; omega, Nat.le_refl _⟩
  · obtain ⟨i, _, rfl⟩ := List.mem_map.1 h
    exact valueF_size 20 _

/-- What holds of values, uses and charges. -/
structure InvX (Ul : List Int) (X : Int → Prop) (st : St) : Prop where
  und : st.used.Nodup
  umem : ∀ k, k ∈ st.used ↔ ∃ c, st.cells k = some c ∧ c.has = true
  utext : ∀ k c, st.cells k = some c → c.has = true → ¬ X k → st.text (coreOf c) = some c.s
  sum : st.charged = tot st.cells st.used
  le1 : st.charged ≤ st.budget
  le2 : st.charged ≤ st.high
  ncs : ∃ ks : List Int, ks.Nodup ∧ (∀ k, k ∈ ks ↔ (st.cells k).isSome = true) ∧ st.nc = ks.length
  cul : ∀ k, (st.cells k).isSome = true → k ∈ Ul
  wset : ∀ s ∈ st.words, s ∈ texts0
  few : Ul.length ≤ 90000

/-- .. for all keys. -/
abbrev InvA (Ul : List Int) (st : St) : Prop := InvX Ul (fun _ => False) st

section
variable {Ul : List Int} {X : Int → Prop} {st : St}
theorem InvX.used_few (h : InvX Ul X st) : st.used.length ≤ 90000 := by
  have := sub_len st.used Ul h.und (fun k hk => h.cul k (by obtain ⟨c, hc, _⟩ := (h.umem k).1 hk; rw [hc]; rfl))
  have := h.few
  omega
theorem InvX.used_nc (h : InvX Ul X st) : st.used.length ≤ st.nc := by
  obtain ⟨ks, h1, h2, h3⟩ := h.ncs
  rw [h3]
  exact sub_len st.used ks h.und (fun k hk => (h2 k).2 (by obtain ⟨c, hc, _⟩ := (h.umem k).1 hk; rw [hc]; rfl))

theorem core_set (st : St) (k : Int) (c c' : Cell) (hk : st.cells k = some c) (h : coreOf c' = coreOf c) (x : Int) : ((setF st.cells k (some c')) x).map coreOf = (st.cells x).map coreOf := by
  by_cases e : x = k
  · subst e
    unfold setF
    rw [if_pos rfl, hk]
    simp [h]
  · unfold setF
    rw [if_neg e]

/-- A drop goes through. -/
theorem drop_good (h : InvX Ul X st) (k : Int) : ∃ st', dropM st k = some st' ∧ InvX Ul X st' ∧ Same st st' ∧ st'.used = dropL st.used k ∧ st'.budget = st.budget ∧ st'.high = st.high ∧ st'.nc = st.nc ∧ st'.charged ≤ st.charged ∧ st'.hits = st.hits ∧ (∀ x, x ≠ k → st'.cells x = st.cells x) := by
  unfold dropM
  by_cases hk : k ∈ st.used
  · rw [if_pos hk]
    obtain ⟨c, hc, hh⟩ := (h.umem k).1 hk
    have ht := tot_drop st.cells h.und hk
    rw [hc] at ht ⊢
    simp only [Option.getD_some] at ht ⊢
    have htl := tot_len st.cells (dropL st.used k)
    have hle : cost c.s ≤ st.charged := by rw [h.sum]; omega
    rw [if_pos hle]
    have hcost := cost_pos c.s
    refine ⟨_, rfl, ⟨dropL_nodup h.und k, fun x => ?_, fun x cx hx hhx hX => ?_, ?_, ?_, ?_, ?_, fun x hx => ?_, h.wset, h.few⟩, ⟨rfl, rfl, rfl, rfl, rfl, core_set st k c _ hc rfl, rfl, rfl⟩, rfl, rfl, rfl, rfl, ?_, rfl, ?_⟩
    · show x ∈ dropL st.used k ↔ _
      rw [dropL_mem]
      by_cases e : x = k
      · subst e
        simp only [ne_eq, not_true, and_false, false_iff, not_exists, not_and]
        intro c' hc'
        have hc'' : setF st.cells x (some { c with has := false, s := noBytes }) x = some c' := hc'
        unfold setF at hc''
        rw [if_pos rfl] at hc''
        cases hc''
        simp
      · show _ ↔ ∃ c', setF st.cells k (some { c with has := false, s := noBytes }) x = some c' ∧ c'.has = true
        unfold setF
        rw [if_neg e, h.umem x]
        simp [e]
    · have hx' : setF st.cells k (some { c with has := false, s := noBytes }) x = some cx := hx
      unfold setF at hx'
      split at hx'
      · cases hx'
        cases hhx
      · exact h.utext x cx hx' hhx hX
    · show st.charged - cost c.s = tot (setF st.cells k (some { c with has := false, s := noBytes })) (dropL st.used k)
      rw [tot_congr (g := st.cells) (fun x hx => by
        have := (dropL_mem.1 hx).2
        unfold setF
        rw [if_neg this])]
      rw [h.sum]
      omega
    · have := h.le1
      show st.charged - cost c.s ≤ st.budget
      omega
    · have := h.le2
      show st.charged - cost c.s ≤ st.high
      omega
    · obtain ⟨ks, h1, h2, h3⟩ := h.ncs
      refine ⟨ks, h1, fun x => ?_, h3⟩
      show x ∈ ks ↔ (setF st.cells k (some { c with has := false, s := noBytes }) x).isSome = true
      rw [h2 x]
      unfold setF
      by_cases e : x = k
      · subst e; simp [hc]
      · rw [if_neg e]
    · have hx' : (setF st.cells k (some { c with has := false, s := noBytes }) x).isSome = true := hx
      unfold setF at hx'
      split at hx'
      · rename_i e
        exact h.cul x (by rw [e, hc]; rfl)
      · exact h.cul x hx'
    · show st.charged - cost c.s ≤ st.charged
      omega
    · intro x e
      show setF st.cells k _ x = _
      unfold setF
      rw [if_neg e]
  · rw [if_neg hk]
    exact ⟨st, rfl, h, Same.refl st, (dropL_none hk).symm, rfl, rfl, rfl, Int.le_refl _, rfl, fun _ _ => rfl⟩

/-- Room is made. -/
theorem room_good (k : Int) (n : Int) : ∀ (f : Nat) (st : St), InvX Ul X st → k ∉ st.used → st.used.length < f → ∃ st' b, roomM f st n = some (st', b) ∧ InvX Ul X st' ∧ Same st st' ∧ k ∉ st'.used ∧ (b = true → n ≤ st'.budget - st'.charged) ∧ st'.budget = st.budget ∧ st'.high = st.high ∧ st'.nc = st.nc ∧ st'.hits = st.hits ∧
    (n ≤ st.budget - st.charged → st' = st ∧ b = true) := by
  intro f
  induction f with
  | zero => intro st _ _ hf; omega
  | succ f ih =>
    intro st h hk hf
    unfold roomM
    by_cases hfit : n ≤ st.budget - st.charged
    · rw [if_pos hfit]
      exact ⟨st, true, rfl, h, Same.refl st, hk, fun _ => hfit, rfl, rfl, rfl, rfl, fun _ => ⟨rfl, rfl⟩⟩
    · rw [if_neg hfit]
      cases hl : st.used.getLast? with
      | none => exact ⟨st, false, rfl, h, Same.refl st, hk, (fun hb => by cases hb), rfl, rfl, rfl, rfl, fun hh => absurd hh hfit⟩
      | some l =>
        obtain ⟨st1, h1, h2, h3, h4, h5, h6, h7, h8, h9, h10⟩ := drop_good h l
        simp only
        rw [h1]
        have hm : l ∈ st.used := List.mem_of_getLast? hl
        have hlen : st1.used.length < st.used.length := by
          rw [h4]
          have h11 := sub_len (l :: dropL st.used l) st.used (List.nodup_cons.2 ⟨dropL_not_mem _ _, dropL_nodup h.und l⟩) (fun x hx => by
            rcases List.mem_cons.1 hx with rfl | hx
            · exact hm
            · exact (dropL_mem.1 hx).1)
          simp only [List.length_cons] at h11
          omega
        obtain ⟨st', b, a1, a2, a3, a4, a5, a6, a7, a8, a9, a10⟩ := ih st1 h2 (by rw [h4]; exact fun hh => hk (dropL_mem.1 hh).1) (by omega)
        exact ⟨st', b, a1, a2, h3.trans a3, a4, a5, a6.trans h5, a7.trans h6, a8.trans h7, a9.trans h9, fun hh => absurd hh hfit⟩

theorem use_good (h : InvX Ul X st) {k : Int} (hk : k ∈ st.used) : ∃ st', useM st k = some st' ∧ InvX Ul X st' ∧ Same st st' ∧ st'.cells = st.cells ∧ st'.budget = st.budget ∧ st'.high = st.high ∧ st'.nc = st.nc ∧ st'.charged = st.charged ∧ st'.hits = st.hits := by
  unfold useM
  rw [if_pos h.used_few]
  refine ⟨_, rfl, ⟨useL_nodup h.und k, fun x => ?_, h.utext, ?_, h.le1, h.le2, h.ncs, h.cul, h.wset, h.few⟩, ⟨rfl, rfl, rfl, rfl, rfl, fun _ => rfl, rfl, rfl⟩, rfl, rfl, rfl, rfl, rfl, rfl⟩
  · show x ∈ useL st.used k ↔ _
    rw [useL_mem, ← h.umem x]
    exact ⟨fun hh => hh.elim (fun e => e ▸ hk) id, .inr⟩
  · show st.charged = tot st.cells (useL st.used k)
    unfold useL
    rw [tot_cons, h.sum, tot_drop st.cells h.und hk]

theorem InvX.clear {k : Int} (h : InvX Ul (fun x => x = k) st) (hk : k ∉ st.used) : InvA Ul st :=
  { h with utext := fun x c hx hh _ => h.utext x c hx hh (fun e => hk (e ▸ (h.umem x).2 ⟨c, hx, hh⟩)) }
/-- A value is kept, or not. -/
theorem keep_good {k : Int} (h : InvX Ul (fun x => x = k) st) {c : Cell} {s : ByteArray} (hc : st.cells k = some c) (hs : st.text (coreOf c) = some s) :
    ∃ st', keepM st k s = some st' ∧ InvA Ul st' ∧ Same st st' ∧ st'.budget = st.budget ∧ st'.nc = st.nc ∧ st'.hits = st.hits := by
  unfold keepM
  obtain ⟨st1, h1, h2, h3, h4, h5, h6, h7, h8, h9, h10⟩ := drop_good h k
  rw [h1]
  simp only
  obtain ⟨st2, b, a1, a2, a3, a4, a5, a6, a7, a8, a9, a10⟩ := room_good k (cost s) (st1.used.length + 1) st1 h2 (by rw [h4]; exact dropL_not_mem _ _) (by omega)
  rw [a1]
  simp only
  have a2 := a2.clear a4
  have hsm := h3.trans a3
  unfold keptM
  cases b with
  | false =>
    rw [if_neg (by simp)]
    exact ⟨st2, rfl, a2, hsm, a6.trans h5, a8.trans h7, a9.trans h9⟩
  | true =>
    rw [if_pos rfl]
    have hcore : st2.core k = some (coreOf c) := by rw [hsm.core]; unfold St.core; rw [hc]; rfl
    unfold St.core at hcore
    cases hc2 : st2.cells k with
    | none => rw [hc2] at hcore; cases hcore
    | some c2 =>
      rw [hc2] at hcore
      simp only [Option.map_some, Option.some.injEq] at hcore
      simp only
      unfold useM
      have hnl := a2.used_few
      have hfit := a5 rfl
      have hun : dropL st2.used k = st2.used := dropL_none a4
      rw [if_pos (by exact hnl)]
      have hcells : ∀ x, x ≠ k → setF st2.cells k (some { c2 with has := true, s := s }) x = st2.cells x := fun x e => by unfold setF; rw [if_neg e]
      have hself : setF st2.cells k (some { c2 with has := true, s := s }) k = some { c2 with has := true, s := s } := by unfold setF; rw [if_pos rfl]
      refine ⟨_, rfl, ⟨useL_nodup a2.und k, fun x => ?_, fun x cx hx hhx _ => ?_, ?_, ?_, ?_, ?_, fun x hx => ?_, a2.wset, a2.few⟩, hsm.trans ⟨rfl, rfl, rfl, rfl, rfl, core_set st2 k c2 _ hc2 rfl, rfl, rfl⟩, a6.trans h5, a8.trans h7, a9.trans h9⟩
      · show x ∈ useL st2.used k ↔ ∃ c', setF st2.cells k (some { c2 with has := true, s := s }) x = some c' ∧ c'.has = true
        rw [useL_mem]
        by_cases e : x = k
        · subst e
          rw [hself]
          simp
        · rw [hcells x e, a2.umem x]
          simp [e]
      · have hx' : setF st2.cells k (some { c2 with has := true, s := s }) x = some cx := hx
        by_cases e : x = k
        · subst e
          rw [hself] at hx'
          cases hx'
          show st2.text (coreOf c2) = some s
          rw [hcore, hsm.text]
          exact hs
        · rw [hcells x e] at hx'
          exact a2.utext x cx hx' hhx (fun h => h)
      · show st2.charged + cost s = tot (setF st2.cells k (some { c2 with has := true, s := s })) (useL st2.used k)
        unfold useL
        rw [hun, tot_cons, hself, Option.getD_some, tot_congr (g := st2.cells) (fun x hx => hcells x (fun e => a4 (e ▸ hx))), ← a2.sum]
        dsimp only
        omega
      · show st2.charged + cost s ≤ st2.budget
        omega
      · show st2.charged + cost s ≤ max st2.high (st2.charged + cost s)
        omega
      · obtain ⟨ks, b1, b2, b3⟩ := a2.ncs
        refine ⟨ks, b1, fun x => ?_, b3⟩
        show x ∈ ks ↔ (setF st2.cells k (some { c2 with has := true, s := s }) x).isSome = true
        rw [b2 x]
        by_cases e : x = k
        · subst e; rw [hself, hc2]; simp
        · rw [hcells x e]
      · have hx' : (setF st2.cells k (some { c2 with has := true, s := s }) x).isSome = true := hx
        by_cases e : x = k
        · subst e; exact a2.cul x (by rw [hc2]; rfl)
        · rw [hcells x e] at hx'; exact a2.cul x hx'
end
end Go.Proofs.Ytfkedhclhmbpfaa
end

section
namespace Go.Proofs.Ytfkedhclhmbpfaa
set_option linter.unusedVariables false
set_option linter.unusedSimpArgs false

theorem noted_sub (l : List Int) (d : Int) : (∀ x ∈ l, x ∈ noted l d) ∧ d ∈ noted l d := by
  unfold noted
  split
  · rename_i h; exact ⟨fun x hx => hx, h⟩
  · exact ⟨fun x hx => List.mem_append_left _ hx, List.mem_append_right _ (by simp)⟩
theorem noted_mem {l : List Int} {d x : Int} (h : x ∈ noted l d) : x ∈ l ∨ x = d := by
  unfold noted at h
  split at h
  · exact .inl h
  · rcases List.mem_append.1 h with h | h
    · exact .inl h
    · exact .inr (by simpa using h)

/-- The shape of one step of a rule's run. -/
theorem textGo_cons {σ : Type} (kind : Int) (ask : σ → Int → Option (σ × ByteArray)) (d : Int) (r : List Int) (i : Nat) (sum : Int) (st : σ) :
    textGo kind ask (d :: r) i sum st = if kind = 1 ∧ (2 < i ∨ (0 < i ∧ (i : Int) ≠ 1 + sum.tmod 2)) then textGo kind ask r (i + 1) sum st
    else match ask st d with
      | none => none
      | some (st1, t) =>
        if kind = 1 ∧ i = 0 then textGo kind ask r (i + 1) (numberM t) st1
        else if kind = 2 then some (st1, valueM ((numberM t).tmod 2))
        else if kind = 1 then some (st1, valueM ((sum + numberM t).tmod 1000))
        else textGo kind ask r (i + 1) ((sum + numberM t).tmod 1000) st1 := by rw [textGo]; rfl

/-- The keys that are noted are no fewer behind. -/
theorem textGo_grow {f : Int → Option ByteArray} (kind : Int) (l : List Int) : ∀ (i : Nat) (sum : Int) (ks ks' : List Int) (s : ByteArray), textGo kind (repA f) l i sum ks = some (ks', s) → ∀ x ∈ ks, x ∈ ks' := by
  induction l with
  | nil =>
    intro i sum ks ks' s hs x hx
    unfold textGo at hs
    simp only [Option.some.injEq, Prod.mk.injEq] at hs
    rw [← hs.1]
    exact hx
  | cons d r ih =>
    intro i sum ks ks' s hs x hx
    rw [textGo_cons] at hs
    split at hs
    · exact ih _ _ _ _ _ hs x hx
    · cases hf : f d with
      | none => simp [repA, hf] at hs
      | some t =>
        simp only [repA, hf, Option.map_some] at hs
        have hx' := (noted_sub ks d).1 x hx
        split at hs
        · exact ih _ _ _ _ _ hs x hx'
        · split at hs
          · simp only [Option.some.injEq, Prod.mk.injEq] at hs
            rw [← hs.1]; exact hx'
          · split at hs
            · simp only [Option.some.injEq, Prod.mk.injEq] at hs
              rw [← hs.1]; exact hx'
            · exact ih _ _ _ _ _ hs x hx'
theorem textGo_noted {f : Int → Option ByteArray} {kind : Int} {r : List Int} {i : Nat} {sum : Int} {ks ks' : List Int} {s : ByteArray} {d : Int} (h : textGo kind (repA f) r i sum (noted ks d) = some (ks', s)) : d ∈ ks' :=
  textGo_grow kind r i sum _ ks' s h d (noted_sub ks d).2
/-- Two tellers that agree on what was asked lead to the same. -/
theorem textGo_congr {f g : Int → Option ByteArray} (kind : Int) (l : List Int) : ∀ (i : Nat) (sum : Int) (ks ks' : List Int) (s : ByteArray), textGo kind (repA f) l i sum ks = some (ks', s) → (∀ d ∈ ks', f d = g d) → textGo kind (repA g) l i sum ks = some (ks', s) := by
  induction l with
  | nil => intro i sum ks ks' s hs _; exact hs
  | cons d r ih =>
    intro i sum ks ks' s hs hfg
    rw [textGo_cons] at hs ⊢
    split at hs
    · rename_i hc
      rw [if_pos hc]
      exact ih _ _ _ _ _ hs hfg
    · rename_i hc
      rw [if_neg hc]
      cases hf : f d with
      | none => simp [repA, hf] at hs
      | some t =>
        simp only [repA, hf, Option.map_some] at hs
        have hd : d ∈ ks' := by
          split at hs
          · exact textGo_noted hs
          · split at hs
            · simp only [Option.some.injEq, Prod.mk.injEq] at hs
              rw [← hs.1]; exact (noted_sub ks d).2
            · split at hs
              · simp only [Option.some.injEq, Prod.mk.injEq] at hs
                rw [← hs.1]; exact (noted_sub ks d).2
              · exact textGo_noted hs
        have hg : g d = some t := by rw [← hfg d hd]; exact hf
        simp only [repA, hg, Option.map_some]
        split at hs
        · rename_i h1
          rw [if_pos h1]
          exact ih _ _ _ _ _ hs hfg
        · rename_i h1
          rw [if_neg h1]
          split at hs
          · rename_i h2
            rw [if_pos h2]
            exact hs
          · rename_i h2
            rw [if_neg h2]
            split at hs
            · rename_i h3
              rw [if_pos h3]
              exact hs
            · rename_i h3
              rw [if_neg h3]
              exact ih _ _ _ _ _ hs hfg
theorem textM_congr {f g : Int → Option ByteArray} {rs : List Rule} {k : Int} {ks ks' : List Int} {s : ByteArray} (hs : textM rs (repA f) ks k = some (ks', s)) (hfg : ∀ d ∈ ks', f d = g d) : textM rs (repA g) ks k = some (ks', s) := by
  unfold textM at hs ⊢
  split at hs
  · rename_i hc
    rw [if_pos hc]; exact hs
  · rename_i hc
    rw [if_neg hc]
    split at hs
    · exact hs
    · exact textGo_congr _ _ _ _ _ _ _ hs hfg

/-- A key whose text is right now. -/
def Good (rs : List Rule) (st : St) (d : Int) : Prop := ∃ t, val rs st.inp d = some t ∧ (st.inputs d = none → ∃ cd, st.core d = some cd ∧ cd.at_ = st.rev ∧ st.text cd = some t)
theorem Good.ext {rs : List Rule} {B : Int → Prop} {st st' : St} {d : Int} (h : Good rs st d) (e : Ext B st st') : Good rs st' d := by
  obtain ⟨t, h1, h2⟩ := h
  refine ⟨t, by rw [e.inp]; exact h1, fun hn => ?_⟩
  rw [e.inputs] at hn
  obtain ⟨cd, h3, h4, h5⟩ := h2 hn
  obtain ⟨cd', h6, h7⟩ := e.keep d cd h3
  rcases h7 with rfl | ⟨_, h8, _⟩
  · exact ⟨cd', h6, by rw [e.rev]; exact h4, e.text h5⟩
  · exact absurd h4 h8
theorem Good.of_in {rs : List Rule} {st : St} {d : Int} {x : ByteArray × Int} (h : st.inputs d = some x) : Good rs st d :=
  ⟨x.1, val_in (by unfold St.inp; rw [h]; rfl), fun hn => by rw [h] at hn; cases hn⟩

/-- Of a cell that is at the revision: what it asked for is right. -/
theorem CellOK.deps {rs : List Rule} {st : St} (hB : InvB rs st) {k : Int} {c : Core} (h : CellOK rs st k c) (hat : c.at_ = st.rev) : ∃ s, st.text c = some s ∧ textM rs (repA (val rs st.inp)) [] k = some (c.asked, s) ∧ ∀ d ∈ c.asked, Good rs st d := by
  obtain ⟨ans, s, h1, h2, h3⟩ := h.trace
  have hv : ∀ d ∈ c.asked, ans d = val rs st.inp d ∧ Good rs st d := by
    intro d hd
    obtain ⟨t, ht, h4, h5⟩ := h3 d hd
    cases hin : st.inputs d with
    | some x =>
      have := h4 x hin (by rw [hat]; exact hB.inl d x hin)
      refine ⟨?_, Good.of_in hin⟩
      rw [ht, ← this]
      exact (val_in (by unfold St.inp; rw [hin]; rfl)).symm
    | none =>
      obtain ⟨cd, h6, h7, h8⟩ := h5 hin
      have hcd := hB.cel d cd h6
      have h9 : cd.at_ = st.rev := by have := hcd.at_le; omega
      have h10 := h8 (by have := hcd.turned_le; have := hcd.at_le; omega)
      obtain ⟨s', h11, h12⟩ := hcd.now h9
      rw [h10] at h11
      obtain rfl := Option.some.inj h11
      exact ⟨by rw [ht, h12], ⟨t, h12, fun _ => ⟨cd, h6, h9, h10⟩⟩⟩
  exact ⟨s, h1, textM_congr h2 (fun d hd => (hv d hd).1), fun d hd => (hv d hd).2⟩

theorem nodup_at {l : List ByteArray} (h : l.Nodup) {i j : Nat} {s : ByteArray} (hi : l[i]? = some s) (hj : l[j]? = some s) : i = j := by
  obtain ⟨h1, h2⟩ := List.getElem?_eq_some_iff.1 hi
  obtain ⟨h3, h4⟩ := List.getElem?_eq_some_iff.1 hj
  exact (List.getElem_inj h).1 (h2.trans h4.symm)

/-- A word's number. -/
theorem word_good {rs : List Rule} {Ul : List Int} {X : Int → Prop} {st : St} (hn : st.words.Nodup) (hw : ∀ s ∈ st.words, s ∈ texts0) {s : ByteArray} (hs : s ∈ texts0) :
    ∃ ws d, wordM st s = some ({ st with words := ws }, d) ∧ 1 ≤ d ∧ ws[(d - 1).toNat]? = some s ∧ (∃ l, ws = st.words ++ l) ∧ ws.Nodup ∧ ∀ x ∈ ws, x ∈ texts0 := by
  unfold wordM
  have h1 := (texts0_size hs).1
  have h2 := sub_len st.words texts0 hn hw
  rw [texts0_len] at h2
  rw [if_pos ⟨by omega, by omega⟩]
  cases hp : pos st.words s with
  | some i =>
    exact ⟨st.words, (i : Int) + 1, rfl, by omega, by rw [show ((i : Int) + 1 - 1).toNat = i by omega]; exact pos_some hp, ⟨[], by simp⟩, hn, hw⟩
  | none =>
    refine ⟨st.words ++ [s], (st.words.length : Int) + 1, rfl, by omega, ?_, ⟨[s], rfl⟩, ?_, ?_⟩
    · rw [show ((st.words.length : Int) + 1 - 1).toNat = st.words.length by omega, List.getElem?_append_right (Nat.le_refl _), Nat.sub_self]
      rfl
    · rw [List.nodup_append]
      exact ⟨hn, by simp, by intro a ha b hb e; simp at hb; subst hb; subst e; exact pos_none.1 hp ha⟩
    · intro x hx
      rcases List.mem_append.1 hx with hx | hx
      · exact hw x hx
      · simp at hx; subst hx; exact hs
end Go.Proofs.Ytfkedhclhmbpfaa
end

section
namespace Go.Proofs.Ytfkedhclhmbpfaa
set_option linter.unusedVariables false
set_option linter.unusedSimpArgs false

theorem tot_same {f g : Int → Option Cell} {l : List Int} (h : ∀ k ∈ l, ((f k).getD zeroCell).s = ((g k).getD zeroCell).s) : tot f l = tot g l := by
  induction l with
  | nil => rfl
  | cons x r ih =>
    rw [tot_cons, tot_cons, h x List.mem_cons_self, ih (fun k hk => h k (List.mem_cons_of_mem _ hk))]

/-- The cell as it is written. -/
def newCell (st : St) (k : Int) (asked : List Int) (d : Int) : Cell :=
  { (st.cells k).getD zeroCell with digest := d, turned := if d = ((st.cells k).getD zeroCell).digest then ((st.cells k).getD zeroCell).turned else st.rev, asked := asked, at_ := st.rev }
/-- The state as it is written, ahead of keep. -/
def newSt (st : St) (k : Int) (asked : List Int) (d : Int) (ws : List ByteArray) : St :=
  { st with steps := st.steps + 1, cells := setF st.cells k (some (newCell st k asked d)), nc := if (st.cells k).isSome then st.nc else st.nc + 1, words := ws }
theorem setF_setF (f : Int → Option Cell) (k : Int) (a b : Option Cell) : setF (setF f k a) k b = setF f k b := by
  funext x
  unfold setF
  split <;> rfl

theorem wrote_eq {st : St} {k : Int} {asked : List Int} {s : ByteArray} {ws : List ByteArray} {d : Int} (h : wordM (freshM st k) s = some ({ freshM st k with words := ws }, d)) : wroteM st k asked s = keepM (newSt st k asked d ws) k s := by
  unfold wroteM
  rw [h]
  simp only
  have h1 : (freshM st k).cells k = some ((st.cells k).getD zeroCell) := by unfold freshM setF; simp
  rw [h1, Option.getD_some]
  congr 1
  unfold St.setCell newSt newCell freshM
  simp only [setF_setF]

theorem new_core_self (st : St) (k : Int) (asked : List Int) (d : Int) (ws : List ByteArray) : (newSt st k asked d ws).core k = some (coreOf (newCell st k asked d)) := by
  unfold St.core newSt setF
  simp
theorem new_core_other (st : St) {k x : Int} (asked : List Int) (d : Int) (ws : List ByteArray) (h : x ≠ k) : (newSt st k asked d ws).core x = st.core x := by
  unfold St.core newSt setF
  simp [h]

theorem wrote_good {rs : List Rule} {Ul : List Int} {st : St} {k : Int} {asked : List Int} {s : ByteArray} (hA : InvA Ul st) (hB : InvB rs st) (hk : k ∈ Ul) (hin : st.inputs k = none) (hs : s ∈ texts0)
    (ht : textM rs (repA (val rs st.inp)) [] k = some (asked, s)) (hd : ∀ d ∈ asked, Good rs st d) (B : Int → Prop) (hBk : ¬ B k) :
    ∃ st', wroteM st k asked s = some st' ∧ InvA Ul st' ∧ InvB rs st' ∧ Ext B st st' ∧ st'.cycle = st.cycle ∧ (∃ c', st'.core k = some c' ∧ c'.at_ = st.rev ∧ st'.text c' = some s) ∧ st'.steps = st.steps + 1 ∧ st'.checks = st.checks ∧ st'.hits = st.hits ∧ st'.budget = st.budget := by
  have hval : val rs st.inp k = some s := val_of_text (by unfold St.inp; rw [hin]; rfl) (textM_rep ht)
  obtain ⟨ws, d, hw, hd1, hat, hpre, hnd, hset⟩ := word_good (rs := rs) (Ul := Ul) (X := fun _ => False) (st := freshM st k) hB.wnd hA.wset hs
  have hpre : ∃ l, ws = st.words ++ l := hpre
  rw [wrote_eq hw]
  -- the state ahead of keep
  have hE : Ext B st (newSt st k asked d ws) := by
    refine ⟨rfl, rfl, rfl, hpre, id, fun x c hx => ?_, fun x hx hb => ?_, by show st.steps ≤ st.steps + 1; omega, Int.le_refl _⟩
    · by_cases e : x = k
      · subst e
        refine ⟨_, new_core_self st x asked d ws, ?_⟩
        obtain ⟨c0, hc0, rfl⟩ : ∃ c0, st.cells x = some c0 ∧ coreOf c0 = c := by
          unfold St.core at hx
          simpa [Option.map_eq_some_iff] using hx
        have hc := hB.cel x (coreOf c0) hx
        unfold newCell
        rw [hc0, Option.getD_some]
        by_cases hr : c0.at_ = st.rev
        · left
          obtain ⟨s', h1, h2, h3⟩ := hc.deps hB hr
          obtain ⟨s'', h4, h5⟩ := hc.now hr
          rw [hval] at h5
          obtain rfl := Option.some.inj h5
          rw [h4] at h1
          obtain rfl := Option.some.inj h1
          rw [ht] at h2
          simp only [Option.some.injEq, Prod.mk.injEq] at h2
          have hdig : d = c0.digest := by
            obtain ⟨l, hl⟩ := hpre
            have hl : ws = st.words ++ l := hl
            have h6 : ws[((coreOf c0).digest - 1).toNat]? = some s := by
              unfold St.text at h4
              rw [hl, List.getElem?_append_left (List.getElem?_eq_some_iff.1 h4).1]
              exact h4
            have h7 := nodup_at hnd hat h6
            have h8 : 1 ≤ c0.digest := hc.dig
            have h9 : (coreOf c0).digest = c0.digest := rfl
            rw [h9] at h7
            omega
          unfold coreOf
          simp only [Core.mk.injEq]
          exact ⟨hdig, h2.1, hr.symm, by rw [if_pos hdig]⟩
        · right
          refine ⟨rfl, hr, hBk, fun hh => ?_, fun hh => ?_⟩
          · show (if d = c0.digest then c0.turned else st.rev) = c0.turned
            rw [if_pos (show d = c0.digest from hh)]
          · show (if d = c0.digest then c0.turned else st.rev) = st.rev
            rw [if_neg (show ¬ d = c0.digest from hh)]
      · exact ⟨c, by rw [new_core_other st asked d ws e]; exact hx, .inl rfl⟩
    · have e : x ≠ k := fun e => hBk (e ▸ hb)
      rw [new_core_other st asked d ws e]
      exact hx
  have htext : (newSt st k asked d ws).text (coreOf (newCell st k asked d)) = some s := hat
  have hBn : InvB rs (newSt st k asked d ws) := by
    refine hB.ext hE hnd (fun x c hx hne => ?_)
    by_cases e : x = k
    · subst e
      rw [new_core_self] at hx
      obtain rfl := Option.some.inj hx
      have htl : (coreOf (newCell st x asked d)).turned ≤ st.rev := by
        show (if d = ((st.cells x).getD zeroCell).digest then ((st.cells x).getD zeroCell).turned else st.rev) ≤ st.rev
        split
        · rename_i hdd
          cases hc0 : st.cells x with
          | none =>
            rw [hc0] at hdd
            have : d = 0 := hdd
            omega
          | some c0 =>
            have hc := hB.cel x (coreOf c0) (by unfold St.core; rw [hc0]; rfl)
            have h1 := hc.turned_le
            have h2 := hc.at_le
            show c0.turned ≤ st.rev
            have h3 : (coreOf c0).turned = c0.turned := rfl
            have h4 : (coreOf c0).at_ = c0.at_ := rfl
            omega
        · omega
      refine ⟨hin, Int.le_refl _, htl, hd1, ⟨val rs st.inp, s, htext, ht, fun y hy => ?_⟩, fun _ => ⟨s, htext, by rw [hE.inp]; exact hval⟩⟩
      obtain ⟨t, h1, h2⟩ := (hd y hy)
      refine ⟨t, h1, fun z hz _ => ?_, fun hn => ?_⟩
      · have : val rs st.inp y = some z.1 := val_in (by unfold St.inp; rw [show st.inputs y = some z from hz]; rfl)
        rw [this] at h1
        exact Option.some.inj h1
      · obtain ⟨cd, h3, h4, h5⟩ := h2 hn
        obtain ⟨cd', h6, h7⟩ := hE.keep y cd h3
        rcases h7 with rfl | ⟨_, h8, _⟩
        · exact ⟨cd', h6, by show st.rev ≤ cd'.at_; omega, fun _ => hE.text h5⟩
        · exact absurd h4 h8
    · rw [new_core_other st asked d ws e] at hx
      exact absurd hx hne
  have hcs : ∀ x, x ≠ k → (newSt st k asked d ws).cells x = st.cells x := fun x e => by
    show setF st.cells k _ x = _
    unfold setF
    rw [if_neg e]
  have hck : (newSt st k asked d ws).cells k = some (newCell st k asked d) := by
    show setF st.cells k _ k = _
    unfold setF
    rw [if_pos rfl]
  have hhas : (newCell st k asked d).has = ((st.cells k).getD zeroCell).has := rfl
  have hss : (newCell st k asked d).s = ((st.cells k).getD zeroCell).s := rfl
  have hAn : InvX Ul (fun x => x = k) (newSt st k asked d ws) := by
    refine ⟨hA.und, fun x => ?_, fun x c hx hh hX => ?_, ?_, hA.le1, hA.le2, ?_, fun x hx => ?_, hset, hA.few⟩
    · show x ∈ st.used ↔ _
      rw [hA.umem x]
      by_cases e : x = k
      · subst e
        rw [hck]
        cases hc0 : st.cells x with
        | none =>
          rw [hc0] at hhas
          have hf : (newCell st x asked d).has = false := hhas
          simp [hf]
        | some c0 =>
          rw [hc0] at hhas
          have hf : (newCell st x asked d).has = c0.has := hhas
          simp [hf]
      · rw [hcs x e]
    · rw [hcs x hX] at hx
      exact hE.text (hA.utext x c hx hh (fun h => h))
    · show st.charged = tot (newSt st k asked d ws).cells st.used
      rw [hA.sum]
      refine tot_same (fun x hx => ?_)
      by_cases e : x = k
      · subst e; rw [hck]; exact hss.symm
      · rw [hcs x e]
    · obtain ⟨ks, h1, h2, h3⟩ := hA.ncs
      show ∃ ks : List Int, ks.Nodup ∧ (∀ x, x ∈ ks ↔ ((newSt st k asked d ws).cells x).isSome = true) ∧ (if (st.cells k).isSome then st.nc else st.nc + 1) = ks.length
      by_cases hc0 : (st.cells k).isSome = true
      · rw [if_pos hc0]
        refine ⟨ks, h1, fun x => ?_, h3⟩
        rw [h2 x]
        by_cases e : x = k
        · subst e; rw [hck]; simp [hc0]
        · rw [hcs x e]
      · rw [if_neg hc0]
        refine ⟨k :: ks, List.nodup_cons.2 ⟨fun h => hc0 ((h2 k).1 h), h1⟩, fun x => ?_, by simp [h3]⟩
        rw [List.mem_cons]
        by_cases e : x = k
        · subst e; rw [hck]; simp
        · rw [hcs x e, h2 x]; simp [e]
    · by_cases e : x = k
      · rw [e]; exact hk
      · rw [hcs x e] at hx; exact hA.cul x hx
  obtain ⟨st', h1, h2, h3, h4, h5, h6⟩ := keep_good hAn hck htext
  refine ⟨st', h1, h2, h3.invB hBn, hE.trans (h3.ext B), h3.cycle, ⟨_, by rw [h3.core]; exact new_core_self st k asked d ws, rfl, by rw [h3.text]; exact htext⟩, h3.steps, h3.checks, h6, h4⟩
end Go.Proofs.Ytfkedhclhmbpfaa
end

section
namespace Go.Proofs.Ytfkedhclhmbpfaa
set_option linter.unusedVariables false
set_option linter.unusedSimpArgs false

theorem tmod_thou (x : Int) : valueM (x.tmod 1000) ∈ texts0 := by
  have h1 := Int.tmod_lt_of_pos x (b := 1000) (by omega)
  have h2 := Int.lt_tmod_of_pos x (b := 1000) (by omega)
  exact texts0_value (by omega) (by omega)
theorem tmod_twoT (x : Int) : valueM (x.tmod 2) ∈ texts0 := by
  have h1 := Int.tmod_lt_of_pos x (b := 2) (by omega)
  have h2 := Int.lt_tmod_of_pos x (b := 2) (by omega)
  exact texts0_value (by omega) (by omega)

/-- In range: the keys that have a rule. -/
def inR (rs : List Rule) (k : Int) : Prop := 0 ≤ k ∧ k < rs.length
/-- How many keys with a rule are not under way. -/
def free (rs : List Rule) (st : St) : Nat := ((List.range rs.length).filter fun (i : Nat) => !st.busy (i : Int)).length
theorem free_busy {rs : List Rule} {st st' : St} (h : st'.busy = st.busy) : free rs st' = free rs st := by unfold free; rw [h]

/-- Every key that is under way needs k. -/
def QB (rs : List Rule) (st : St) (k : Int) : Prop := ∀ u, st.busy u = true → ∀ n, (evalM rs n st.inp u).isSome = true → ∃ m, m < n ∧ (evalM rs m st.inp k).isSome = true

/-- What 'ask' is to do. -/
def AskSpec (rs : List Rule) (Ul : List Int) (m : Nat) (ask : St → Int → Option (St × ByteArray)) : Prop :=
  ∀ st k, InvA Ul st → InvB rs st → k ∈ Ul → free rs st < m → (st.cycle = false → QB rs st k) → ∃ st' s, ask st k = some (st', s) ∧ InvA Ul st' ∧ InvB rs st' ∧ Ext (fun u => st.busy u = true) st st' ∧ st'.budget = st.budget ∧
    (st'.cycle = false → val rs st.inp k = some s ∧ Good rs st' k) ∧ (st.cycle = false → st'.cycle = true → val rs st.inp k = none)
/-- What 'turned' is to do. -/
def TurnSpec (rs : List Rule) (Ul : List Int) (m : Nat) (turned : St → Int → Option (St × Int)) : Prop :=
  ∀ st k, InvA Ul st → InvB rs st → k ∈ Ul → free rs st < m → st.cycle = false → QB rs st k → ∃ st' t, turned st k = some (st', t) ∧ InvA Ul st' ∧ InvB rs st' ∧ Ext (fun u => st.busy u = true) st st' ∧ st'.budget = st.budget ∧
    (st'.cycle = false → (∀ x, st.inputs k = some x → t = x.2) ∧ (st.inputs k = none → ∃ c, st'.core k = some c ∧ c.at_ = st.rev ∧ c.turned = t)) ∧ (st'.cycle = true → val rs st.inp k = none)

theorem noteM_eq (ask : St → Int → Option (St × ByteArray)) (st : St) (ks : List Int) (d : Int) {st1 : St} {t : ByteArray} (h : ask st d = some (st1, t)) : noteM ask (st, ks) d = some ((st1, noted ks d), t) := by
  unfold noteM noted
  rw [h]

theorem pureA_some {f : Int → Option ByteArray} {d : Int} {t : ByteArray} (h : f d = some t) : pureA f () d = some ((), t) := by unfold pureA; rw [h]; rfl
theorem pureA_none {f : Int → Option ByteArray} {d : Int} (h : f d = none) : pureA f () d = none := by unfold pureA; rw [h]; rfl
theorem repA_some {f : Int → Option ByteArray} {ks : List Int} {d : Int} {t : ByteArray} (h : f d = some t) : repA f ks d = some (noted ks d, t) := by unfold repA; rw [h]; rfl

/-- A rule's run. -/
theorem run_good {rs : List Rule} {Ul : List Int} {m : Nat} {ask : St → Int → Option (St × ByteArray)} (hask : AskSpec rs Ul m ask) (kind : Int) (k : Int) (l : List Int) :
    ∀ (i : Nat) (sum : Int) (st : St) (ks : List Int), InvA Ul st → InvB rs st → (∀ d ∈ l, d ∈ Ul) → free rs st < m → st.busy k = true →
    (st.cycle = false → (∀ u, st.busy u = true → u ≠ k → ∀ n, (evalM rs n st.inp u).isSome = true → ∃ m, m < n ∧ (evalM rs m st.inp k).isSome = true) ∧ ∀ m, (evalM rs (m + 1) st.inp k).isSome = true → (textGo kind (pureA (evalM rs m st.inp)) l i sum ()).isSome = true) →
    ∃ st' ks' s, textGo kind (noteM ask) l i sum (st, ks) = some ((st', ks'), s) ∧ InvA Ul st' ∧ InvB rs st' ∧ Ext (fun u => st.busy u = true) st st' ∧ st'.budget = st.budget ∧ s ∈ texts0 ∧
      (st'.cycle = false → textGo kind (repA (val rs st.inp)) l i sum ks = some (ks', s) ∧ ∀ d ∈ ks', d ∈ ks ∨ Good rs st' d) ∧
      (st.cycle = false → st'.cycle = true → ∀ m, evalM rs (m + 1) st.inp k = none) := by
  induction l with
  | nil =>
    intro i sum st ks hA hB _ _ _ _
    refine ⟨st, ks, valueM (sum.tmod 1000), by rw [textGo], hA, hB, Ext.refl _ _, rfl, tmod_thou sum, fun _ => ⟨by rw [textGo], fun d hd => .inl hd⟩, fun h h' => by rw [h] at h'; cases h'⟩
  | cons d r ih =>
    intro i sum st ks hA hB hl hf hb hC
    rw [textGo_cons]
    by_cases hskip : kind = 1 ∧ (2 < i ∨ (0 < i ∧ (i : Int) ≠ 1 + sum.tmod 2))
    · rw [if_pos hskip]
      obtain ⟨st', ks', s, h1, h2, h3, h4, h5, h6, h7, h8⟩ := ih (i + 1) sum st ks hA hB (fun d hd => hl d (List.mem_cons_of_mem _ hd)) hf hb (fun hc => ⟨(hC hc).1, fun m hm => by
        have := (hC hc).2 m hm
        rw [textGo_cons, if_pos hskip] at this
        exact this⟩)
      exact ⟨st', ks', s, h1, h2, h3, h4, h5, h6, fun hc => ⟨by rw [textGo_cons, if_pos hskip]; exact (h7 hc).1, (h7 hc).2⟩, h8⟩
    · rw [if_neg hskip]
      have need : st.cycle = false → ∀ m, (evalM rs (m + 1) st.inp k).isSome = true → (evalM rs m st.inp d).isSome = true := by
        intro hc m hm
        have := (hC hc).2 m hm
        rw [textGo_cons, if_neg hskip] at this
        cases hd : evalM rs m st.inp d with
        | none => rw [pureA_none hd] at this; cases this
        | some _ => rfl
      have hQ : st.cycle = false → QB rs st d := by
        intro hc u hu n hn
        by_cases e : u = k
        · subst e
          cases n with
          | zero => cases hn
          | succ n => exact ⟨n, Nat.lt_succ_self n, need hc n hn⟩
        · obtain ⟨m', hm', hk'⟩ := (hC hc).1 u hu e n hn
          cases m' with
          | zero => cases hk'
          | succ m' => exact ⟨m', by omega, need hc m' hk'⟩
      obtain ⟨st1, t, a1, a2, a3, a4, a5, a6, a7⟩ := hask st d hA hB (hl d List.mem_cons_self) hf hQ
      rw [noteM_eq ask st ks d a1]
      simp only
      have hinp := a4.inp
      -- where a cycle is met
      have hcyc : st.cycle = false → st1.cycle = true → ∀ m, evalM rs (m + 1) st.inp k = none := by
        intro hc hc1 m
        have hv := a7 hc hc1
        cases hk : evalM rs (m + 1) st.inp k with
        | none => rfl
        | some z =>
          have := need hc m (by rw [hk]; rfl)
          obtain ⟨y, hy⟩ := Option.isSome_iff_exists.1 this
          rw [val_some.2 ⟨m, hy⟩] at hv
          cases hv
      have hcst : st1.cycle = false → st.cycle = false := fun h => by
        cases hc : st.cycle with
        | false => rfl
        | true => rw [a4.cyc hc] at h; cases h
      -- what is needed of the rest
      have hrest : ∀ (i' : Nat) (sum' : Int), (∀ f : Int → Option ByteArray, f d = some t → textGo kind (pureA f) (d :: r) i sum () = textGo kind (pureA f) r i' sum' ()) →
          (∀ f : Int → Option ByteArray, f d = some t → textGo kind (repA f) (d :: r) i sum ks = textGo kind (repA f) r i' sum' (noted ks d)) →
          ∃ st' ks' s, textGo kind (noteM ask) r i' sum' (st1, noted ks d) = some ((st', ks'), s) ∧ InvA Ul st' ∧ InvB rs st' ∧ Ext (fun u => st.busy u = true) st st' ∧ st'.budget = st.budget ∧ s ∈ texts0 ∧
            (st'.cycle = false → textGo kind (repA (val rs st.inp)) (d :: r) i sum ks = some (ks', s) ∧ ∀ d ∈ ks', d ∈ ks ∨ Good rs st' d) ∧
            (st.cycle = false → st'.cycle = true → ∀ m, evalM rs (m + 1) st.inp k = none) := by
        intro i' sum' hp hr
        obtain ⟨st', ks', s, h1, h2, h3, h4, h5, h6, h7, h8⟩ := ih i' sum' st1 (noted ks d) a2 a3 (fun d hd => hl d (List.mem_cons_of_mem _ hd)) (by rw [free_busy a4.busy]; exact hf) (by rw [a4.busy]; exact hb) (fun hc1 => by
          obtain ⟨q1, q2⟩ := hC (hcst hc1)
          rw [hinp, a4.busy]
          refine ⟨q1, fun m hm => ?_⟩
          have := q2 m hm
          have hdm : evalM rs m st.inp d = some t := by
            cases hd : evalM rs m st.inp d with
            | none => rw [textGo_cons, if_neg hskip, pureA_none hd] at this; cases this
            | some y =>
              have hv := (a6 hc1).1
              rw [val_some.2 ⟨m, hd⟩] at hv
              rw [Option.some.inj hv]
          rw [hp _ hdm] at this
          exact this)
        rw [a4.busy] at h4
        refine ⟨st', ks', s, h1, h2, h3, a4.trans h4, h5.trans a5, h6, fun hc => ?_, fun hc hc' => ?_⟩
        · have hc1 : st1.cycle = false := by
            cases hh : st1.cycle with
            | false => rfl
            | true => rw [h4.cyc hh] at hc; cases hc
          obtain ⟨b1, b2⟩ := h7 hc
          rw [hinp] at b1
          refine ⟨by rw [hr _ (a6 hc1).1]; exact b1, fun y hy => ?_⟩
          rcases b2 y hy with hy' | hy'
          · rcases noted_mem hy' with h | rfl
            · exact .inl h
            · exact .inr ((a6 hc1).2.ext h4)
          · exact .inr hy'
        · cases hh : st1.cycle with
          | true => exact hcyc hc hh
          | false =>
            have := h8 hh hc'
            rw [hinp] at this
            exact this
      -- the run's end behind this key
      have hend : ∀ v : ByteArray, v ∈ texts0 → (∀ f : Int → Option ByteArray, f d = some t → textGo kind (repA f) (d :: r) i sum ks = some (noted ks d, v)) →
          ∃ st' ks' s, some ((st1, noted ks d), v) = some ((st', ks'), s) ∧ InvA Ul st' ∧ InvB rs st' ∧ Ext (fun u => st.busy u = true) st st' ∧ st'.budget = st.budget ∧ s ∈ texts0 ∧
            (st'.cycle = false → textGo kind (repA (val rs st.inp)) (d :: r) i sum ks = some (ks', s) ∧ ∀ d ∈ ks', d ∈ ks ∨ Good rs st' d) ∧
            (st.cycle = false → st'.cycle = true → ∀ m, evalM rs (m + 1) st.inp k = none) := by
        intro v hv hr
        refine ⟨st1, noted ks d, v, rfl, a2, a3, a4, a5, hv, fun hc => ⟨hr _ (a6 hc).1, fun y hy => ?_⟩, hcyc⟩
        rcases noted_mem hy with h | rfl
        · exact .inl h
        · exact .inr (a6 hc).2
      by_cases h1 : kind = 1 ∧ i = 0
      · rw [if_pos h1]
        exact hrest (i + 1) (numberM t) (fun f hf => by rw [textGo_cons, if_neg hskip, pureA_some hf]; simp only; rw [if_pos h1]) (fun f hf => by rw [textGo_cons, if_neg hskip, repA_some hf]; simp only; rw [if_pos h1])
      · rw [if_neg h1]
        by_cases h2 : kind = 2
        · rw [if_pos h2]
          exact hend _ (tmod_twoT _) (fun f hf => by rw [textGo_cons, if_neg hskip, repA_some hf]; simp only; rw [if_neg h1, if_pos h2])
        · rw [if_neg h2]
          by_cases h3 : kind = 1
          · rw [if_pos h3]
            exact hend _ (tmod_thou _) (fun f hf => by rw [textGo_cons, if_neg hskip, repA_some hf]; simp only; rw [if_neg h1, if_neg h2, if_pos h3])
          · rw [if_neg h3]
            exact hrest (i + 1) _ (fun f hf => by rw [textGo_cons, if_neg hskip, pureA_some hf]; simp only; rw [if_neg h1, if_neg h2, if_neg h3]) (fun f hf => by rw [textGo_cons, if_neg hskip, repA_some hf]; simp only; rw [if_neg h1, if_neg h2, if_neg h3])

/-- What the rules' keys are. -/
def Keys (rs : List Rule) (Ul : List Int) : Prop := ∀ r ∈ rs, ∀ d ∈ r.l, d ∈ Ul

/-- step. -/
theorem step_good {rs : List Rule} {Ul : List Int} (hU : Keys rs Ul) {m : Nat} {ask : St → Int → Option (St × ByteArray)} (hask : AskSpec rs Ul m ask) {st : St} {k : Int} (hA : InvA Ul st) (hB : InvB rs st) (hk : k ∈ Ul) (hin : st.inputs k = none) (hb : st.busy k = true) (hcy : st.cycle = false) (hf : inR rs k → free rs st < m)
    (hQ : ∀ u, st.busy u = true → u ≠ k → ∀ n, (evalM rs n st.inp u).isSome = true → ∃ m, m < n ∧ (evalM rs m st.inp k).isSome = true) :
    ∃ st' s, stepM rs ask st k = some (st', s) ∧ InvA Ul st' ∧ InvB rs st' ∧ Ext (fun u => st.busy u = true ∧ u ≠ k) st st' ∧ st'.budget = st.budget ∧
      (st'.cycle = false → val rs st.inp k = some s ∧ ∃ c, st'.core k = some c ∧ c.at_ = st.rev ∧ st'.text c = some s) ∧ (st'.cycle = true → val rs st.inp k = none) := by
  have hipk : st.inp k = none := by unfold St.inp; rw [hin]; rfl
  have run : ∃ st1 asked s, textM rs (noteM ask) (st, []) k = some ((st1, asked), s) ∧ InvA Ul st1 ∧ InvB rs st1 ∧ Ext (fun u => st.busy u = true) st st1 ∧ st1.budget = st.budget ∧ s ∈ texts0 ∧
      (st1.cycle = false → textM rs (repA (val rs st.inp)) [] k = some (asked, s) ∧ ∀ d ∈ asked, Good rs st1 d) ∧ (st1.cycle = true → ∀ m, evalM rs (m + 1) st.inp k = none) := by
    unfold textM
    by_cases hneg : k < 0
    · rw [if_pos hneg, if_pos hneg]
      exact ⟨st, [], _, rfl, hA, hB, Ext.refl _ _, rfl, List.mem_cons_self, fun _ => ⟨rfl, fun d hd => by cases hd⟩, (fun h => by rw [hcy] at h; cases h)⟩
    · rw [if_neg hneg, if_neg hneg]
      cases hr : rs[k.toNat]? with
      | none => exact ⟨st, [], _, rfl, hA, hB, Ext.refl _ _, rfl, List.mem_cons_self, fun _ => ⟨rfl, fun d hd => by cases hd⟩, (fun h => by rw [hcy] at h; cases h)⟩
      | some r =>
        have hlt := (List.getElem?_eq_some_iff.1 hr).1
        obtain ⟨st', ks', s, h1, h2, h3, h4, h5, h6, h7, h8⟩ := run_good hask r.kind k r.l 0 k st [] hA hB (hU r (List.mem_of_getElem? hr)) (hf ⟨by omega, by omega⟩) hb (fun _ => ⟨hQ, fun m hm => by
          unfold evalM textM at hm
          rw [hipk, if_neg hneg, hr] at hm
          simpa using hm⟩)
        exact ⟨st', ks', s, h1, h2, h3, h4, h5, h6, fun hc => ⟨(h7 hc).1, fun d hd => ((h7 hc).2 d hd).elim (fun h => by cases h) id⟩, h8 hcy⟩
  obtain ⟨st1, asked, s, h1, h2, h3, h4, h5, h6, h7, h8⟩ := run
  have hW : Ext (fun u => st.busy u = true ∧ u ≠ k) st st1 := h4.weaken (fun u hu => hu.1)
  unfold stepM
  rw [h1]
  simp only
  cases hc : st1.cycle with
  | true =>
    rw [if_pos rfl]
    refine ⟨st1, noBytes, rfl, h2, h3, hW, h5, (fun h => by rw [hc] at h; cases h), fun _ => val_none (fun n => ?_)⟩
    cases n with
    | zero => rfl
    | succ n => exact h8 hc n
  | false =>
    rw [if_neg (by simp)]
    obtain ⟨b1, b2⟩ := h7 hc
    obtain ⟨st2, c1, c2, c3, c4, c5, c6, c7, c8, c9, c10⟩ := wrote_good h2 h3 hk (by rw [h4.inputs]; exact hin) h6 (by rw [h4.inp]; exact b1) b2 (fun u => st.busy u = true ∧ u ≠ k) (fun h => h.2 rfl)
    rw [c1]
    simp only
    obtain ⟨c, e1, e2, e3⟩ := c6
    exact ⟨st2, s, rfl, c2, c3, hW.trans c4, c10.trans h5, fun _ => ⟨val_of_text hipk (textM_rep b1), c, e1, by rw [e2, h4.rev], e3⟩, fun h => by rw [c5, hc] at h; cases h⟩
end Go.Proofs.Ytfkedhclhmbpfaa
end

section
namespace Go.Proofs.Ytfkedhclhmbpfaa
set_option linter.unusedVariables false
set_option linter.unusedSimpArgs false

theorem noted_pre (l : List Int) (d : Int) : ∃ m, noted l d = l ++ m := by
  unfold noted
  split
  · exact ⟨[], by simp⟩
  · exact ⟨[d], rfl⟩
theorem noted_nodup {l : List Int} (h : l.Nodup) (d : Int) : (noted l d).Nodup := by
  unfold noted
  split
  · exact h
  · rename_i hn
    rw [List.nodup_append]
    exact ⟨h, by simp, by intro a ha b hb e; simp at hb; subst hb; subst e; exact hn ha⟩

/-- How the list of the keys that are noted grows. -/
theorem textGo_list {f : Int → Option ByteArray} (kind : Int) (l : List Int) : ∀ (i : Nat) (sum : Int) (ks ks' : List Int) (s : ByteArray), textGo kind (repA f) l i sum ks = some (ks', s) →
    (∃ m, ks' = ks ++ m) ∧ (ks.Nodup → ks'.Nodup) ∧ ∀ x ∈ ks', x ∈ ks ∨ x ∈ l := by
  induction l with
  | nil =>
    intro i sum ks ks' s hs
    unfold textGo at hs
    simp only [Option.some.injEq, Prod.mk.injEq] at hs
    rw [← hs.1]
    exact ⟨⟨[], by simp⟩, id, fun x hx => .inl hx⟩
  | cons d r ih =>
    intro i sum ks ks' s hs
    rw [textGo_cons] at hs
    have fin : noted ks d = ks' → (∃ m, ks' = ks ++ m) ∧ (ks.Nodup → ks'.Nodup) ∧ ∀ x ∈ ks', x ∈ ks ∨ x ∈ d :: r := by
      rintro rfl
      exact ⟨noted_pre ks d, fun h => noted_nodup h d, fun x hx => (noted_mem hx).imp id (fun e => by rw [e]; exact List.mem_cons_self)⟩
    have go : ∀ i' sum', textGo kind (repA f) r i' sum' (noted ks d) = some (ks', s) → (∃ m, ks' = ks ++ m) ∧ (ks.Nodup → ks'.Nodup) ∧ ∀ x ∈ ks', x ∈ ks ∨ x ∈ d :: r := by
      intro i' sum' h
      obtain ⟨⟨m, hm⟩, h2, h3⟩ := ih _ _ _ _ _ h
      obtain ⟨m', hm'⟩ := noted_pre ks d
      refine ⟨⟨m' ++ m, by rw [hm, hm', List.append_assoc]⟩, fun h => h2 (noted_nodup h d), fun x hx => ?_⟩
      rcases h3 x hx with h | h
      · exact (noted_mem h).imp id (fun e => by rw [e]; exact List.mem_cons_self)
      · exact .inr (List.mem_cons_of_mem _ h)
    split at hs
    · obtain ⟨h1, h2, h3⟩ := ih _ _ _ _ _ hs
      exact ⟨h1, h2, fun x hx => (h3 x hx).imp id (List.mem_cons_of_mem _)⟩
    · cases hf : f d with
      | none => simp [repA, hf] at hs
      | some t =>
        simp only [repA, hf, Option.map_some] at hs
        split at hs
        · exact go _ _ hs
        · split at hs
          · simp only [Option.some.injEq, Prod.mk.injEq] at hs
            exact fin hs.1
          · split at hs
            · simp only [Option.some.injEq, Prod.mk.injEq] at hs
              exact fin hs.1
            · exact go _ _ hs
/-- The keys that a rule notes. -/
theorem textM_list {f : Int → Option ByteArray} {rs : List Rule} {Ul : List Int} (hU : Keys rs Ul) {k : Int} {ks : List Int} {s : ByteArray} (h : textM rs (repA f) [] k = some (ks, s)) : ks.Nodup ∧ (∀ x ∈ ks, x ∈ Ul) ∧ (ks ≠ [] → inR rs k) := by
  unfold textM at h
  split at h
  · simp only [Option.some.injEq, Prod.mk.injEq] at h
    rw [← h.1]
    exact ⟨List.nodup_nil, fun x hx => (by cases hx), fun hh => absurd rfl hh⟩
  · rename_i hneg
    split at h
    · simp only [Option.some.injEq, Prod.mk.injEq] at h
      rw [← h.1]
      exact ⟨List.nodup_nil, fun x hx => (by cases hx), fun hh => absurd rfl hh⟩
    · rename_i r hr
      obtain ⟨_, h2, h3⟩ := textGo_list _ _ _ _ _ _ _ h
      have hlt := (List.getElem?_eq_some_iff.1 hr).1
      exact ⟨h2 List.nodup_nil, fun x hx => (h3 x hx).elim (fun h => by cases h) (fun h => hU r (List.mem_of_getElem? hr) x h), fun _ => ⟨by omega, by omega⟩⟩

/-- What a rule asks for next, where what it asked for before is told alike. -/
theorem needs_go {ans g : Int → Option ByteArray} (kind : Int) (l : List Int) : ∀ (i : Nat) (sum : Int) (ks ks' : List Int) (s : ByteArray), textGo kind (repA ans) l i sum ks = some (ks', s) →
    ∀ (pre : List Int) (d : Int) (post : List Int), ks' = pre ++ d :: post → (∀ x ∈ ks, x ∈ pre) → d ∉ pre → (∀ x ∈ pre, ∀ y, g x = some y → ans x = some y) → (textGo kind (pureA g) l i sum ()).isSome = true → (g d).isSome = true := by
  induction l with
  | nil =>
    intro i sum ks ks' s hs pre d post hk hks hnd hg hp
    unfold textGo at hs
    simp only [Option.some.injEq, Prod.mk.injEq] at hs
    exact absurd (hks d (by rw [hs.1, hk]; simp)) hnd
  | cons e r ih =>
    intro i sum ks ks' s hs pre d post hk hks hnd hg hp
    rw [textGo_cons] at hs hp
    split at hs
    · rename_i hskip
      rw [if_pos hskip] at hp
      exact ih _ _ _ _ _ hs pre d post hk hks hnd hg hp
    · rename_i hskip
      rw [if_neg hskip] at hp
      cases hge : g e with
      | none => rw [pureA_none hge] at hp; cases hp
      | some y =>
        rw [pureA_some hge] at hp
        simp only at hp
        cases hf : ans e with
        | none => simp [repA, hf] at hs
        | some t =>
          rw [repA_some hf] at hs
          simp only at hs
          by_cases hep : e ∈ pre
          · have hty : t = y := by
              have := hg e hep y hge
              rw [hf] at this
              exact Option.some.inj this
            subst hty
            have hks2 : ∀ x ∈ noted ks e, x ∈ pre := fun x hx => (noted_mem hx).elim (hks x) (fun h => h ▸ hep)
            have fin : noted ks e = ks' → (g d).isSome = true := fun h => absurd (hks2 d (by rw [h, hk]; simp)) hnd
            split at hs
            · rename_i h1
              rw [if_pos h1] at hp
              exact ih _ _ _ _ _ hs pre d post hk hks2 hnd hg hp
            · rename_i h1
              rw [if_neg h1] at hp
              split at hs
              · simp only [Option.some.injEq, Prod.mk.injEq] at hs
                exact fin hs.1
              · rename_i h2
                rw [if_neg h2] at hp
                split at hs
                · simp only [Option.some.injEq, Prod.mk.injEq] at hs
                  exact fin hs.1
                · rename_i h3
                  rw [if_neg h3] at hp
                  exact ih _ _ _ _ _ hs pre d post hk hks2 hnd hg hp
          · have hpf : ∃ m, ks' = noted ks e ++ m := by
              split at hs
              · exact (textGo_list _ _ _ _ _ _ _ hs).1
              · split at hs
                · simp only [Option.some.injEq, Prod.mk.injEq] at hs
                  exact ⟨[], by rw [hs.1]; simp⟩
                · split at hs
                  · simp only [Option.some.injEq, Prod.mk.injEq] at hs
                    exact ⟨[], by rw [hs.1]; simp⟩
                  · exact (textGo_list _ _ _ _ _ _ _ hs).1
            obtain ⟨m, hm⟩ := hpf
            have hnk : e ∉ ks := fun h => hep (hks e h)
            have hne : noted ks e = ks ++ [e] := by unfold noted; rw [if_neg hnk]
            rw [hne, hk, List.append_assoc] at hm
            have hat : (pre ++ d :: post)[ks.length]? = some e := by rw [hm, List.getElem?_append_right (Nat.le_refl _), Nat.sub_self]; rfl
            have hed : e = d := by
              rcases Nat.lt_trichotomy ks.length pre.length with h | h | h
              · rw [List.getElem?_append_left h] at hat
                exact absurd (List.mem_of_getElem? hat) hep
              · rw [h, List.getElem?_append_right (Nat.le_refl _), Nat.sub_self] at hat
                simpa using hat.symm
              · have h2 : (ks ++ ([e] ++ m))[pre.length]? = some d := by rw [← hm, List.getElem?_append_right (Nat.le_refl _), Nat.sub_self]; rfl
                rw [List.getElem?_append_left h] at h2
                exact absurd (hks d (List.mem_of_getElem? h2)) hnd
            rw [← hed, hge]
            rfl
theorem needs_next {rs : List Rule} {ip : Inp} {ans : Int → Option ByteArray} {k : Int} {ks : List Int} {s : ByteArray} (hip : ip k = none) (h : textM rs (repA ans) [] k = some (ks, s)) {pre : List Int} {d : Int} {post : List Int} (hk : ks = pre ++ d :: post) (hnd : d ∉ pre)
    (hg : ∀ x ∈ pre, ∀ y, val rs ip x = some y → ans x = some y) {m : Nat} (hm : (evalM rs (m + 1) ip k).isSome = true) : (evalM rs m ip d).isSome = true := by
  unfold evalM at hm
  rw [hip] at hm
  simp only [Option.isSome_map] at hm
  unfold textM at h hm
  split at h
  · simp only [Option.some.injEq, Prod.mk.injEq] at h
    rw [hk] at h
    simp at h
  · rename_i hneg
    rw [if_neg hneg] at hm
    split at h
    · simp only [Option.some.injEq, Prod.mk.injEq] at h
      rw [hk] at h
      simp at h
    · rename_i r hr
      rw [hr] at hm
      exact needs_go _ _ _ _ _ _ _ h pre d post hk (fun x hx => by cases hx) hnd (fun x hx y hy => hg x hx y (val_some.2 ⟨m, hy⟩)) hm

/-- What right has found of a key. -/
def PreOK (st : St) (c : Core) (d : Int) : Prop := (∀ x, st.inputs d = some x → x.2 ≤ c.at_) ∧ (st.inputs d = none → ∃ cd, st.core d = some cd ∧ cd.at_ = st.rev ∧ cd.turned ≤ c.at_)
theorem PreOK.ext {B : Int → Prop} {st st' : St} {c : Core} {d : Int} (h : PreOK st c d) (e : Ext B st st') : PreOK st' c d := by
  refine ⟨fun x hx => h.1 x (by rw [← e.inputs]; exact hx), fun hn => ?_⟩
  rw [e.inputs] at hn
  obtain ⟨cd, h1, h2, h3⟩ := h.2 hn
  obtain ⟨cd', h4, h5⟩ := e.keep d cd h1
  rcases h5 with rfl | ⟨_, h6, _⟩
  · exact ⟨cd', h4, by rw [e.rev]; exact h2, h3⟩
  · exact absurd h2 h6
theorem PreOK.val {rs : List Rule} {st : St} (hB : InvB rs st) {c : Core} {d : Int} {t : ByteArray} (h : PreOK st c d) (hd : DepOK st c d t) : val rs st.inp d = some t ∧ Good rs st d := by
  cases hin : st.inputs d with
  | some x =>
    have := hd.1 x hin (h.1 x hin)
    exact ⟨by rw [← this]; exact val_in (by unfold St.inp; rw [hin]; rfl), Good.of_in hin⟩
  | none =>
    obtain ⟨cd, h1, h2, h3⟩ := h.2 hin
    obtain ⟨cd', h4, h5, h6⟩ := hd.2 hin
    rw [h1] at h4
    obtain rfl := Option.some.inj h4
    obtain ⟨s', h7, h8⟩ := (hB.cel d cd h1).now h2
    rw [h6 h3] at h7
    obtain rfl := Option.some.inj h7
    exact ⟨h8, ⟨t, h8, fun _ => ⟨cd, h1, h2, h6 h3⟩⟩⟩

theorem InvX.setCell {Ul : List Int} {X : Int → Prop} {st : St} (h : InvX Ul X st) {k : Int} {c c' : Cell} (hk : st.cells k = some c) (hh : c'.has = c.has) (hs : c'.s = c.s) (hd : c'.digest = c.digest) : InvX Ul X (st.setCell k c') := by
  have hcs : ∀ x, x ≠ k → (st.setCell k c').cells x = st.cells x := fun x e => by
    show setF st.cells k _ x = _
    unfold setF
    rw [if_neg e]
  have hck : (st.setCell k c').cells k = some c' := by
    show setF st.cells k _ k = _
    unfold setF
    rw [if_pos rfl]
  refine ⟨h.und, fun x => ?_, fun x cx hx hhx hX => ?_, ?_, h.le1, h.le2, ?_, fun x hx => ?_, h.wset, h.few⟩
  · show x ∈ st.used ↔ _
    rw [h.umem x]
    by_cases e : x = k
    · subst e; rw [hck, hk]; simp [hh]
    · rw [hcs x e]
  · by_cases e : x = k
    · subst e
      rw [hck] at hx
      obtain rfl := Option.some.inj hx
      have := h.utext x c hk (by rw [← hh]; exact hhx) hX
      show st.words[((coreOf c').digest - 1).toNat]? = some c'.s
      rw [show (coreOf c').digest = c.digest from hd, hs]
      exact this
    · rw [hcs x e] at hx
      exact h.utext x cx hx hhx hX
  · show st.charged = tot (st.setCell k c').cells st.used
    rw [h.sum]
    refine tot_same (fun x hx => ?_)
    by_cases e : x = k
    · subst e; rw [hck, hk]; exact hs.symm
    · rw [hcs x e]
  · obtain ⟨ks, h1, h2, h3⟩ := h.ncs
    refine ⟨ks, h1, fun x => ?_, h3⟩
    rw [h2 x]
    by_cases e : x = k
    · subst e; rw [hck, hk]; simp
    · rw [hcs x e]
  · by_cases e : x = k
    · subst e; exact h.cul x (by rw [hk]; rfl)
    · rw [hcs x e] at hx; exact h.cul x hx

/-- What right leaves. -/
def RightR (rs : List Rule) (Ul : List Int) (st : St) (k : Int) (c : Core) (st' : St) (b : Bool) : Prop :=
  InvA Ul st' ∧ InvB rs st' ∧ Ext (fun u => st.busy u = true ∧ u ≠ k) st st' ∧ st'.budget = st.budget ∧ (b = true → st'.cycle = false ∧ ∃ c', st'.core k = some c' ∧ c'.at_ = st.rev ∧ c'.turned = c.turned ∧ c'.digest = c.digest) ∧ (st'.cycle = true → val rs st.inp k = none) ∧
  (b = false → st'.core k = some c)

theorem rightGo_good {rs : List Rule} {Ul : List Int} (hU : Keys rs Ul) {m : Nat} {turned : St → Int → Option (St × Int)} (ht : TurnSpec rs Ul m turned) (k : Int) (c : Core) :
    ∀ (rest pre : List Int) (st : St), c.asked = pre ++ rest → InvA Ul st → InvB rs st → st.core k = some c → c.at_ ≠ st.rev → st.busy k = true → st.cycle = false → (inR rs k → free rs st < m) → (∀ d ∈ pre, PreOK st c d) →
    (∀ u, st.busy u = true → u ≠ k → ∀ n, (evalM rs n st.inp u).isSome = true → ∃ m, m < n ∧ (evalM rs m st.inp k).isSome = true) →
    ∃ st' b, rightGo turned k rest st = some (st', b) ∧ RightR rs Ul st k c st' b := by
  intro rest
  induction rest with
  | nil =>
    intro pre st hpre hA hB hc hne hb hcy hf hP hQ
    rw [List.append_nil] at hpre
    obtain ⟨cell, hcell, rfl⟩ : ∃ c0, st.cells k = some c0 ∧ coreOf c0 = c := by
      unfold St.core at hc
      simpa [Option.map_eq_some_iff] using hc
    have hok := hB.cel k _ hc
    obtain ⟨ans, s, h1, h2, h3⟩ := hok.trace
    have hv : ∀ d ∈ (coreOf cell).asked, ans d = val rs st.inp d ∧ Good rs st d := by
      intro d hd
      obtain ⟨t, ht1, ht2⟩ := h3 d hd
      have := (hP d (by rw [← hpre]; exact hd)).val hB ht2
      exact ⟨by rw [ht1, this.1], this.2⟩
    have htx := textM_congr h2 (fun d hd => (hv d hd).1)
    have hval : val rs st.inp k = some s := val_of_text (by unfold St.inp; rw [hok.apart]; rfl) (textM_rep htx)
    unfold rightGo
    rw [hcell]
    simp only
    have hcore : ∀ x, x ≠ k → (st.setCell k { cell with at_ := st.rev }).core x = st.core x := fun x e => by
      unfold St.core St.setCell setF
      simp [e]
    have hself : (st.setCell k { cell with at_ := st.rev }).core k = some { coreOf cell with at_ := st.rev } := by
      unfold St.core St.setCell setF coreOf
      simp
    have hE : Ext (fun u => st.busy u = true ∧ u ≠ k) st (st.setCell k { cell with at_ := st.rev }) := by
      refine ⟨rfl, rfl, rfl, ⟨[], by simp [St.setCell]⟩, id, fun x cx hx => ?_, fun x hx hb' => ?_, Int.le_refl _, Int.le_refl _⟩
      · by_cases e : x = k
        · subst e
          rw [hc] at hx
          obtain rfl := Option.some.inj hx
          exact ⟨_, hself, .inr ⟨rfl, hne, fun h => h.2 rfl, fun _ => rfl, fun h => absurd rfl h⟩⟩
        · exact ⟨cx, by rw [hcore x e]; exact hx, .inl rfl⟩
      · rw [hcore x hb'.2]; exact hx
    have hA' := hA.setCell (c' := { cell with at_ := st.rev }) hcell rfl rfl rfl
    have hB' : InvB rs (st.setCell k { cell with at_ := st.rev }) := by
      refine hB.ext hE hB.wnd (fun x cx hx hnx => ?_)
      by_cases e : x = k
      · subst e
        rw [hself] at hx
        obtain rfl := Option.some.inj hx
        refine ⟨hok.apart, Int.le_refl _, ?_, hok.dig, ⟨val rs st.inp, s, h1, htx, fun y hy => ?_⟩, fun _ => ⟨s, h1, by rw [hE.inp]; exact hval⟩⟩
        · have := hok.turned_le
          have := hok.at_le
          show (coreOf cell).turned ≤ st.rev
          omega
        · obtain ⟨t, q1, q2⟩ := (hv y hy).2
          refine ⟨t, q1, fun z hz _ => ?_, fun hn => ?_⟩
          · have : val rs st.inp y = some z.1 := val_in (by unfold St.inp; rw [show st.inputs y = some z from hz]; rfl)
            rw [this] at q1
            exact Option.some.inj q1
          · obtain ⟨cd, q3, q4, q5⟩ := q2 hn
            obtain ⟨cd', q6, q7⟩ := hE.keep y cd q3
            rcases q7 with rfl | ⟨_, q8, _⟩
            · exact ⟨cd', q6, by show st.rev ≤ cd'.at_; omega, fun _ => hE.text q5⟩
            · exact absurd q4 q8
      · rw [hcore x e] at hx
        exact absurd hx hnx
    exact ⟨_, true, rfl, hA', hB', hE, rfl, fun _ => ⟨hcy, _, hself, rfl, rfl, rfl⟩, (fun h => by rw [show (st.setCell k { cell with at_ := st.rev }).cycle = st.cycle from rfl, hcy] at h; cases h), fun h => by cases h⟩
  | cons d r ih =>
    intro pre st hpre hA hB hc hne hb hcy hf hP hQ
    have hok := hB.cel k c hc
    obtain ⟨ans, s, h1, h2, h3⟩ := hok.trace
    obtain ⟨hnd, hul, hin⟩ := textM_list hU h2
    have hdm : d ∈ c.asked := by rw [hpre]; simp
    have hf' := hf (hin (fun h => by rw [h] at hdm; cases hdm))
    have hdp : d ∉ pre := fun h => by
      rw [hpre] at hnd
      exact (List.nodup_append.1 hnd).2.2 d h d List.mem_cons_self rfl
    have hip : st.inp k = none := by unfold St.inp; rw [hok.apart]; rfl
    have need : ∀ m, (evalM rs (m + 1) st.inp k).isSome = true → (evalM rs m st.inp d).isSome = true := fun m hm =>
      needs_next hip h2 hpre hdp (fun x hx y hy => by
        obtain ⟨t, ht1, ht2⟩ := h3 x (by rw [hpre]; exact List.mem_append_left _ hx)
        have := ((hP x hx).val hB ht2).1
        rw [this] at hy
        rw [ht1, hy]) hm
    have hQd : QB rs st d := by
      intro u hu n hn
      by_cases e : u = k
      · subst e
        cases n with
        | zero => cases hn
        | succ n => exact ⟨n, Nat.lt_succ_self n, need n hn⟩
      · obtain ⟨m', hm', hk'⟩ := hQ u hu e n hn
        cases m' with
        | zero => cases hk'
        | succ m' => exact ⟨m', by omega, need m' hk'⟩
    obtain ⟨st1, t, a1, a2, a3, a4, a5, a6, a7⟩ := ht st d hA hB (hul d hdm) hf' hcy hQd
    obtain ⟨c1, b1, b2⟩ := a4.keep k c hc
    have hc1 : st1.core k = some c := by
      rcases b2 with rfl | ⟨_, _, h, _⟩
      · exact b1
      · exact absurd hb h
    have hW : Ext (fun u => st.busy u = true ∧ u ≠ k) st st1 := a4.weaken (fun u hu => hu.1)
    unfold rightGo
    rw [a1]
    simp only
    cases hcy1 : st1.cycle with
    | true =>
      rw [if_pos rfl]
      refine ⟨st1, false, rfl, a2, a3, hW, a5, (fun h => by cases h), fun _ => ?_, fun _ => hc1⟩
      have hv := a7 hcy1
      refine val_none (fun n => ?_)
      cases n with
      | zero => rfl
      | succ n =>
        cases hk : evalM rs (n + 1) st.inp k with
        | none => rfl
        | some z =>
          obtain ⟨y, hy⟩ := Option.isSome_iff_exists.1 (need n (by rw [hk]; rfl))
          rw [val_some.2 ⟨n, hy⟩] at hv
          cases hv
    | false =>
      rw [if_neg (by simp)]
      obtain ⟨cell, hcell, hcc⟩ : ∃ c0, st1.cells k = some c0 ∧ coreOf c0 = c := by
        unfold St.core at hc1
        simpa [Option.map_eq_some_iff] using hc1
      rw [hcell]
      simp only
      have hatc : cell.at_ = c.at_ := by rw [← hcc]; rfl
      by_cases hlt : cell.at_ < t
      · rw [if_pos hlt]
        exact ⟨st1, false, rfl, a2, a3, hW, a5, (fun h => by cases h), (fun h => by rw [hcy1] at h; cases h), fun _ => hc1⟩
      · rw [if_neg hlt]
        obtain ⟨q1, q2⟩ := a6 hcy1
        have hPd : PreOK st1 c d := by
          refine ⟨fun x hx => ?_, fun hn => ?_⟩
          · rw [a4.inputs] at hx
            have := q1 x hx
            omega
          · rw [a4.inputs] at hn
            obtain ⟨cd, q3, q4, q5⟩ := q2 hn
            exact ⟨cd, q3, by rw [a4.rev]; exact q4, by omega⟩
        obtain ⟨st', b, e1, e2, e3, e4, e5, e6, e7, e8⟩ := ih (pre ++ [d]) st1 (by rw [hpre, List.append_assoc]; rfl) a2 a3 hc1 (by rw [a4.rev]; exact hne) (by rw [a4.busy]; exact hb) hcy1 (by rw [free_busy a4.busy]; exact hf) (fun x hx => by
          rcases List.mem_append.1 hx with hx | hx
          · exact (hP x hx).ext a4
          · rw [List.mem_singleton.1 hx]; exact hPd) (by rw [a4.busy, a4.inp]; exact hQ)
        refine ⟨st', b, e1, e2, e3, hW.trans (by rw [a4.busy] at e4; exact e4), e5.trans a5, fun h => ?_, fun h => ?_, e8⟩
        · obtain ⟨f1, c', f2, f3, f4, f5⟩ := e6 h
          exact ⟨f1, c', f2, by rw [f3, a4.rev], f4, f5⟩
        · have := e7 h
          rw [a4.inp] at this
          exact this
end Go.Proofs.Ytfkedhclhmbpfaa
end

section
namespace Go.Proofs.Ytfkedhclhmbpfaa
set_option linter.unusedVariables false
set_option linter.unusedSimpArgs false

theorem qb_self {rs : List Rule} {st : St} {k : Int} (h : QB rs st k) (hb : st.busy k = true) : val rs st.inp k = none := by
  refine val_none (fun n => ?_)
  induction n using Nat.strongRecOn with
  | _ n ih =>
    cases hk : evalM rs n st.inp k with
    | none => rfl
    | some z =>
      obtain ⟨m, hm, hs⟩ := h k hb n (by rw [hk]; rfl)
      rw [ih m hm] at hs
      cases hs
theorem free_less {rs : List Rule} {st : St} {k : Int} (hk : inR rs k) (hb : st.busy k = false) : free rs { st with busy := setF st.busy k true } < free rs st := by
  unfold free
  have key : ∀ (n : Nat), k < n → 0 ≤ k → ((List.range n).filter fun (i : Nat) => !(setF st.busy k true) (i : Int)).length + 1 ≤ ((List.range n).filter fun (i : Nat) => !st.busy (i : Int)).length := by
    have le : ∀ l : List Nat, (l.filter fun (i : Nat) => !(setF st.busy k true) (i : Int)).length ≤ (l.filter fun (i : Nat) => !st.busy (i : Int)).length := by
      intro l
      induction l with
      | nil => exact Nat.le_refl _
      | cons x r ih =>
        by_cases e : (x : Int) = k
        · rw [List.filter_cons_of_neg (by unfold setF; simp [e]), List.filter_cons_of_pos (by rw [e, hb]; rfl)]
          simp only [List.length_cons]; omega
        · have : setF st.busy k true (x : Int) = st.busy (x : Int) := by unfold setF; rw [if_neg e]
          by_cases hx : st.busy (x : Int) = true
          · rw [List.filter_cons_of_neg (by rw [this, hx]; simp), List.filter_cons_of_neg (by rw [hx]; simp)]
            exact ih
          · rw [List.filter_cons_of_pos (by rw [this]; simpa using hx), List.filter_cons_of_pos (by simpa using hx)]
            simp only [List.length_cons]; omega
    have strict : ∀ l : List Nat, k.toNat ∈ l → 0 ≤ k → (l.filter fun (i : Nat) => !(setF st.busy k true) (i : Int)).length + 1 ≤ (l.filter fun (i : Nat) => !st.busy (i : Int)).length := by
      intro l
      induction l with
      | nil => intro h; cases h
      | cons x r ih =>
        intro h h0
        by_cases e : (x : Int) = k
        · rw [List.filter_cons_of_neg (by unfold setF; simp [e]), List.filter_cons_of_pos (by rw [e, hb]; rfl)]
          have := le r
          simp only [List.length_cons]; omega
        · have hr : k.toNat ∈ r := by
            rcases List.mem_cons.1 h with h | h
            · omega
            · exact h
          have := ih hr h0
          have hs : setF st.busy k true (x : Int) = st.busy (x : Int) := by unfold setF; rw [if_neg e]
          by_cases hx : st.busy (x : Int) = true
          · rw [List.filter_cons_of_neg (by rw [hs, hx]; simp), List.filter_cons_of_neg (by rw [hx]; simp)]
            exact this
          · rw [List.filter_cons_of_pos (by rw [hs]; simpa using hx), List.filter_cons_of_pos (by simpa using hx)]
            simp only [List.length_cons]; omega
    intro n hn h0
    exact strict _ (List.mem_range.2 (by omega)) h0
  have := key rs.length hk.2 hk.1
  show ((List.range rs.length).filter fun (i : Nat) => !(setF st.busy k true) (i : Int)).length < _
  omega

/-- States that differ in what is under way, in the cycle's mark, in counts, are alike as to what is kept. -/
theorem InvX.alike {Ul : List Int} {X : Int → Prop} {st st' : St} (h : InvX Ul X st) (h1 : st'.used = st.used) (h2 : st'.cells = st.cells) (h3 : st'.words = st.words) (h4 : st'.charged = st.charged) (h5 : st'.budget = st.budget) (h6 : st'.high = st.high) (h7 : st'.nc = st.nc) : InvX Ul X st' := by
  obtain ⟨a1, a2, a3, a4, a5, a6, a7, a8, a9, a10⟩ := h
  refine ⟨by rw [h1]; exact a1, by rw [h1, h2]; exact a2, fun k c hk hh hX => ?_, by rw [h4, h2, h1]; exact a4, by rw [h4, h5]; exact a5, by rw [h4, h6]; exact a6, by rw [h2, h7]; exact a7, by rw [h2]; exact a8, by rw [h3]; exact a9, a10⟩
  rw [h2] at hk
  have := a3 k c hk hh hX
  unfold St.text at this ⊢
  rw [h3]
  exact this
theorem InvB.alike {rs : List Rule} {st st' : St} (h : InvB rs st) (h1 : st'.rev = st.rev) (h2 : st'.inputs = st.inputs) (h3 : st'.words = st.words) (h4 : st'.cells = st.cells) : InvB rs st' := by
  have hcore : ∀ k, st'.core k = st.core k := fun k => by unfold St.core; rw [h4]
  have htext : ∀ c, st'.text c = st.text c := fun c => by unfold St.text; rw [h3]
  have hinp : st'.inp = st.inp := by unfold St.inp; rw [h2]
  refine ⟨fun k c hk => ?_, fun k x hx => ?_, by rw [h3]; exact h.wnd⟩
  · rw [hcore] at hk
    obtain ⟨a1, a2, a3, a4, ⟨ans, s, b1, b2, b3⟩, a6⟩ := h.cel k c hk
    refine ⟨by rw [h2]; exact a1, by rw [h1]; exact a2, a3, a4, ⟨ans, s, by rw [htext]; exact b1, b2, fun d hd => ?_⟩, fun hh => ?_⟩
    · obtain ⟨t, c1, c2, c3⟩ := b3 d hd
      refine ⟨t, c1, fun x hx => c2 x (by rw [← h2]; exact hx), fun hn => ?_⟩
      rw [h2] at hn
      obtain ⟨cd, e1, e2, e3⟩ := c3 hn
      exact ⟨cd, by rw [hcore]; exact e1, e2, fun hh => by rw [htext]; exact e3 hh⟩
    · rw [h1] at hh
      obtain ⟨s', d1, d2⟩ := a6 hh
      exact ⟨s', by rw [htext]; exact d1, by rw [hinp]; exact d2⟩
  · rw [h1]
    rw [h2] at hx
    exact h.inl k x hx

theorem setF_busy {f : Int → Bool} {k : Int} (hb : f k = false) : setF (setF f k true) k false = f := by
  funext x
  unfold setF
  by_cases e : x = k
  · subst e; simp [hb]
  · simp [e]
theorem setF_busy2 {f g : Int → Bool} {k : Int} (hg : g = setF f k true) (hb : f k = false) : setF g k false = f := by rw [hg]; exact setF_busy hb

/-- Something is done while a key is under way. -/
theorem under_good {rs : List Rule} {Ul : List Int} {α : Type} {st : St} {k : Int} (no : α) (body : St → Option (St × α)) (hA : InvA Ul st) (hB : InvB rs st) (hb : st.busy k = false)
    (P : St → α → Prop)
    (h : InvA Ul { st with busy := setF st.busy k true } → InvB rs { st with busy := setF st.busy k true } → ∃ st1 a, body { st with busy := setF st.busy k true } = some (st1, a) ∧ InvA Ul st1 ∧ InvB rs st1 ∧ Ext (fun u => setF st.busy k true u = true ∧ u ≠ k) { st with busy := setF st.busy k true } st1 ∧ st1.budget = st.budget ∧ P { st1 with busy := st.busy } a) :
    ∃ st' a, underM st k no body = some (st', a) ∧ InvA Ul st' ∧ InvB rs st' ∧ Ext (fun u => st.busy u = true) st st' ∧ st'.budget = st.budget ∧ P st' a := by
  unfold underM
  rw [if_neg (by rw [hb]; simp)]
  obtain ⟨st1, a, h1, h2, h3, h4, h5, h6⟩ := h (hA.alike rfl rfl rfl rfl rfl rfl rfl) (hB.alike rfl rfl rfl rfl)
  rw [h1]
  simp only
  have hbz : setF st1.busy k false = st.busy := setF_busy2 h4.busy hb
  rw [hbz]
  refine ⟨_, a, rfl, h2.alike rfl rfl rfl rfl rfl rfl rfl, h3.alike rfl rfl rfl rfl, ?_, h5, h6⟩
  refine ⟨h4.rev, h4.inputs, rfl, h4.words, h4.cyc, fun x c hx => ?_, fun x hx hxb => ?_, h4.steps, h4.checks⟩
  · obtain ⟨c', h7, h8⟩ := h4.keep x c hx
    refine ⟨c', h7, ?_⟩
    rcases h8 with h8 | ⟨e1, e2, e3, e4, e5⟩
    · exact .inl h8
    · refine .inr ⟨e1, e2, fun hh => e3 ⟨?_, ?_⟩, e4, e5⟩
      · unfold setF; split <;> simp [hh]
      · rintro rfl; rw [hb] at hh; cases hh
  · refine h4.fresh x hx ⟨?_, ?_⟩
    · unfold setF; split <;> simp [hxb]
    · rintro rfl; rw [hb] at hxb; cases hxb
/-- A key that is under way is asked for. -/
theorem under_cycle {rs : List Rule} {Ul : List Int} {α : Type} {st : St} {k : Int} (no : α) (body : St → Option (St × α)) (hA : InvA Ul st) (hB : InvB rs st) (hb : st.busy k = true) :
    underM st k no body = some ({ st with cycle := true }, no) ∧ InvA Ul { st with cycle := true } ∧ InvB rs { st with cycle := true } ∧ Ext (fun u => st.busy u = true) st { st with cycle := true } := by
  unfold underM
  rw [if_pos hb]
  exact ⟨rfl, hA.alike rfl rfl rfl rfl rfl rfl rfl, hB.alike rfl rfl rfl rfl, rfl, rfl, rfl, ⟨[], by simp⟩, fun _ => rfl, fun x c hx => ⟨c, hx, .inl rfl⟩, fun x hx _ => hx, Int.le_refl _, Int.le_refl _⟩

/-- The keys above k, k itself put aside. -/
theorem qb_up {rs : List Rule} {st : St} {k : Int} (h : QB rs st k) : ∀ u, setF st.busy k true u = true → u ≠ k → ∀ n, (evalM rs n st.inp u).isSome = true → ∃ m, m < n ∧ (evalM rs m st.inp k).isSome = true := by
  intro u hu hne
  unfold setF at hu
  rw [if_neg hne] at hu
  exact h u hu

theorem right_good {rs : List Rule} {Ul : List Int} (hU : Keys rs Ul) {m : Nat} {turned : St → Int → Option (St × Int)} (ht : TurnSpec rs Ul m turned) {st : St} {k : Int} {c : Core} (hA : InvA Ul st) (hB : InvB rs st) (hc : st.core k = some c) (hne : c.at_ ≠ st.rev) (hb : st.busy k = true) (hcy : st.cycle = false) (hf : inR rs k → free rs st < m)
    (hQ : ∀ u, st.busy u = true → u ≠ k → ∀ n, (evalM rs n st.inp u).isSome = true → ∃ m, m < n ∧ (evalM rs m st.inp k).isSome = true) :
    ∃ st' b, rightM turned k st = some (st', b) ∧ RightR rs Ul st k c st' b := by
  obtain ⟨cell, hcell, rfl⟩ : ∃ c0, st.cells k = some c0 ∧ coreOf c0 = c := by
    unfold St.core at hc
    simpa [Option.map_eq_some_iff] using hc
  unfold rightM
  rw [hcell]
  simp only
  have hA' : InvA Ul { st with checks := st.checks + 1 } := hA.alike rfl rfl rfl rfl rfl rfl rfl
  have hB' : InvB rs { st with checks := st.checks + 1 } := hB.alike rfl rfl rfl rfl
  obtain ⟨st', b, h1, h2, h3, h4, h5, h6, h7, h8⟩ := rightGo_good hU ht k (coreOf cell) cell.asked [] { st with checks := st.checks + 1 } rfl hA' hB' hc hne hb hcy hf (fun d hd => by cases hd) hQ
  refine ⟨st', b, h1, h2, h3, ⟨h4.rev, h4.inputs, h4.busy, h4.words, h4.cyc, h4.keep, h4.fresh, h4.steps, ?_⟩, h5, h6, h7, h8⟩
  have := h4.checks
  simp only at this
  omega

theorem turned_spec {rs : List Rule} {Ul : List Int} (hU : Keys rs Ul) {m : Nat} {ask : St → Int → Option (St × ByteArray)} {turned : St → Int → Option (St × Int)} (ha : AskSpec rs Ul m ask) (ht : TurnSpec rs Ul m turned) :
    TurnSpec rs Ul (m + 1) (fun st k => match st.inputs k with
      | some x => some (st, x.2)
      | none => match underM st k () (turnedIn (stepM rs ask) turned k) with
        | none => none
        | some (st1, _) => some (st1, match st1.cells k with | none => 0 | some c => c.turned)) := by
  intro st k hA hB hk hf hcy hQ
  simp only
  cases hin : st.inputs k with
  | some x => exact ⟨st, x.2, rfl, hA, hB, Ext.refl _ _, rfl, fun _ => ⟨fun y hy => by rw [← Option.some.inj hy], fun h => by cases h⟩, fun h => by rw [hcy] at h; cases h⟩
  | none =>
    simp only
    have hip : st.inp k = none := by unfold St.inp; rw [hin]; rfl
    cases hb : st.busy k with
    | true =>
      obtain ⟨h1, h2, h3, h4⟩ := under_cycle (rs := rs) (Ul := Ul) () (turnedIn (stepM rs ask) turned k) hA hB hb
      rw [h1]
      exact ⟨_, _, rfl, h2, h3, h4, rfl, (fun h => by cases h), fun _ => qb_self hQ hb⟩
    | false =>
      have main := under_good (rs := rs) (Ul := Ul) () (turnedIn (stepM rs ask) turned k) hA hB hb (fun st' _ => (st'.cycle = false → ∃ c, st'.core k = some c ∧ c.at_ = st.rev) ∧ (st'.cycle = true → val rs st.inp k = none)) (by
        intro hA1 hB1
        have hf1 : inR rs k → free rs { st with busy := setF st.busy k true } < m := fun hr => by
          have := free_less hr hb
          omega
        have hb1 : setF st.busy k true k = true := by unfold setF; simp
        have hstep : ∀ st1, InvA Ul st1 → InvB rs st1 → Ext (fun u => setF st.busy k true u = true ∧ u ≠ k) { st with busy := setF st.busy k true } st1 → st1.cycle = false → ∃ st2 s, stepM rs ask st1 k = some (st2, s) ∧ InvA Ul st2 ∧ InvB rs st2 ∧ Ext (fun u => setF st.busy k true u = true ∧ u ≠ k) { st with busy := setF st.busy k true } st2 ∧ st2.budget = st1.budget ∧ (st2.cycle = false → val rs st.inp k = some s ∧ ∃ c, st2.core k = some c ∧ c.at_ = st.rev) ∧ (st2.cycle = true → val rs st.inp k = none) := by
          intro st1 q1 q2 q3 q4
          obtain ⟨st2, s, a1, a2, a3, a4, a5, a6, a7⟩ := step_good hU ha q1 q2 hk (by rw [q3.inputs]; exact hin) (by rw [q3.busy]; exact hb1) q4 (fun hr => by rw [free_busy q3.busy]; exact hf1 hr) (by rw [q3.busy, q3.inp]; exact qb_up hQ)
          rw [q3.busy] at a4
          rw [q3.inp] at a6 a7
          refine ⟨st2, s, a1, a2, a3, q3.trans a4, a5, fun h => ⟨(a6 h).1, ?_⟩, a7⟩
          obtain ⟨_, c, b1, b2, _⟩ := a6 h
          exact ⟨c, b1, by rw [b2, q3.rev]⟩
        unfold turnedIn
        have hce : ({ st with busy := setF st.busy k true } : St).cells k = st.cells k := rfl
        cases hc : st.cells k with
        | none =>
          simp only
          rw [if_neg (by rw [show ({ st with busy := setF st.busy k true } : St).cycle = st.cycle from rfl, hcy]; simp)]
          obtain ⟨st2, s, a1, a2, a3, a4, a5, a6, a7⟩ := hstep _ hA1 hB1 (Ext.refl _ _) hcy
          rw [a1]
          exact ⟨st2, (), rfl, a2, a3, a4, a5, fun h => (a6 h).2, a7⟩
        | some c =>
          simp only
          have hcore : ({ st with busy := setF st.busy k true } : St).core k = some (coreOf c) := by
            show (st.cells k).map coreOf = _
            rw [hc]; rfl
          by_cases hat : c.at_ = st.rev
          · rw [if_pos hat]
            exact ⟨_, (), rfl, hA1, hB1, Ext.refl _ _, rfl, fun _ => ⟨coreOf c, hcore, hat⟩, (fun h => by rw [show ({ ({ st with busy := setF st.busy k true } : St) with busy := st.busy } : St).cycle = st.cycle from rfl, hcy] at h; cases h)⟩
          · rw [if_neg hat]
            obtain ⟨st1, b, r1, r2, r3, r4, r5, r6, r7, r8⟩ := right_good hU ht hA1 hB1 hcore hat hb1 hcy hf1 (qb_up hQ)
            rw [r1]
            cases b with
            | true =>
              simp only
              obtain ⟨e1, c', e2, e3, e4⟩ := r6 rfl
              exact ⟨st1, (), rfl, r2, r3, r4, r5, fun _ => ⟨c', e2, e3⟩, (fun h => by rw [show ({ st1 with busy := st.busy } : St).cycle = st1.cycle from rfl, e1] at h; cases h)⟩
            | false =>
              simp only
              cases hc1 : st1.cycle with
              | true =>
                rw [if_pos rfl]
                exact ⟨st1, (), rfl, r2, r3, r4, r5, (fun h => by rw [show ({ st1 with busy := st.busy } : St).cycle = st1.cycle from rfl, hc1] at h; cases h), fun _ => r7 hc1⟩
              | false =>
                rw [if_neg (by simp)]
                obtain ⟨st2, s, a1, a2, a3, a4, a5, a6, a7⟩ := hstep st1 r2 r3 r4 hc1
                rw [a1]
                exact ⟨st2, (), rfl, a2, a3, a4, a5.trans r5, fun h => (a6 h).2, a7⟩)
      obtain ⟨st', u, h1, h2, h3, h4, h5, h6, h7⟩ := main
      rw [h1]
      refine ⟨st', _, rfl, h2, h3, h4, h5, fun hc => ⟨(fun x hx => by cases hx), fun _ => ?_⟩, h7⟩
      obtain ⟨c, e1, e2⟩ := h6 hc
      obtain ⟨cell, hcell, rfl⟩ : ∃ c0, st'.cells k = some c0 ∧ coreOf c0 = c := by
        unfold St.core at e1
        simpa [Option.map_eq_some_iff] using e1
      exact ⟨coreOf cell, e1, e2, by rw [hcell]; rfl⟩

theorem cell_of_core {st : St} {k : Int} {c : Core} (h : st.core k = some c) : ∃ c0, st.cells k = some c0 ∧ coreOf c0 = c := by
  unfold St.core at h
  simpa [Option.map_eq_some_iff] using h
theorem core_of_cell {st : St} {k : Int} {c : Cell} (h : st.cells k = some c) : st.core k = some (coreOf c) := by
  unfold St.core
  rw [h]; rfl

/-- A value that is there, of a cell that is at the revision. -/
theorem have_good {rs : List Rule} {Ul : List Int} {st : St} {k : Int} {c : Cell} (hA : InvA Ul st) (hB : InvB rs st) (hc : st.cells k = some c) (hh : c.has = true) (hat : c.at_ = st.rev) :
    ∃ st', useM st k = some st' ∧ InvA Ul st' ∧ InvB rs st' ∧ Same st st' ∧ st'.budget = st.budget ∧ val rs st.inp k = some c.s ∧ st'.core k = some (coreOf c) ∧ st'.text (coreOf c) = some c.s ∧ st'.hits = st.hits := by
  obtain ⟨st', h1, h2, h3, h4, h5, h6, h7, h8, h9⟩ := use_good hA ((hA.umem k).2 ⟨c, hc, hh⟩)
  have ht := hA.utext k c hc hh (fun h => h)
  obtain ⟨s, b1, b2⟩ := (hB.cel k _ (core_of_cell hc)).now hat
  rw [ht] at b1
  obtain rfl := Option.some.inj b1
  exact ⟨st', h1, h2, h3.invB hB, h3, h5, b2, by rw [h3.core]; exact core_of_cell hc, by rw [h3.text]; exact ht, h9⟩

theorem ask_spec {rs : List Rule} {Ul : List Int} (hU : Keys rs Ul) {m : Nat} {ask : St → Int → Option (St × ByteArray)} {turned : St → Int → Option (St × Int)} (ha : AskSpec rs Ul m ask) (ht : TurnSpec rs Ul m turned) :
    AskSpec rs Ul (m + 1) (fun st k => match st.inputs k with
      | some x => some (st, x.1)
      | none =>
        if st.cycle = true then some (st, noBytes)
        else if hitM st k = true then (useM { st with hits := st.hits + 1 } k).map fun st1 => (st1, ((st.cells k).getD zeroCell).s)
        else underM st k noBytes (askIn (stepM rs ask) turned k)) := by
  intro st k hA hB hk hf hQ
  simp only
  cases hin : st.inputs k with
  | some x =>
    have hv : val rs st.inp k = some x.1 := val_in (by unfold St.inp; rw [hin]; rfl)
    exact ⟨st, x.1, rfl, hA, hB, Ext.refl _ _, rfl, fun _ => ⟨hv, Good.of_in hin⟩, fun h h' => by rw [h] at h'; cases h'⟩
  | none =>
    simp only
    have hip : st.inp k = none := by unfold St.inp; rw [hin]; rfl
    rcases (show st.cycle = true ∨ st.cycle = false by cases st.cycle <;> simp) with hcy | hcy
    · rw [if_pos hcy]
      exact ⟨st, noBytes, rfl, hA, hB, Ext.refl _ _, rfl, (fun h => by rw [hcy] at h; cases h), (fun h => by rw [hcy] at h; cases h)⟩
    · rw [if_neg (by rw [hcy]; simp)]
      have hQ := hQ hcy
      by_cases hh : hitM st k = true
      · rw [if_pos hh]
        unfold hitM at hh
        cases hc : st.cells k with
        | none => rw [hc] at hh; cases hh
        | some c =>
          rw [hc] at hh
          simp only [Bool.and_eq_true, decide_eq_true_eq] at hh
          have hA' : InvA Ul { st with hits := st.hits + 1 } := hA.alike rfl rfl rfl rfl rfl rfl rfl
          have hB' : InvB rs { st with hits := st.hits + 1 } := hB.alike rfl rfl rfl rfl
          obtain ⟨st', h1, h2, h3, h4, h5, h6, h7, h8, h9⟩ := have_good (k := k) (c := c) hA' hB' hc hh.1.2 hh.1.1
          rw [h1]
          have hE0 := h4.ext (fun u => st.busy u = true)
          have hE : Ext (fun u => st.busy u = true) st st' := ⟨hE0.rev, hE0.inputs, hE0.busy, hE0.words, hE0.cyc, hE0.keep, hE0.fresh, hE0.steps, hE0.checks⟩
          refine ⟨st', c.s, rfl, h2, h3, hE, h5, fun _ => ⟨h6, c.s, by rw [hE.inp]; exact h6, fun _ => ⟨coreOf c, h7, by rw [hE.rev]; exact hh.1.1, h8⟩⟩, fun _ h => ?_⟩
          have hcc : st'.cycle = st.cycle := h4.cycle
          rw [hcc, hcy] at h
          cases h
      · rw [if_neg hh]
        cases hb : st.busy k with
        | true =>
          obtain ⟨h1, h2, h3, h4⟩ := under_cycle (rs := rs) (Ul := Ul) noBytes (askIn (stepM rs ask) turned k) hA hB hb
          rw [h1]
          exact ⟨_, _, rfl, h2, h3, h4, rfl, (fun h => by cases h), fun _ _ => qb_self hQ hb⟩
        | false =>
          have main := under_good (rs := rs) (Ul := Ul) noBytes (askIn (stepM rs ask) turned k) hA hB hb (fun st' s => (st'.cycle = false → val rs st.inp k = some s ∧ ∃ c, st'.core k = some c ∧ c.at_ = st.rev ∧ st'.text c = some s) ∧ (st'.cycle = true → val rs st.inp k = none)) (by
            intro hA1 hB1
            have hf1 : inR rs k → free rs { st with busy := setF st.busy k true } < m := fun hr => by
              have := free_less hr hb
              omega
            have hb1 : setF st.busy k true k = true := by unfold setF; simp
            have hmiss : ∀ st1, InvA Ul st1 → InvB rs st1 → Ext (fun u => setF st.busy k true u = true ∧ u ≠ k) { st with busy := setF st.busy k true } st1 → st1.budget = st.budget → (st1.cycle = true → val rs st.inp k = none) → ∃ st2 s, missIn (stepM rs ask) k st1 = some (st2, s) ∧ InvA Ul st2 ∧ InvB rs st2 ∧ Ext (fun u => setF st.busy k true u = true ∧ u ≠ k) { st with busy := setF st.busy k true } st2 ∧ st2.budget = st.budget ∧ (st2.cycle = false → val rs st.inp k = some s ∧ ∃ c, st2.core k = some c ∧ c.at_ = st.rev ∧ st2.text c = some s) ∧ (st2.cycle = true → val rs st.inp k = none) := by
              intro st1 q1 q2 q3 q4 q5
              unfold missIn
              cases hc1 : st1.cycle with
              | true =>
                rw [if_pos rfl]
                exact ⟨st1, _, rfl, q1, q2, q3, q4, (fun h => by rw [hc1] at h; cases h), fun _ => q5 hc1⟩
              | false =>
                rw [if_neg (by simp)]
                obtain ⟨st2, s, a1, a2, a3, a4, a5, a6, a7⟩ := step_good hU ha q1 q2 hk (by rw [q3.inputs]; exact hin) (by rw [q3.busy]; exact hb1) hc1 (fun hr => by rw [free_busy q3.busy]; exact hf1 hr) (by rw [q3.busy, q3.inp]; exact qb_up hQ)
                rw [q3.busy] at a4
                rw [q3.inp] at a6 a7
                refine ⟨st2, s, a1, a2, a3, q3.trans a4, a5.trans q4, fun h => ⟨(a6 h).1, ?_⟩, a7⟩
                obtain ⟨_, c, b1, b2, b3⟩ := a6 h
                exact ⟨c, b1, by rw [b2, q3.rev], b3⟩
            have hfound : ∀ st1, InvA Ul st1 → InvB rs st1 → Ext (fun u => setF st.busy k true u = true ∧ u ≠ k) { st with busy := setF st.busy k true } st1 → st1.budget = st.budget → st1.cycle = false → (∃ c, st1.core k = some c ∧ c.at_ = st.rev) → ∃ st2 s, foundIn (stepM rs ask) k st1 = some (st2, s) ∧ InvA Ul st2 ∧ InvB rs st2 ∧ Ext (fun u => setF st.busy k true u = true ∧ u ≠ k) { st with busy := setF st.busy k true } st2 ∧ st2.budget = st.budget ∧ (st2.cycle = false → val rs st.inp k = some s ∧ ∃ c, st2.core k = some c ∧ c.at_ = st.rev ∧ st2.text c = some s) ∧ (st2.cycle = true → val rs st.inp k = none) := by
              intro st1 q1 q2 q3 q4 q5 q6
              obtain ⟨c, q7, q8⟩ := q6
              obtain ⟨cell, hcell, rfl⟩ := cell_of_core q7
              unfold foundIn
              rw [hcell]
              simp only
              cases hhas : cell.has with
              | false =>
                rw [if_neg (by simp)]
                exact hmiss st1 q1 q2 q3 q4 (fun h => by rw [q5] at h; cases h)
              | true =>
                rw [if_pos rfl]
                obtain ⟨st2, h1, h2, h3, h4, h5, h6, h7, h8, h9⟩ := have_good q1 q2 hcell hhas (by rw [q3.rev]; exact q8)
                rw [h1]
                rw [q3.inp] at h6
                exact ⟨st2, cell.s, rfl, h2, h3, q3.trans (h4.ext _), h5.trans q4, fun _ => ⟨h6, coreOf cell, h7, q8, h8⟩, fun h => by rw [h4.cycle, q5] at h; cases h⟩
            have out : ∀ (e : Option (St × ByteArray)), (∃ st2 s, e = some (st2, s) ∧ InvA Ul st2 ∧ InvB rs st2 ∧ Ext (fun u => setF st.busy k true u = true ∧ u ≠ k) { st with busy := setF st.busy k true } st2 ∧ st2.budget = st.budget ∧ (st2.cycle = false → val rs st.inp k = some s ∧ ∃ c, st2.core k = some c ∧ c.at_ = st.rev ∧ st2.text c = some s) ∧ (st2.cycle = true → val rs st.inp k = none)) → ∃ st1 a, e = some (st1, a) ∧ InvA Ul st1 ∧ InvB rs st1 ∧ Ext (fun u => setF st.busy k true u = true ∧ u ≠ k) { st with busy := setF st.busy k true } st1 ∧ st1.budget = st.budget ∧ ((({ st1 with busy := st.busy } : St).cycle = false → val rs st.inp k = some a ∧ ∃ c, ({ st1 with busy := st.busy } : St).core k = some c ∧ c.at_ = st.rev ∧ ({ st1 with busy := st.busy } : St).text c = some a) ∧ (({ st1 with busy := st.busy } : St).cycle = true → val rs st.inp k = none)) := fun e h => h
            refine out _ ?_
            unfold askIn
            cases hc : st.cells k with
            | none =>
              simp only
              exact hmiss _ hA1 hB1 (Ext.refl _ _) rfl (fun h => by rw [show ({ st with busy := setF st.busy k true } : St).cycle = st.cycle from rfl, hcy] at h; cases h)
            | some c =>
              simp only
              have hcore : ({ st with busy := setF st.busy k true } : St).core k = some (coreOf c) := by
                show (st.cells k).map coreOf = _
                rw [hc]; rfl
              by_cases hat : c.at_ = st.rev
              · rw [if_pos hat]
                exact hfound _ hA1 hB1 (Ext.refl _ _) rfl hcy ⟨coreOf c, hcore, hat⟩
              · rw [if_neg hat]
                obtain ⟨st1, b, r1, r2, r3, r4, r5, r6, r7, r8⟩ := right_good hU ht hA1 hB1 hcore hat hb1 hcy hf1 (qb_up hQ)
                rw [r1]
                cases b with
                | true =>
                  simp only
                  obtain ⟨e1, c', e2, e3, e4⟩ := r6 rfl
                  exact hfound st1 r2 r3 r4 r5 e1 ⟨c', e2, e3⟩
                | false =>
                  simp only
                  exact hmiss st1 r2 r3 r4 r5 r7)
          obtain ⟨st', s, h1, h2, h3, h4, h5, h6, h7⟩ := main
          rw [h1]
          refine ⟨st', s, rfl, h2, h3, h4, h5, fun hc => ?_, fun _ => h7⟩
          obtain ⟨e0, c, e1, e2, e3⟩ := h6 hc
          exact ⟨e0, s, by rw [h4.inp]; exact e0, fun _ => ⟨c, e1, by rw [h4.rev]; exact e2, e3⟩⟩

/-- Both, to any depth. -/
theorem both_spec {rs : List Rule} {Ul : List Int} (hU : Keys rs Ul) : ∀ n, AskSpec rs Ul n (askM rs n) ∧ TurnSpec rs Ul n (turnedM rs n) := by
  intro n
  induction n with
  | zero => exact ⟨fun st k _ _ _ hf => absurd hf (Nat.not_lt_zero _), fun st k _ _ _ hf => absurd hf (Nat.not_lt_zero _)⟩
  | succ n ih =>
    refine ⟨?_, ?_⟩
    · have h := ask_spec hU ih.1 ih.2
      intro st k
      have := h st k
      unfold askM
      exact this
    · have h := turned_spec hU ih.1 ih.2
      intro st k
      have := h st k
      unfold turnedM
      exact this
end Go.Proofs.Ytfkedhclhmbpfaa
end

section
namespace Go.Proofs.Ytfkedhclhmbpfaa
set_option linter.unusedVariables false
set_option linter.unusedSimpArgs false

/-- An engine between calls. -/
structure Fine (rs : List Rule) (Ul : List Int) (st : St) : Prop where
  a : InvA Ul st
  b : InvB rs st
  idle : ∀ k, st.busy k = false

theorem new_fine {rs : List Rule} {Ul : List Int} (hl : Ul.length ≤ 90000) {n : Int} (hn : 0 ≤ n) : Fine rs Ul (newM n) :=
  ⟨⟨List.nodup_nil, fun k => ⟨(fun h => by cases h), fun ⟨c, h, _⟩ => by cases h⟩, (fun k c h => by cases h), rfl, hn, Int.le_refl _, ⟨[], List.nodup_nil, fun k => ⟨(fun h => by cases h), (fun h => by cases h)⟩, rfl⟩, (fun k h => by cases h), (fun s h => by cases h), hl⟩,
    ⟨(fun k c h => by cases h), (fun k x h => by cases h), List.nodup_nil⟩, fun _ => rfl⟩

theorem free_le (rs : List Rule) (st : St) : free rs st ≤ rs.length := by
  unfold free
  have := List.length_filter_le (fun (i : Nat) => !st.busy (i : Int)) (List.range rs.length)
  rw [List.length_range] at this
  exact this

/-- Ask. -/
theorem top_ask {rs : List Rule} {Ul : List Int} (hU : Keys rs Ul) {st : St} (h : Fine rs Ul st) {k : Int} (hk : k ∈ Ul) {n : Nat} (hn : rs.length < n) :
    ∃ st' s er, askTop rs n st k = some (st', s, er) ∧ Fine rs Ul st' ∧ Ext (fun _ => False) { st with cycle := false } st' ∧ st'.budget = st.budget ∧
      (er = 0 ∧ val rs st.inp k = some s ∧ Good rs st' k ∨ er = 8 ∧ s = noBytes ∧ val rs st.inp k = none) := by
  have hA : InvA Ul { st with cycle := false } := h.a.alike rfl rfl rfl rfl rfl rfl rfl
  have hB : InvB rs { st with cycle := false } := h.b.alike rfl rfl rfl rfl
  obtain ⟨st', s, h1, h2, h3, h4, h5, h6, h7⟩ := (both_spec hU n).1 { st with cycle := false } k hA hB hk (Nat.lt_of_le_of_lt (free_le rs _) hn) (fun _ u hu => by
    have : st.busy u = true := hu
    rw [h.idle u] at this
    cases this)
  unfold askTop
  rw [h1]
  simp only
  have hE : Ext (fun _ => False) { st with cycle := false } st' := h4.weaken (fun k hk => hk.elim)
  have hF : Fine rs Ul st' := ⟨h2, h3, fun x => by rw [h4.busy]; exact h.idle x⟩
  cases hc : st'.cycle with
  | true => exact ⟨st', noBytes, 8, by rw [if_pos rfl], hF, hE, h5, .inr ⟨rfl, rfl, h7 rfl hc⟩⟩
  | false => exact ⟨st', s, 0, by rw [if_neg (by simp)], hF, hE, h5, .inl ⟨rfl, (h6 hc).1, (h6 hc).2⟩⟩

/-- Set. -/
theorem top_set {rs : List Rule} {Ul : List Int} {st : St} (h : Fine rs Ul st) (k : Int) (s : ByteArray) (hr : st.rev ≤ 1000000) :
    ∃ st', setM st k s = some st' ∧ Fine rs Ul st' ∧ st'.budget = st.budget ∧ st'.steps = st.steps ∧ st'.checks = st.checks ∧ st'.hits = st.hits ∧
      (st.inp k = some s ∧ st' = st ∨ st.inp k ≠ some s ∧ st'.rev = st.rev + 1 ∧ st'.inputs = setF st.inputs k (some (s, st.rev + 1)) ∧ st'.core k = none ∧ (∀ x, x ≠ k → st'.cells x = st.cells x) ∧ st'.words = st.words) := by
  unfold setM
  by_cases hs : (st.inputs k).map (fun x => x.1) = some s
  · rw [if_pos hs]
    exact ⟨st, rfl, h, rfl, rfl, rfl, rfl, .inl ⟨hs, rfl⟩⟩
  · rw [if_neg hs]
    obtain ⟨st1, h1, h2, h3, h4, h5, h6, h7, h8, h9, h10⟩ := drop_good h.a k
    rw [h1]
    simp only
    have hB := h3.invB h.b
    rw [if_pos (by rw [h3.rev]; exact hr)]
    have hku : k ∉ st1.used := by rw [h4]; exact dropL_not_mem _ _
    have hcs : ∀ x, x ≠ k → setF st1.cells k none x = st1.cells x := fun x e => by unfold setF; rw [if_neg e]
    have hck : setF st1.cells k none k = none := by unfold setF; rw [if_pos rfl]
    refine ⟨_, rfl, ⟨⟨h2.und, fun x => ?_, fun x c hx hh hX => ?_, ?_, h2.le1, h2.le2, ?_, fun x hx => ?_, h2.wset, h2.few⟩, ⟨fun x c hx => ?_, fun x y hx => ?_, hB.wnd⟩, fun x => by rw [show ({ st1 with cells := setF st1.cells k none, nc := if (st1.cells k).isSome then st1.nc - 1 else st1.nc, rev := st1.rev + 1, inputs := setF st1.inputs k (some (s, st1.rev + 1)) } : St).busy = st1.busy from rfl, h3.busy]; exact h.idle x⟩, h5, h3.steps, h3.checks, h9,
      .inr ⟨hs, by show st1.rev + 1 = _; rw [h3.rev], by show setF st1.inputs k _ = _; rw [h3.inputs, h3.rev], by show (setF st1.cells k none k).map coreOf = none; rw [hck]; rfl, fun x e => by show setF st1.cells k none x = _; rw [hcs x e, h10 x e], h3.words⟩⟩
    · show x ∈ st1.used ↔ ∃ c, setF st1.cells k none x = some c ∧ c.has = true
      by_cases e : x = k
      · subst e
        rw [hck]
        exact ⟨fun hh => absurd hh hku, fun ⟨c, hh, _⟩ => by cases hh⟩
      · rw [hcs x e]; exact h2.umem x
    · have hx' : setF st1.cells k none x = some c := hx
      by_cases e : x = k
      · subst e; rw [hck] at hx'; cases hx'
      · rw [hcs x e] at hx'; exact h2.utext x c hx' hh hX
    · show st1.charged = tot (setF st1.cells k none) st1.used
      rw [h2.sum]
      exact tot_congr (fun x hx => (hcs x (fun e => hku (e ▸ hx))).symm)
    · obtain ⟨ks, a1, a2, a3⟩ := h2.ncs
      show ∃ ks : List Int, ks.Nodup ∧ (∀ x, x ∈ ks ↔ (setF st1.cells k none x).isSome = true) ∧ (if (st1.cells k).isSome then st1.nc - 1 else st1.nc) = ks.length
      by_cases hk : (st1.cells k).isSome = true
      · rw [if_pos hk]
        refine ⟨ks.erase k, a1.erase k, fun x => ?_, ?_⟩
        · rw [a1.mem_erase_iff]
          by_cases e : x = k
          · subst e; rw [hck]; simp
          · rw [hcs x e, a2 x]; simp [e]
        · rw [List.length_erase_of_mem ((a2 k).2 hk), a3]
      · rw [if_neg hk]
        refine ⟨ks, a1, fun x => ?_, a3⟩
        by_cases e : x = k
        · subst e; rw [hck, a2 x]; simp [hk]
        · rw [hcs x e, a2 x]
    · have hx' : (setF st1.cells k none x).isSome = true := hx
      by_cases e : x = k
      · subst e; rw [hck] at hx'; cases hx'
      · rw [hcs x e] at hx'; exact h2.cul x hx'
    · have hx' : (setF st1.cells k none x).map coreOf = some c := hx
      by_cases e : x = k
      · subst e; rw [hck] at hx'; cases hx'
      · rw [hcs x e] at hx'
        obtain ⟨a1, a2, a3, a4, ⟨ans, s', b1, b2, b3⟩, a6⟩ := hB.cel x c hx'
        refine ⟨?_, ?_, a3, a4, ⟨ans, s', b1, b2, fun d hd => ?_⟩, fun hh => ?_⟩
        · show setF st1.inputs k _ x = none
          unfold setF
          rw [if_neg e]
          exact a1
        · show c.at_ ≤ st1.rev + 1
          omega
        · obtain ⟨t, c1, c2, c3⟩ := b3 d hd
          refine ⟨t, c1, fun y hy hle => ?_, fun hn => ?_⟩
          · have hy' : setF st1.inputs k (some (s, st1.rev + 1)) d = some y := hy
            unfold setF at hy'
            split at hy'
            · obtain rfl := Option.some.inj hy'
              dsimp only at hle
              omega
            · exact c2 y hy' hle
          · have hn' : setF st1.inputs k (some (s, st1.rev + 1)) d = none := hn
            unfold setF at hn'
            split at hn'
            · cases hn'
            · rename_i hd2
              obtain ⟨cd, e1, e2, e3⟩ := c3 hn'
              refine ⟨cd, ?_, e2, e3⟩
              show (setF st1.cells k none d).map coreOf = some cd
              rw [hcs d hd2]
              exact e1
        · have hh' : c.at_ = st1.rev + 1 := hh
          omega
    · have hx' : setF st1.inputs k (some (s, st1.rev + 1)) x = some y := hx
      show y.2 ≤ st1.rev + 1
      unfold setF at hx'
      split at hx'
      · obtain rfl := Option.some.inj hx'
        exact Int.le_refl _
      · have := hB.inl x y hx'
        omega

theorem InvX.budget {Ul : List Int} {X : Int → Prop} {st : St} (h : InvX Ul X st) {n : Int} (hn : st.charged ≤ n) : InvX Ul X { st with budget := n } :=
  ⟨h.und, h.umem, h.utext, h.sum, hn, h.le2, h.ncs, h.cul, h.wset, h.few⟩

theorem budget_go {Ul : List Int} {n : Int} (hn : 0 ≤ n) : ∀ (f : Nat) (st : St), InvA Ul st → st.used.length < f → ∃ st', budgetGo f st n = some st' ∧ InvA Ul st' ∧ Same st st' ∧ st'.budget = n ∧ st'.nc = st.nc ∧ st'.hits = st.hits := by
  intro f
  induction f with
  | zero => intro st _ hf; omega
  | succ f ih =>
    intro st h hf
    unfold budgetGo
    by_cases hfit : st.charged ≤ n
    · rw [if_pos hfit]
      exact ⟨_, rfl, h.budget hfit, ⟨rfl, rfl, rfl, rfl, rfl, fun _ => rfl, rfl, rfl⟩, rfl, rfl, rfl⟩
    · rw [if_neg hfit]
      cases hl : st.used.getLast? with
      | none =>
        have : st.used = [] := List.getLast?_eq_none_iff.1 hl
        have hs := h.sum
        rw [this, tot_nil] at hs
        omega
      | some l =>
        obtain ⟨st1, h1, h2, h3, h4, h5, h6, h7, h8, h9, h10⟩ := drop_good h l
        simp only
        rw [h1]
        have hm : l ∈ st.used := List.mem_of_getLast? hl
        have hlen : st1.used.length < st.used.length := by
          rw [h4]
          have h11 := sub_len (l :: dropL st.used l) st.used (List.nodup_cons.2 ⟨dropL_not_mem _ _, dropL_nodup h.und l⟩) (fun x hx => by
            rcases List.mem_cons.1 hx with rfl | hx
            · exact hm
            · exact (dropL_mem.1 hx).1)
          simp only [List.length_cons] at h11
          omega
        obtain ⟨st', a1, a2, a3, a4, a5, a6⟩ := ih st1 h2 (by omega)
        exact ⟨st', a1, a2, h3.trans a3, a4, a5.trans h7, a6.trans h9⟩
/-- Budget. -/
theorem top_budget {rs : List Rule} {Ul : List Int} {st : St} (h : Fine rs Ul st) {n : Int} (hn : 0 ≤ n) : ∃ st', budgetM st n = some st' ∧ Fine rs Ul st' ∧ Same st st' ∧ st'.budget = n ∧ st'.nc = st.nc ∧ st'.hits = st.hits := by
  obtain ⟨st', h1, h2, h3, h4, h5, h6⟩ := budget_go hn (st.used.length + 1) st h.a (Nat.lt_succ_self _)
  exact ⟨st', h1, ⟨h2, h3.invB h.b, fun k => by rw [h3.busy]; exact h.idle k⟩, h3, h4, h5, h6⟩

theorem forget_go {Ul : List Int} : ∀ (l : List Int) (st : St), InvA Ul st → (∀ k ∈ st.used, k ∈ l) → ∃ st', forgetGo l st = some st' ∧ InvA Ul st' ∧ Same st st' ∧ st'.budget = st.budget ∧ st'.nc = st.nc ∧ st'.hits = st.hits ∧ st'.used = [] := by
  intro l
  induction l with
  | nil =>
    intro st h hl
    refine ⟨st, rfl, h, Same.refl st, rfl, rfl, rfl, ?_⟩
    cases hu : st.used with
    | nil => rfl
    | cons x r => exact absurd (hl x (by rw [hu]; exact List.mem_cons_self)) (by simp)
  | cons k r ih =>
    intro st h hl
    unfold forgetGo
    obtain ⟨st1, h1, h2, h3, h4, h5, h6, h7, h8, h9, h10⟩ := drop_good h k
    rw [h1]
    simp only
    obtain ⟨st', a1, a2, a3, a4, a5, a6, a7⟩ := ih st1 h2 (fun x hx => by
      rw [h4] at hx
      obtain ⟨b1, b2⟩ := dropL_mem.1 hx
      rcases List.mem_cons.1 (hl x b1) with e | e
      · exact absurd e b2
      · exact e)
    exact ⟨st', a1, a2, h3.trans a3, a4.trans h5, a5.trans h7, a6.trans h9, a7⟩
/-- Forget. -/
theorem top_forget {rs : List Rule} {Ul : List Int} {st : St} (h : Fine rs Ul st) : ∃ st', forgetM st = some st' ∧ Fine rs Ul st' ∧ Same st st' ∧ st'.budget = st.budget ∧ st'.nc = st.nc ∧ st'.hits = st.hits ∧ st'.used = [] ∧ st'.charged = 0 := by
  obtain ⟨st', h1, h2, h3, h4, h5, h6, h7⟩ := forget_go st.used st h.a (fun _ hk => hk)
  exact ⟨st', h1, ⟨h2, h3.invB h.b, fun k => by rw [h3.busy]; exact h.idle k⟩, h3, h4, h5, h6, h7, by rw [h2.sum, h7]; rfl⟩

/-- What the numbers say of one another. -/
theorem Fine.nums {rs : List Rule} {Ul : List Int} {st : St} (h : Fine rs Ul st) : st.charged ≤ st.budget ∧ st.charged ≤ st.high ∧ st.used.length ≤ st.nc ∧ 2 * (st.used.length : Int) ≤ st.charged := by
  refine ⟨h.a.le1, h.a.le2, h.a.used_nc, ?_⟩
  rw [h.a.sum]
  have key : ∀ l : List Int, (∀ k ∈ l, k ∈ st.used) → 2 * (l.length : Int) ≤ tot st.cells l := by
    intro l
    induction l with
    | nil => intro _; exact Int.le_refl _
    | cons x r ih =>
      intro hl
      have h1 := ih (fun k hk => hl k (List.mem_cons_of_mem _ hk))
      obtain ⟨c, hc, hh⟩ := (h.a.umem x).1 (hl x List.mem_cons_self)
      have ht := h.a.utext x c hc hh (fun h => h)
      have hw : c.s ∈ texts0 := h.a.wset _ (List.mem_of_getElem? ht)
      have hz := (texts0_size hw).2
      rw [tot_cons, hc, Option.getD_some]
      unfold cost
      simp only [List.length_cons]
      omega
  exact key st.used (fun _ h => h)
end Go.Proofs.Ytfkedhclhmbpfaa
end
