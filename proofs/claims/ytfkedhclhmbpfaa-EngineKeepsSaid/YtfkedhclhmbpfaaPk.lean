/-
  What a run without a cycle does, step by step, as a relation.
-/
import Derived.Test.YtfkedhclhmbpfaaPj
namespace Go.Proofs.Ytfkedhclhmbpfaa
set_option linter.unusedVariables false
set_option linter.unusedSimpArgs false

inductive Job where
  | ask (k : Int) (s : ByteArray)
  | turned (k : Int) (t : Int)
  | step (k : Int) (s : ByteArray)
  | text (k : Int) (ks : List Int) (s : ByteArray)
  | run (kind : Int) (l : List Int) (i : Nat) (sum : Int) (ks ks' : List Int) (s : ByteArray)
  | right (k : Int) (l : List Int) (b : Bool)

def St.bz (st : St) (k : Int) : St := { st with busy := setF st.busy k true }
def St.ub (st : St) (k : Int) : St := { st with busy := setF st.busy k false }
def St.ck (st : St) : St := { st with checks := st.checks + 1 }
def St.ht (st : St) : St := { st with hits := st.hits + 1 }
/-- Is a key passed over? -/
def skips (kind : Int) (i : Nat) (sum : Int) : Prop := kind = 1 ∧ (2 < i ∨ (0 < i ∧ (i : Int) ≠ 1 + sum.tmod 2))
/-- What follows a key's text: a further key, or the end. -/
def nextM (kind : Int) (i : Nat) (sum : Int) (t : ByteArray) : Int ⊕ ByteArray :=
  if kind = 1 ∧ i = 0 then .inl (numberM t) else if kind = 2 then .inr (valueM ((numberM t).tmod 2)) else if kind = 1 then .inr (valueM ((sum + numberM t).tmod 1000)) else .inl ((sum + numberM t).tmod 1000)
theorem textGo_next {σ : Type} (kind : Int) (ask : σ → Int → Option (σ × ByteArray)) (d : Int) (r : List Int) (i : Nat) (sum : Int) (st : σ) (hs : ¬ skips kind i sum) {st1 : σ} {t : ByteArray} (ha : ask st d = some (st1, t)) :
    textGo kind ask (d :: r) i sum st = match nextM kind i sum t with
      | .inl sum' => textGo kind ask r (i + 1) sum' st1
      | .inr v => some (st1, v) := by
  rw [textGo_cons, if_neg (by exact hs), ha]
  simp only
  unfold nextM
  split
  · rfl
  · split
    · rfl
    · split <;> rfl
theorem textGo_skip {σ : Type} (kind : Int) (ask : σ → Int → Option (σ × ByteArray)) (d : Int) (r : List Int) (i : Nat) (sum : Int) (st : σ) (hs : skips kind i sum) : textGo kind ask (d :: r) i sum st = textGo kind ask r (i + 1) sum st := by
  rw [textGo_cons, if_pos (by exact hs)]
theorem textGo_fail {σ : Type} (kind : Int) (ask : σ → Int → Option (σ × ByteArray)) (d : Int) (r : List Int) (i : Nat) (sum : Int) (st : σ) (hs : ¬ skips kind i sum) (ha : ask st d = none) : textGo kind ask (d :: r) i sum st = none := by
  rw [textGo_cons, if_neg (by exact hs), ha]

inductive R (rs : List Rule) : Job → St → St → Prop where
  | input {st : St} {k : Int} {x : ByteArray × Int} (hin : st.inputs k = some x) : R rs (.ask k x.1) st st
  | hit {st st' : St} {k : Int} {c : Cell} (hin : st.inputs k = none) (hc : st.cells k = some c) (hat : c.at_ = st.rev) (hh : c.has = true) (hu : useM st.ht k = some st') : R rs (.ask k c.s) st st'
  | new {st st1 : St} {k : Int} {s : ByteArray} (hin : st.inputs k = none) (hc : st.cells k = none) (hb : st.busy k = false) (h : R rs (.step k s) (st.bz k) st1) : R rs (.ask k s) st (st1.ub k)
  | again {st st1 : St} {k : Int} {c : Cell} {s : ByteArray} (hin : st.inputs k = none) (hc : st.cells k = some c) (hat : c.at_ = st.rev) (hh : c.has = false) (hb : st.busy k = false) (h : R rs (.step k s) (st.bz k) st1) : R rs (.ask k s) st (st1.ub k)
  | ok {st st1 st2 : St} {k : Int} {c c1 : Cell} (hin : st.inputs k = none) (hc : st.cells k = some c) (hat : c.at_ ≠ st.rev) (hb : st.busy k = false) (h : R rs (.right k c.asked true) (st.bz k).ck st1) (hc1 : st1.cells k = some c1) (hh : c1.has = true) (hu : useM st1 k = some st2) : R rs (.ask k c1.s) st (st2.ub k)
  | okAgain {st st1 st2 : St} {k : Int} {c c1 : Cell} {s : ByteArray} (hin : st.inputs k = none) (hc : st.cells k = some c) (hat : c.at_ ≠ st.rev) (hb : st.busy k = false) (h : R rs (.right k c.asked true) (st.bz k).ck st1) (hc1 : st1.cells k = some c1) (hh : c1.has = false) (h2 : R rs (.step k s) st1 st2) : R rs (.ask k s) st (st2.ub k)
  | wrong {st st1 st2 : St} {k : Int} {c : Cell} {s : ByteArray} (hin : st.inputs k = none) (hc : st.cells k = some c) (hat : c.at_ ≠ st.rev) (hb : st.busy k = false) (h : R rs (.right k c.asked false) (st.bz k).ck st1) (h2 : R rs (.step k s) st1 st2) : R rs (.ask k s) st (st2.ub k)
  | tinput {st : St} {k : Int} {x : ByteArray × Int} (hin : st.inputs k = some x) : R rs (.turned k x.2) st st
  | tat {st : St} {k : Int} {c : Cell} (hin : st.inputs k = none) (hc : st.cells k = some c) (hat : c.at_ = st.rev) (hb : st.busy k = false) : R rs (.turned k c.turned) st ((st.bz k).ub k)
  | tnew {st st1 : St} {k : Int} {c1 : Cell} {s : ByteArray} (hin : st.inputs k = none) (hc : st.cells k = none) (hb : st.busy k = false) (h : R rs (.step k s) (st.bz k) st1) (hc1 : st1.cells k = some c1) : R rs (.turned k c1.turned) st (st1.ub k)
  | tok {st st1 : St} {k : Int} {c c1 : Cell} (hin : st.inputs k = none) (hc : st.cells k = some c) (hat : c.at_ ≠ st.rev) (hb : st.busy k = false) (h : R rs (.right k c.asked true) (st.bz k).ck st1) (hc1 : st1.cells k = some c1) : R rs (.turned k c1.turned) st (st1.ub k)
  | twrong {st st1 st2 : St} {k : Int} {c c2 : Cell} {s : ByteArray} (hin : st.inputs k = none) (hc : st.cells k = some c) (hat : c.at_ ≠ st.rev) (hb : st.busy k = false) (h : R rs (.right k c.asked false) (st.bz k).ck st1) (h2 : R rs (.step k s) st1 st2) (hc2 : st2.cells k = some c2) : R rs (.turned k c2.turned) st (st2.ub k)
  | rule {st st1 st2 : St} {k : Int} {asked : List Int} {s : ByteArray} (h : R rs (.text k asked s) st st1) (hw : wroteM st1 k asked s = some st2) : R rs (.step k s) st st2
  | text0 {st : St} {k : Int} (hn : k < 0 ∨ rs[k.toNat]? = none) : R rs (.text k [] ⟨#[48]⟩) st st
  | text1 {st st1 : St} {k : Int} {r : Rule} {ks : List Int} {s : ByteArray} (hk : 0 ≤ k) (hr : rs[k.toNat]? = some r) (h : R rs (.run r.kind r.l 0 k [] ks s) st st1) : R rs (.text k ks s) st st1
  | rnil {st : St} {kind : Int} {i : Nat} {sum : Int} {ks : List Int} : R rs (.run kind [] i sum ks ks (valueM (sum.tmod 1000))) st st
  | rskip {st st' : St} {kind d : Int} {l : List Int} {i : Nat} {sum : Int} {ks ks' : List Int} {s : ByteArray} (hs : skips kind i sum) (h : R rs (.run kind l (i + 1) sum ks ks' s) st st') : R rs (.run kind (d :: l) i sum ks ks' s) st st'
  | rmore {st st1 st' : St} {kind d : Int} {l : List Int} {i : Nat} {sum sum' : Int} {ks ks' : List Int} {s t : ByteArray} (hs : ¬ skips kind i sum) (ha : R rs (.ask d t) st st1) (hn : nextM kind i sum t = .inl sum') (h : R rs (.run kind l (i + 1) sum' (noted ks d) ks' s) st1 st') : R rs (.run kind (d :: l) i sum ks ks' s) st st'
  | rstop {st st1 : St} {kind d : Int} {l : List Int} {i : Nat} {sum : Int} {ks : List Int} {t v : ByteArray} (hs : ¬ skips kind i sum) (ha : R rs (.ask d t) st st1) (hn : nextM kind i sum t = .inr v) : R rs (.run kind (d :: l) i sum ks (noted ks d) v) st st1
  | gnil {st : St} {k : Int} {c : Cell} (hc : st.cells k = some c) : R rs (.right k [] true) st (st.setCell k { c with at_ := st.rev })
  | gold {st st1 : St} {k d t : Int} {l : List Int} {c : Cell} (h : R rs (.turned d t) st st1) (hc : st1.cells k = some c) (hlt : c.at_ < t) : R rs (.right k (d :: l) false) st st1
  | gmore {st st1 st' : St} {k d t : Int} {l : List Int} {c : Cell} {b : Bool} (h : R rs (.turned d t) st st1) (hc : st1.cells k = some c) (hlt : ¬ c.at_ < t) (h2 : R rs (.right k l b) st1 st') : R rs (.right k (d :: l) b) st st'

/-- What is to be shown of a call: where a cycle was, it stays; where none comes, the call is a run. -/
def Der (rs : List Rule) (j : Job) (st st' : St) : Prop := (st.cycle = true → st'.cycle = true) ∧ (st'.cycle = false → R rs j st st')
theorem Der.back {rs : List Rule} {j : Job} {st st' : St} (h : Der rs j st st') (hc : st'.cycle = false) : st.cycle = false := by
  cases hh : st.cycle with
  | false => rfl
  | true => rw [h.1 hh] at hc; cases hc

section
variable {rs : List Rule} {ask : St → Int → Option (St × ByteArray)} {turned : St → Int → Option (St × Int)}

theorem run_der (hask : ∀ st k st' s, ask st k = some (st', s) → Der rs (.ask k s) st st') (kind : Int) (l : List Int) : ∀ (i : Nat) (sum : Int) (st : St) (ks : List Int) (st' : St) (ks' : List Int) (s : ByteArray),
    textGo kind (noteM ask) l i sum (st, ks) = some ((st', ks'), s) → Der rs (.run kind l i sum ks ks' s) st st' := by
  induction l with
  | nil =>
    intro i sum st ks st' ks' s h
    rw [textGo] at h
    cases h
    exact ⟨id, fun _ => .rnil⟩
  | cons d r ih =>
    intro i sum st ks st' ks' s h
    by_cases hs : skips kind i sum
    · rw [textGo_skip _ _ _ _ _ _ _ hs] at h
      have := ih _ _ _ _ _ _ _ h
      exact ⟨this.1, fun hc => .rskip hs (this.2 hc)⟩
    · cases ha : ask st d with
      | none =>
        rw [textGo_fail _ _ _ _ _ _ _ hs (by unfold noteM; rw [ha])] at h
        cases h
      | some x =>
        obtain ⟨st1, t⟩ := x
        have hd := hask _ _ _ _ ha
        rw [textGo_next _ _ _ _ _ _ _ hs (noteM_eq ask st ks d ha)] at h
        cases hn : nextM kind i sum t with
        | inl sum' =>
          rw [hn] at h
          have h2 := ih _ _ _ _ _ _ _ h
          exact ⟨fun hc => h2.1 (hd.1 hc), fun hc => .rmore hs (hd.2 (h2.back hc)) hn (h2.2 hc)⟩
        | inr v =>
          rw [hn] at h
          cases h
          exact ⟨hd.1, fun hc => .rstop hs (hd.2 hc) hn⟩
theorem text_der (hask : ∀ st k st' s, ask st k = some (st', s) → Der rs (.ask k s) st st') {st st' : St} {k : Int} {ks : List Int} {s : ByteArray} (h : textM rs (noteM ask) (st, []) k = some ((st', ks), s)) : Der rs (.text k ks s) st st' := by
  unfold textM at h
  by_cases hn : k < 0
  · rw [if_pos hn] at h
    cases h
    exact ⟨id, fun _ => .text0 (.inl hn)⟩
  · rw [if_neg hn] at h
    cases hr : rs[k.toNat]? with
    | none =>
      rw [hr] at h
      cases h
      exact ⟨id, fun _ => .text0 (.inr hr)⟩
    | some r =>
      rw [hr] at h
      have := run_der hask _ _ _ _ _ _ _ _ _ h
      exact ⟨this.1, fun hc => .text1 (by omega) hr (this.2 hc)⟩
theorem step_der (hask : ∀ st k st' s, ask st k = some (st', s) → Der rs (.ask k s) st st') {st st' : St} {k : Int} {s : ByteArray} (h : stepM rs ask st k = some (st', s)) : Der rs (.step k s) st st' := by
  unfold stepM at h
  cases ht : textM rs (noteM ask) (st, []) k with
  | none => rw [ht] at h; cases h
  | some x =>
    obtain ⟨⟨st1, asked⟩, t⟩ := x
    rw [ht] at h
    simp only at h
    have hd := text_der hask ht
    by_cases hc1 : st1.cycle = true
    · rw [if_pos hc1] at h
      cases h
      exact ⟨fun _ => hc1, fun hc => by rw [hc1] at hc; cases hc⟩
    · rw [if_neg hc1] at h
      cases hw : wroteM st1 k asked t with
      | none => rw [hw] at h; cases h
      | some st2 =>
        rw [hw] at h
        cases h
        obtain ⟨d, ws, hsm, _⟩ := wrote_same hw
        have hcy : st'.cycle = st1.cycle := hsm.cycle
        exact ⟨fun hc => by rw [hcy]; exact hd.1 hc, fun hc => .rule (hd.2 (by rw [← hcy]; exact hc)) hw⟩
theorem right_der (hturn : ∀ st k st' t, turned st k = some (st', t) → Der rs (.turned k t) st st') (k : Int) (l : List Int) : ∀ (st st' : St) (b : Bool), rightGo turned k l st = some (st', b) → Der rs (.right k l b) st st' := by
  induction l with
  | nil =>
    intro st st' b h
    unfold rightGo at h
    cases hc : st.cells k with
    | none => rw [hc] at h; cases h
    | some c =>
      rw [hc] at h
      cases h
      exact ⟨id, fun _ => .gnil hc⟩
  | cons d r ih =>
    intro st st' b h
    unfold rightGo at h
    cases ht : turned st d with
    | none => rw [ht] at h; cases h
    | some x =>
      obtain ⟨st1, t⟩ := x
      rw [ht] at h
      simp only at h
      have hd := hturn _ _ _ _ ht
      by_cases hc1 : st1.cycle = true
      · rw [if_pos hc1] at h
        cases h
        exact ⟨fun _ => hc1, fun hc => by rw [hc1] at hc; cases hc⟩
      · rw [if_neg hc1] at h
        cases hc : st1.cells k with
        | none => rw [hc] at h; cases h
        | some c =>
          rw [hc] at h
          simp only at h
          by_cases hlt : c.at_ < t
          · rw [if_pos hlt] at h
            cases h
            exact ⟨hd.1, fun hcy => .gold (hd.2 hcy) hc hlt⟩
          · rw [if_neg hlt] at h
            have h2 := ih _ _ _ h
            exact ⟨fun hcy => h2.1 (hd.1 hcy), fun hcy => .gmore (hd.2 (h2.back hcy)) hc hlt (h2.2 hcy)⟩

theorem miss_der (hask : ∀ st k st' s, ask st k = some (st', s) → Der rs (.ask k s) st st') {st st' : St} {k : Int} {s : ByteArray} (h : missIn (stepM rs ask) k st = some (st', s)) : Der rs (.step k s) st st' := by
  unfold missIn at h
  by_cases hc : st.cycle = true
  · rw [if_pos hc] at h
    cases h
    exact ⟨id, fun hh => by rw [hc] at hh; cases hh⟩
  · rw [if_neg hc] at h
    exact step_der hask h
theorem found_der (hask : ∀ st k st' s, ask st k = some (st', s) → Der rs (.ask k s) st st') {st st' : St} {k : Int} {s : ByteArray} (h : foundIn (stepM rs ask) k st = some (st', s)) :
    ∃ c, st.cells k = some c ∧ (c.has = true ∧ useM st k = some st' ∧ s = c.s ∨ c.has = false ∧ Der rs (.step k s) st st') := by
  unfold foundIn at h
  cases hc : st.cells k with
  | none => rw [hc] at h; cases h
  | some c =>
    rw [hc] at h
    simp only at h
    refine ⟨c, rfl, ?_⟩
    by_cases hh : c.has = true
    · rw [if_pos hh] at h
      simp only [Option.map_eq_some_iff, Prod.mk.injEq] at h
      obtain ⟨st1, h1, rfl, rfl⟩ := h
      exact .inl ⟨hh, h1, rfl⟩
    · rw [if_neg hh] at h
      exact .inr ⟨by simpa using hh, miss_der hask h⟩

theorem ask_der (hask : ∀ st k st' s, ask st k = some (st', s) → Der rs (.ask k s) st st') (hturn : ∀ st k st' t, turned st k = some (st', t) → Der rs (.turned k t) st st') {st st' : St} {k : Int} {s : ByteArray}
    (h : (match st.inputs k with
      | some x => some (st, x.1)
      | none =>
        if st.cycle = true then some (st, noBytes)
        else if hitM st k = true then (useM { st with hits := st.hits + 1 } k).map fun st1 => (st1, ((st.cells k).getD zeroCell).s)
        else underM st k noBytes (askIn (stepM rs ask) turned k)) = some (st', s)) : Der rs (.ask k s) st st' := by
  cases hin : st.inputs k with
  | some x =>
    rw [hin] at h
    cases h
    exact ⟨id, fun _ => .input hin⟩
  | none =>
    rw [hin] at h
    simp only at h
    by_cases hcy : st.cycle = true
    · rw [if_pos hcy] at h
      cases h
      exact ⟨id, fun hc => by rw [hcy] at hc; cases hc⟩
    · rw [if_neg hcy] at h
      have hno : st.cycle = true → st'.cycle = true := fun hh => absurd hh hcy
      refine ⟨hno, fun hc => ?_⟩
      by_cases hh : hitM st k = true
      · rw [if_pos hh] at h
        unfold hitM at hh
        cases hcl : st.cells k with
        | none => rw [hcl] at hh; cases hh
        | some c =>
          rw [hcl] at hh h
          simp only [Bool.and_eq_true, decide_eq_true_eq] at hh
          simp only [Option.map_eq_some_iff, Prod.mk.injEq, Option.getD_some] at h
          obtain ⟨st1, h1, rfl, rfl⟩ := h
          exact .hit hin hcl hh.1.1 hh.1.2 h1
      · rw [if_neg hh] at h
        unfold underM at h
        cases hb : st.busy k with
        | true =>
          rw [hb, if_pos rfl] at h
          cases h
          cases hc
        | false =>
          rw [hb, if_neg (by simp)] at h
          cases hbody : askIn (stepM rs ask) turned k { st with busy := setF st.busy k true } with
          | none => rw [hbody] at h; cases h
          | some y =>
            obtain ⟨st1, s1⟩ := y
            rw [hbody] at h
            cases h
            have hc : st1.cycle = false := hc
            unfold askIn at hbody
            rw [show ({ st with busy := setF st.busy k true } : St).cells k = st.cells k from rfl] at hbody
            cases hcl : st.cells k with
            | none =>
              rw [hcl] at hbody
              exact .new hin hcl hb ((miss_der hask hbody).2 hc)
            | some c =>
              rw [hcl] at hbody
              simp only at hbody
              by_cases hat : c.at_ = st.rev
              · rw [if_pos hat] at hbody
                obtain ⟨c', e1, e2⟩ := found_der hask hbody
                have e1 : st.cells k = some c' := e1
                rw [hcl] at e1
                cases e1
                rcases e2 with ⟨f1, f2, rfl⟩ | ⟨f1, f2⟩
                · exfalso
                  unfold hitM at hh
                  rw [hcl] at hh
                  simp [hat, f1, hb] at hh
                · exact .again hin hcl hat f1 hb (f2.2 hc)
              · rw [if_neg hat] at hbody
                unfold rightM at hbody
                rw [show ({ st with busy := setF st.busy k true } : St).cells k = st.cells k from rfl, hcl] at hbody
                simp only at hbody
                cases hg : rightGo turned k c.asked { ({ st with busy := setF st.busy k true } : St) with checks := ({ st with busy := setF st.busy k true } : St).checks + 1 } with
                | none => rw [hg] at hbody; cases hbody
                | some z =>
                  obtain ⟨st2, b⟩ := z
                  rw [hg] at hbody
                  have hr := right_der hturn k c.asked _ _ _ hg
                  cases b with
                  | true =>
                    simp only at hbody
                    obtain ⟨c', e1, e2⟩ := found_der hask hbody
                    rcases e2 with ⟨f1, f2, rfl⟩ | ⟨f1, f2⟩
                    · have hcc : st1.cycle = st2.cycle := (use_same f2).1.cycle
                      exact .ok hin hcl hat hb (hr.2 (by rw [← hcc]; exact hc)) e1 f1 f2
                    · exact .okAgain hin hcl hat hb (hr.2 (f2.back hc)) e1 f1 (f2.2 hc)
                  | false =>
                    simp only at hbody
                    have hm := miss_der hask hbody
                    exact .wrong hin hcl hat hb (hr.2 (hm.back hc)) (hm.2 hc)
theorem turned_der (hask : ∀ st k st' s, ask st k = some (st', s) → Der rs (.ask k s) st st') (hturn : ∀ st k st' t, turned st k = some (st', t) → Der rs (.turned k t) st st')
    (hcell : ∀ st k st' s, stepM rs ask st k = some (st', s) → st'.cycle = false → ∃ c, st'.cells k = some c) (hcell2 : ∀ st k st', rightM turned k st = some (st', true) → ∃ c, st'.cells k = some c) {st st' : St} {k t : Int}
    (h : (match st.inputs k with
      | some x => some (st, x.2)
      | none => match underM st k () (turnedIn (stepM rs ask) turned k) with
        | none => none
        | some (st1, _) => some (st1, match st1.cells k with | none => 0 | some c => c.turned)) = some (st', t)) : Der rs (.turned k t) st st' := by
  cases hin : st.inputs k with
  | some x =>
    rw [hin] at h
    cases h
    exact ⟨id, fun _ => .tinput hin⟩
  | none =>
    rw [hin] at h
    simp only at h
    unfold underM at h
    cases hb : st.busy k with
    | true =>
      rw [hb, if_pos rfl] at h
      cases h
      exact ⟨fun _ => rfl, fun hc => by cases hc⟩
    | false =>
      rw [hb, if_neg (by simp)] at h
      cases hbody : turnedIn (stepM rs ask) turned k { st with busy := setF st.busy k true } with
      | none => rw [hbody] at h; cases h
      | some y =>
        obtain ⟨st1, u⟩ := y
        rw [hbody] at h
        simp only [Option.some.injEq, Prod.mk.injEq] at h
        obtain ⟨rfl, rfl⟩ := h
        show Der rs (.turned k (match st1.cells k with | none => 0 | some c => c.turned)) st (st1.ub k)
        unfold turnedIn at hbody
        rw [show ({ st with busy := setF st.busy k true } : St).cells k = st.cells k from rfl, show ({ st with busy := setF st.busy k true } : St).rev = st.rev from rfl] at hbody
        cases hcl : st.cells k with
        | none =>
          rw [hcl] at hbody
          simp only at hbody
          by_cases hcy : st.cycle = true
          · rw [if_pos (by exact hcy)] at hbody
            cases hbody
            exact ⟨fun h => h, fun hc => by have hc : st.cycle = false := hc; rw [hcy] at hc; cases hc⟩
          · rw [if_neg (by exact hcy)] at hbody
            simp only [Option.map_eq_some_iff, Prod.mk.injEq] at hbody
            obtain ⟨⟨st2, s⟩, h1, rfl, _⟩ := hbody
            refine ⟨fun hh => absurd hh hcy, fun hc => ?_⟩
            obtain ⟨c1, hc1⟩ := hcell _ _ _ _ h1 hc
            rw [hc1]
            exact .tnew hin hcl hb ((step_der hask h1).2 hc) hc1
        | some c =>
          rw [hcl] at hbody
          simp only at hbody
          by_cases hat : c.at_ = st.rev
          · rw [if_pos hat] at hbody
            cases hbody
            refine ⟨id, fun _ => ?_⟩
            rw [show ({ st with busy := setF st.busy k true } : St).cells k = st.cells k from rfl, hcl]
            exact .tat hin hcl hat hb
          · rw [if_neg hat] at hbody
            cases hg : rightM turned k { st with busy := setF st.busy k true } with
            | none => rw [hg] at hbody; cases hbody
            | some z =>
              obtain ⟨st2, b⟩ := z
              rw [hg] at hbody
              have hr : Der rs (.right k c.asked b) (st.bz k).ck st2 := by
                have hg := hg
                unfold rightM at hg
                rw [show ({ st with busy := setF st.busy k true } : St).cells k = st.cells k from rfl, hcl] at hg
                exact right_der hturn k c.asked _ _ _ hg
              cases b with
              | true =>
                simp only at hbody
                cases hbody
                obtain ⟨c1, hc1⟩ := hcell2 _ _ _ hg
                refine ⟨hr.1, fun hc => ?_⟩
                rw [hc1]
                exact .tok hin hcl hat hb (hr.2 hc) hc1
              | false =>
                simp only at hbody
                by_cases hcy : st2.cycle = true
                · rw [if_pos hcy] at hbody
                  cases hbody
                  exact ⟨hr.1, fun hc => by have hc : st1.cycle = false := hc; rw [hcy] at hc; cases hc⟩
                · rw [if_neg hcy] at hbody
                  simp only [Option.map_eq_some_iff, Prod.mk.injEq] at hbody
                  obtain ⟨⟨st3, s⟩, h1, rfl, _⟩ := hbody
                  have hm := step_der hask h1
                  refine ⟨fun hh => hm.1 (hr.1 hh), fun hc => ?_⟩
                  obtain ⟨c1, hc1⟩ := hcell _ _ _ _ h1 hc
                  rw [hc1]
                  exact .twrong hin hcl hat hb (hr.2 (hm.back hc)) (hm.2 hc) hc1
end
theorem step_cell {rs : List Rule} {ask : St → Int → Option (St × ByteArray)} (st : St) (k : Int) (st' : St) (s : ByteArray) (h : stepM rs ask st k = some (st', s)) (hcy : st'.cycle = false) : ∃ c, st'.cells k = some c := by
  unfold stepM at h
  cases ht : textM rs (noteM ask) (st, []) k with
  | none => rw [ht] at h; cases h
  | some x =>
    obtain ⟨⟨st1, asked⟩, t⟩ := x
    rw [ht] at h
    simp only at h
    by_cases hc1 : st1.cycle = true
    · rw [if_pos hc1] at h
      cases h
      rw [hc1] at hcy
      cases hcy
    · rw [if_neg hc1] at h
      cases hw : wroteM st1 k asked t with
      | none => rw [hw] at h; cases h
      | some st2 =>
        rw [hw] at h
        cases h
        obtain ⟨d, ws, hsm, _⟩ := wrote_same hw
        have := hsm.core k
        rw [new_core_self] at this
        obtain ⟨c, hc, _⟩ := cell_of_core this
        exact ⟨c, hc⟩
theorem right_cell {turned : St → Int → Option (St × Int)} (st : St) (k : Int) (st' : St) (h : rightM turned k st = some (st', true)) : ∃ c, st'.cells k = some c := by
  unfold rightM at h
  cases hc : st.cells k with
  | none => rw [hc] at h; cases h
  | some c =>
    rw [hc] at h
    simp only at h
    have key : ∀ (l : List Int) (st : St), rightGo turned k l st = some (st', true) → ∃ c, st'.cells k = some c := by
      intro l
      induction l with
      | nil =>
        intro st h
        unfold rightGo at h
        cases hc : st.cells k with
        | none => rw [hc] at h; cases h
        | some c =>
          rw [hc] at h
          cases h
          exact ⟨_, setF_same _ _ _⟩
      | cons d r ih =>
        intro st h
        unfold rightGo at h
        cases ht : turned st d with
        | none => rw [ht] at h; cases h
        | some x =>
          obtain ⟨st1, t⟩ := x
          rw [ht] at h
          simp only at h
          by_cases hc1 : st1.cycle = true
          · rw [if_pos hc1] at h
            cases h
          · rw [if_neg hc1] at h
            cases hc : st1.cells k with
            | none => rw [hc] at h; cases h
            | some c =>
              rw [hc] at h
              simp only at h
              by_cases hlt : c.at_ < t
              · rw [if_pos hlt] at h
                cases h
              · rw [if_neg hlt] at h
                exact ih _ h
    exact key _ _ h

theorem both_der (rs : List Rule) : ∀ n, (∀ st k st' s, askM rs n st k = some (st', s) → Der rs (.ask k s) st st') ∧ (∀ st k st' t, turnedM rs n st k = some (st', t) → Der rs (.turned k t) st st') := by
  intro n
  induction n with
  | zero => exact ⟨(fun st k st' s h => by unfold askM at h; cases h), (fun st k st' t h => by unfold turnedM at h; cases h)⟩
  | succ n ih =>
    refine ⟨fun st k st' s h => ?_, fun st k st' t h => ?_⟩
    · unfold askM at h
      exact ask_der ih.1 ih.2 h
    · unfold turnedM at h
      exact turned_der ih.1 ih.2 step_cell right_cell h

theorem top_R {rs : List Rule} {n : Nat} {st st' : St} {k : Int} {s : ByteArray} (h : askTop rs n st k = some (st', s, 0)) : R rs (.ask k s) { st with cycle := false } st' ∧ st'.cycle = false := by
  unfold askTop at h
  cases ha : askM rs n { st with cycle := false } k with
  | none => rw [ha] at h; cases h
  | some x =>
    obtain ⟨st1, t⟩ := x
    rw [ha] at h
    simp only at h
    by_cases hc : st1.cycle = true
    · rw [if_pos hc] at h
      simp at h
    · rw [if_neg hc] at h
      simp only [Option.some.injEq, Prod.mk.injEq] at h
      obtain ⟨rfl, rfl, _⟩ := h
      have hc : st1.cycle = false := by simpa using hc
      exact ⟨((both_der rs n).1 _ _ _ _ ha).2 hc, hc⟩
end Go.Proofs.Ytfkedhclhmbpfaa
