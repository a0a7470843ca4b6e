/-
  How much the numbers rise, and what holds at all times, where a cycle may come, too.
-/
import Derived.Test.YtfkedhclhmbpfaaPo
namespace Go.Proofs.Ytfkedhclhmbpfaa
set_option linter.unusedVariables false
set_option linter.unusedSimpArgs false

/-- A key's rule is written: what holds of values is kept. -/
theorem wrote_invA {Ul : List Int} {st st' : St} {k : Int} {asked : List Int} {s : ByteArray} (hA : InvA Ul st) (hnd : st.words.Nodup) (hk : k ∈ Ul) (hs : s ∈ texts0) (h : wroteM st k asked s = some st') : InvA Ul st' ∧ st'.words.Nodup := by
  obtain ⟨ws, d, hw, hd1, hat, hpre, hnd', hset⟩ := word_good (rs := []) (Ul := Ul) (X := fun _ => False) (st := freshM st k) hnd hA.wset hs
  rw [wrote_eq hw] at h
  obtain ⟨l, hl⟩ : ∃ l, ws = st.words ++ l := hpre
  have htx : ∀ c t, st.text c = some t → (newSt st k asked d ws).text c = some t := fun c t ht => by
    show ws[(c.digest - 1).toNat]? = some t
    unfold St.text at ht
    rw [hl, List.getElem?_append_left (List.getElem?_eq_some_iff.1 ht).1]
    exact ht
  have htext : (newSt st k asked d ws).text (coreOf (newCell st k asked d)) = some s := hat
  have hcs : ∀ x, x ≠ k → (newSt st k asked d ws).cells x = st.cells x := fun x e => by
    show setF st.cells k _ x = _
    unfold setF
    rw [if_neg e]
  have hck : (newSt st k asked d ws).cells k = some (newCell st k asked d) := by
    show setF st.cells k _ k = _
    unfold setF
    rw [if_pos rfl]
  have hhas : (newCell st k asked d).has = ((st.cells k).getD zeroCell).has := rfl
  have hss : (newCell st k asked d).s = ((st.cells k).getD zeroCell).s := rfl
  have hAn : InvX Ul (fun x => x = k) (newSt st k asked d ws) := by
    refine ⟨hA.und, fun x => ?_, fun x c hx hh hX => ?_, ?_, hA.le1, hA.le2, ?_, fun x hx => ?_, hset, hA.few⟩
    · show x ∈ st.used ↔ _
      rw [hA.umem x]
      by_cases e : x = k
      · subst e
        rw [hck]
        cases hc0 : st.cells x with
        | none =>
          rw [hc0] at hhas
          have hf : (newCell st x asked d).has = false := hhas
          simp [hf]
        | some c0 =>
          rw [hc0] at hhas
          have hf : (newCell st x asked d).has = c0.has := hhas
          simp [hf]
      · rw [hcs x e]
    · rw [hcs x hX] at hx
      exact htx _ _ (hA.utext x c hx hh (fun h => h))
    · show st.charged = tot (newSt st k asked d ws).cells st.used
      rw [hA.sum]
      refine tot_same (fun x hx => ?_)
      by_cases e : x = k
      · subst e; rw [hck]; exact hss.symm
      · rw [hcs x e]
    · obtain ⟨ks, h1, h2, h3⟩ := hA.ncs
      show ∃ ks : List Int, ks.Nodup ∧ (∀ x, x ∈ ks ↔ ((newSt st k asked d ws).cells x).isSome = true) ∧ (if (st.cells k).isSome then st.nc else st.nc + 1) = ks.length
      by_cases hc0 : (st.cells k).isSome = true
      · rw [if_pos hc0]
        refine ⟨ks, h1, fun x => ?_, h3⟩
        rw [h2 x]
        by_cases e : x = k
        · subst e; rw [hck]; simp [hc0]
        · rw [hcs x e]
      · rw [if_neg hc0]
        refine ⟨k :: ks, List.nodup_cons.2 ⟨fun h => hc0 ((h2 k).1 h), h1⟩, fun x => ?_, by simp [h3]⟩
        rw [List.mem_cons]
        by_cases e : x = k
        · subst e; rw [hck]; simp
        · rw [hcs x e, h2 x]; simp [e]
    · by_cases e : x = k
      · rw [e]; exact hk
      · rw [hcs x e] at hx; exact hA.cul x hx
  obtain ⟨st1, h1, h2, h3, h4, h5, h6⟩ := keep_good hAn hck htext
  rw [h] at h1
  cases h1
  exact ⟨h2, by rw [h3.words]; exact hnd'⟩

/-- What holds at all times, where rm: of an engine with room. -/
structure Inv4 (Ul : List Int) (rm : Prop) (st : St) : Prop where
  a : InvA Ul st
  w : st.words.Nodup
  q : ∀ k c, st.cells k = some c → c.asked.length ≤ 4 ∧ ∀ d ∈ c.asked, d ∈ Ul
  r : rm → Roomy Ul st
structure Grow (b : Int) (st st' : St) : Prop where
  s1 : st.steps ≤ st'.steps
  s2 : st'.steps ≤ st.steps + b
  h1 : st.hits ≤ st'.hits
  h2 : st'.hits ≤ st.hits + b
theorem Grow.refl {b : Int} (hb : 0 ≤ b) (st : St) : Grow b st st := ⟨Int.le_refl _, by omega, Int.le_refl _, by omega⟩
theorem Grow.trans {a b c : Int} {x y z : St} (h : Grow a x y) (k : Grow b y z) (hc : a + b ≤ c) : Grow c x z :=
  ⟨Int.le_trans h.s1 k.s1, by have := h.s2; have := k.s2; omega, Int.le_trans h.h1 k.h1, by have := h.h2; have := k.h2; omega⟩
theorem Grow.weaken {a b : Int} {x y : St} (h : Grow a x y) (hb : a ≤ b) : Grow b x y := ⟨h.s1, by have := h.s2; omega, h.h1, by have := h.h2; omega⟩

section
variable {rs : List Rule} {Ul : List Int} {rm : Prop}
theorem Inv4.alike {st st' : St} (h : Inv4 Ul rm st) (h1 : st'.used = st.used) (h2 : st'.cells = st.cells) (h3 : st'.words = st.words) (h4 : st'.charged = st.charged) (h5 : st'.budget = st.budget) (h6 : st'.high = st.high) (h7 : st'.nc = st.nc) : Inv4 Ul rm st' :=
  ⟨h.a.alike h1 h2 h3 h4 h5 h6 h7, by rw [h3]; exact h.w, by rw [h2]; exact h.q, fun hr => (h.r hr).alike h2 h5⟩
theorem Inv4.wrote {st st' : St} {k : Int} {asked : List Int} {s : ByteArray} (h : Inv4 Ul rm st) (hk : k ∈ Ul) (hs : s ∈ texts0) (hl : asked.length ≤ 4) (hd : ∀ d ∈ asked, d ∈ Ul) (hw : wroteM st k asked s = some st') : Inv4 Ul rm st' ∧ Grow 1 st st' := by
  obtain ⟨a1, a2⟩ := wrote_invA h.a h.w hk hs hw
  obtain ⟨d, ws, w1, _⟩ := wrote_same hw
  refine ⟨⟨a1, a2, fun x c hx => ?_, fun hr => ?_⟩, ?_, ?_, ?_, ?_⟩
  · have hc := w1.core x
    by_cases e : x = k
    · subst e
      rw [new_core_self, core_of_cell hx] at hc
      have : c.asked = asked := congrArg Core.asked (Option.some.inj hc)
      rw [this]
      exact ⟨hl, hd⟩
    · rw [new_core_other st asked d ws e, core_of_cell hx] at hc
      obtain ⟨c0, h0, h1⟩ := cell_of_core hc.symm
      have : c0.asked = c.asked := congrArg Core.asked h1
      rw [← this]
      exact h.q x c0 h0
  · obtain ⟨_, _, _, _, _, _, _, _, w7⟩ := roomy_wrote h.a (h.r hr) hs hw
    exact w7
  · have : st'.steps = st.steps + 1 := w1.steps
    omega
  · have : st'.steps = st.steps + 1 := w1.steps
    omega
  · have : st'.hits = st.hits := w1.hits
    omega
  · have : st'.hits = st.hits := w1.hits
    omega
theorem Inv4.use {st st' : St} {k : Int} (h : Inv4 Ul rm st) (hk : ∃ c, st.cells k = some c ∧ c.has = true) (hu : useM st k = some st') : Inv4 Ul rm st' ∧ st'.steps = st.steps ∧ st'.hits = st.hits := by
  obtain ⟨st1, h1, h2, _⟩ := use_good h.a ((h.a.umem k).2 hk)
  rw [hu] at h1
  cases h1
  obtain ⟨a, b, c⟩ := use_same hu
  exact ⟨⟨h2, by rw [a.words]; exact h.w, by rw [b]; exact h.q, fun hr => (h.r hr).alike b a.budget⟩, a.steps, a.hits⟩
theorem Inv4.at_ {st : St} {k : Int} {c : Cell} (h : Inv4 Ul rm st) (hc : st.cells k = some c) : Inv4 Ul rm (st.setCell k { c with at_ := st.rev }) := by
  refine ⟨h.a.setCell (c' := { c with at_ := st.rev }) hc rfl rfl rfl, h.w, fun x cx hx => ?_, fun hr => ⟨fun x cx hx => ?_, (h.r hr).budget, (h.r hr).few⟩⟩
  · have hx : setF st.cells k _ x = some cx := hx
    by_cases e : x = k
    · subst e; rw [setF_same] at hx; cases hx; exact h.q x c hc
    · rw [setF_other _ _ e] at hx; exact h.q x cx hx
  · have hx : setF st.cells k _ x = some cx := hx
    by_cases e : x = k
    · subst e; rw [setF_same] at hx; cases hx; exact (h.r hr).has x c hc
    · rw [setF_other _ _ e] at hx; exact (h.r hr).has x cx hx

variable {ask : St → Int → Option (St × ByteArray)} {turned : St → Int → Option (St × Int)} {b : Int}
/-- A call keeps what holds, and the numbers rise by b at most. -/
def AskGrow (Ul : List Int) (rm : Prop) (b : Int) (ask : St → Int → Option (St × ByteArray)) : Prop := ∀ st k st' s, ask st k = some (st', s) → Inv4 Ul rm st → k ∈ Ul → Inv4 Ul rm st' ∧ Grow b st st'
def TurnGrow (Ul : List Int) (rm : Prop) (b : Int) (turned : St → Int → Option (St × Int)) : Prop := ∀ st k st' t, turned st k = some (st', t) → Inv4 Ul rm st → k ∈ Ul → Inv4 Ul rm st' ∧ Grow b st st'

theorem noted_len (l : List Int) (d : Int) : (noted l d).length ≤ l.length + 1 := by
  unfold noted
  split
  · omega
  · simp
theorem run_grow (hb : 0 ≤ b) (hask : AskGrow Ul rm b ask) (kind : Int) (l : List Int) : ∀ (i : Nat) (sum : Int) (st : St) (ks : List Int) (st' : St) (ks' : List Int) (s : ByteArray),
    textGo kind (noteM ask) l i sum (st, ks) = some ((st', ks'), s) → Inv4 Ul rm st → (∀ d ∈ l, d ∈ Ul) → Inv4 Ul rm st' ∧ Grow (l.length * b) st st' ∧ s ∈ texts0 ∧ ks'.length ≤ ks.length + l.length ∧ ∀ d ∈ ks', d ∈ ks ∨ d ∈ Ul := by
  induction l with
  | nil =>
    intro i sum st ks st' ks' s h hI hl
    rw [textGo] at h
    cases h
    exact ⟨hI, Grow.refl (by simp) _, tmod_thou sum, by simp, fun d hd => .inl hd⟩
  | cons d r ih =>
    intro i sum st ks st' ks' s h hI hl
    have hmul : (((d :: r).length : Nat) : Int) * b = (r.length : Int) * b + b := by
      rw [List.length_cons, Int.natCast_add, Int.add_mul]
      omega
    by_cases hs : skips kind i sum
    · rw [textGo_skip _ _ _ _ _ _ _ hs] at h
      obtain ⟨a1, a2, a3, a4, a5⟩ := ih _ _ _ _ _ _ _ h hI (fun x hx => hl x (List.mem_cons_of_mem _ hx))
      exact ⟨a1, a2.weaken (by omega), a3, by rw [List.length_cons]; omega, a5⟩
    · cases ha : ask st d with
      | none =>
        rw [textGo_fail _ _ _ _ _ _ _ hs (by unfold noteM; rw [ha])] at h
        cases h
      | some x =>
        obtain ⟨st1, t⟩ := x
        have hd := hl d List.mem_cons_self
        obtain ⟨b1, b2⟩ := hask _ _ _ _ ha hI hd
        rw [textGo_next _ _ _ _ _ _ _ hs (noteM_eq ask st ks d ha)] at h
        have hnl := noted_len ks d
        have hnm : ∀ y ∈ noted ks d, y ∈ ks ∨ y ∈ Ul := fun y hy => (noted_mem hy).imp id (fun e => by rw [e]; exact hd)
        cases hn : nextM kind i sum t with
        | inl sum' =>
          rw [hn] at h
          obtain ⟨a1, a2, a3, a4, a5⟩ := ih _ _ _ _ _ _ _ h b1 (fun x hx => hl x (List.mem_cons_of_mem _ hx))
          exact ⟨a1, b2.trans a2 (by omega), a3, by rw [List.length_cons]; omega, fun y hy => (a5 y hy).elim (hnm y) .inr⟩
        | inr v =>
          rw [hn] at h
          cases h
          have h0 : 0 ≤ (r.length : Int) * b := Int.mul_nonneg (by omega) hb
          exact ⟨b1, b2.weaken (by omega), next_text hn, by rw [List.length_cons]; omega, hnm⟩
theorem text_grow (hb : 0 ≤ b) (hU : Keys rs Ul) (h4 : ∀ r ∈ rs, r.l.length ≤ 4) (hask : AskGrow Ul rm b ask) {st st' : St} {k : Int} {ks : List Int} {s : ByteArray} (h : textM rs (noteM ask) (st, []) k = some ((st', ks), s)) (hI : Inv4 Ul rm st) : Inv4 Ul rm st' ∧ Grow (4 * b) st st' ∧ s ∈ texts0 ∧ ks.length ≤ 4 ∧ ∀ d ∈ ks, d ∈ Ul := by
  have h0 : 0 ≤ 4 * b := by omega
  unfold textM at h
  by_cases hn : k < 0
  · rw [if_pos hn] at h
    cases h
    exact ⟨hI, Grow.refl h0 _, List.mem_cons_self, by simp, fun d hd => by cases hd⟩
  · rw [if_neg hn] at h
    cases hr : rs[k.toNat]? with
    | none =>
      rw [hr] at h
      cases h
      exact ⟨hI, Grow.refl h0 _, List.mem_cons_self, by simp, fun d hd => by cases hd⟩
    | some r =>
      rw [hr] at h
      have hm := List.mem_of_getElem? hr
      obtain ⟨a1, a2, a3, a4, a5⟩ := run_grow hb hask _ _ _ _ _ _ _ _ _ h hI (hU r hm)
      have hl := h4 r hm
      have : (r.l.length : Int) * b ≤ 4 * b := Int.mul_le_mul_of_nonneg_right (by omega) hb
      exact ⟨a1, a2.weaken this, a3, by simp at a4; omega, fun d hd => (a5 d hd).elim (fun h => by cases h) id⟩
theorem step_grow (hb : 0 ≤ b) (hU : Keys rs Ul) (h4 : ∀ r ∈ rs, r.l.length ≤ 4) (hask : AskGrow Ul rm b ask) {st st' : St} {k : Int} {s : ByteArray} (h : stepM rs ask st k = some (st', s)) (hI : Inv4 Ul rm st) (hk : k ∈ Ul) : Inv4 Ul rm st' ∧ Grow (4 * b + 1) st st' := by
  unfold stepM at h
  cases ht : textM rs (noteM ask) (st, []) k with
  | none => rw [ht] at h; cases h
  | some x =>
    obtain ⟨⟨st1, asked⟩, t⟩ := x
    rw [ht] at h
    simp only at h
    obtain ⟨a1, a2, a3, a4, a5⟩ := text_grow hb hU h4 hask ht hI
    by_cases hc1 : st1.cycle = true
    · rw [if_pos hc1] at h
      cases h
      exact ⟨a1, a2.weaken (by omega)⟩
    · rw [if_neg hc1] at h
      cases hw : wroteM st1 k asked t with
      | none => rw [hw] at h; cases h
      | some st2 =>
        rw [hw] at h
        cases h
        obtain ⟨b1, b2⟩ := a1.wrote hk a3 a4 a5 hw
        exact ⟨b1, a2.trans b2 (by omega)⟩
theorem rightGo_grow (hb : 0 ≤ b) (hturn : TurnGrow Ul rm b turned) (k : Int) (l : List Int) : ∀ (st st' : St) (x : Bool), rightGo turned k l st = some (st', x) → Inv4 Ul rm st → (∀ d ∈ l, d ∈ Ul) → Inv4 Ul rm st' ∧ Grow (l.length * b) st st' := by
  induction l with
  | nil =>
    intro st st' x h hI hl
    unfold rightGo at h
    cases hc : st.cells k with
    | none => rw [hc] at h; cases h
    | some c =>
      rw [hc] at h
      cases h
      exact ⟨hI.at_ hc, Int.le_refl _, by show st.steps ≤ _; simp, Int.le_refl _, by show st.hits ≤ _; simp⟩
  | cons d r ih =>
    intro st st' x h hI hl
    have hmul : (((d :: r).length : Nat) : Int) * b = (r.length : Int) * b + b := by
      rw [List.length_cons, Int.natCast_add, Int.add_mul]
      omega
    have h0 : 0 ≤ (r.length : Int) * b := Int.mul_nonneg (by omega) hb
    unfold rightGo at h
    cases ht : turned st d with
    | none => rw [ht] at h; cases h
    | some y =>
      obtain ⟨st1, t⟩ := y
      rw [ht] at h
      simp only at h
      obtain ⟨b1, b2⟩ := hturn _ _ _ _ ht hI (hl d List.mem_cons_self)
      by_cases hc1 : st1.cycle = true
      · rw [if_pos hc1] at h
        cases h
        exact ⟨b1, b2.weaken (by omega)⟩
      · rw [if_neg hc1] at h
        cases hc : st1.cells k with
        | none => rw [hc] at h; cases h
        | some c =>
          rw [hc] at h
          simp only at h
          by_cases hlt : c.at_ < t
          · rw [if_pos hlt] at h
            cases h
            exact ⟨b1, b2.weaken (by omega)⟩
          · rw [if_neg hlt] at h
            obtain ⟨a1, a2⟩ := ih _ _ _ h b1 (fun x hx => hl x (List.mem_cons_of_mem _ hx))
            exact ⟨a1, b2.trans a2 (by omega)⟩
theorem rightM_grow (hb : 0 ≤ b) (hturn : TurnGrow Ul rm b turned) {k : Int} {st st' : St} {x : Bool} (h : rightM turned k st = some (st', x)) (hI : Inv4 Ul rm st) : Inv4 Ul rm st' ∧ Grow (4 * b) st st' := by
  unfold rightM at h
  cases hc : st.cells k with
  | none => rw [hc] at h; cases h
  | some c =>
    rw [hc] at h
    simp only at h
    obtain ⟨q1, q2⟩ := hI.q k c hc
    obtain ⟨a1, a2⟩ := rightGo_grow hb hturn k c.asked _ _ _ h (hI.alike rfl rfl rfl rfl rfl rfl rfl) q2
    have : (c.asked.length : Int) * b ≤ 4 * b := Int.mul_le_mul_of_nonneg_right (by omega) hb
    exact ⟨a1, (show Grow _ st st' from ⟨a2.s1, a2.s2, a2.h1, a2.h2⟩).weaken this⟩
theorem miss_grow (hb : 0 ≤ b) (hU : Keys rs Ul) (h4 : ∀ r ∈ rs, r.l.length ≤ 4) (hask : AskGrow Ul rm b ask) {st st' : St} {k : Int} {s : ByteArray} (h : missIn (stepM rs ask) k st = some (st', s)) (hI : Inv4 Ul rm st) (hk : k ∈ Ul) : Inv4 Ul rm st' ∧ Grow (4 * b + 1) st st' := by
  unfold missIn at h
  by_cases hc : st.cycle = true
  · rw [if_pos hc] at h
    cases h
    exact ⟨hI, Grow.refl (by omega) _⟩
  · rw [if_neg hc] at h
    exact step_grow hb hU h4 hask h hI hk
theorem found_grow (hb : 0 ≤ b) (hU : Keys rs Ul) (h4 : ∀ r ∈ rs, r.l.length ≤ 4) (hask : AskGrow Ul rm b ask) {st st' : St} {k : Int} {s : ByteArray} (h : foundIn (stepM rs ask) k st = some (st', s)) (hI : Inv4 Ul rm st) (hk : k ∈ Ul) : Inv4 Ul rm st' ∧ Grow (4 * b + 1) st st' := by
  unfold foundIn at h
  cases hc : st.cells k with
  | none => rw [hc] at h; cases h
  | some c =>
    rw [hc] at h
    simp only at h
    by_cases hh : c.has = true
    · rw [if_pos hh] at h
      simp only [Option.map_eq_some_iff, Prod.mk.injEq] at h
      obtain ⟨st1, h1, rfl, rfl⟩ := h
      obtain ⟨a, b, c⟩ := hI.use ⟨c, hc, hh⟩ h1
      exact ⟨a, by omega, by omega, by omega, by omega⟩
    · rw [if_neg hh] at h
      exact miss_grow hb hU h4 hask h hI hk
theorem under_grow {α : Type} {c : Int} (hc : 0 ≤ c) {st st' : St} {k : Int} {no x : α} {body : St → Option (St × α)} (h : underM st k no body = some (st', x)) (hI : Inv4 Ul rm st) (hbody : ∀ st1 st2 y, body st1 = some (st2, y) → Inv4 Ul rm st1 → Inv4 Ul rm st2 ∧ Grow c st1 st2) : Inv4 Ul rm st' ∧ Grow c st st' := by
  unfold underM at h
  split at h
  · cases h
    exact ⟨hI.alike rfl rfl rfl rfl rfl rfl rfl, Int.le_refl _, by show st.steps ≤ _; omega, Int.le_refl _, by show st.hits ≤ _; omega⟩
  · cases hb : body { st with busy := setF st.busy k true } with
    | none => rw [hb] at h; cases h
    | some y =>
      obtain ⟨st1, a⟩ := y
      rw [hb] at h
      cases h
      obtain ⟨a1, a2⟩ := hbody _ _ _ hb (hI.alike rfl rfl rfl rfl rfl rfl rfl)
      exact ⟨a1.alike rfl rfl rfl rfl rfl rfl rfl, a2.s1, a2.s2, a2.h1, a2.h2⟩

/-- How much, n steps down. -/
def rise : Nat → Int
  | 0 => 0
  | n + 1 => 8 * rise n + 1
theorem rise_pos : ∀ n, 0 ≤ rise n := by
  intro n
  induction n with
  | zero => exact Int.le_refl _
  | succ n ih => show 0 ≤ 8 * rise n + 1; omega
theorem rise_le {n m : Nat} (h : n ≤ m) : rise n ≤ rise m := by
  induction h with
  | refl => exact Int.le_refl _
  | @step m _ ih =>
    have := rise_pos m
    show _ ≤ 8 * rise m + 1
    omega
theorem both_grow (hU : Keys rs Ul) (h4 : ∀ r ∈ rs, r.l.length ≤ 4) : ∀ n, AskGrow Ul rm (rise n) (askM rs n) ∧ TurnGrow Ul rm (rise n) (turnedM rs n) := by
  intro n
  induction n with
  | zero => exact ⟨(fun st k st' s h => by unfold askM at h; cases h), (fun st k st' t h => by unfold turnedM at h; cases h)⟩
  | succ n ih =>
    have hb := rise_pos n
    have e : rise (n + 1) = 8 * rise n + 1 := rfl
    refine ⟨fun st k st' s h hI hk => ?_, fun st k st' t h hI hk => ?_⟩
    · unfold askM at h
      cases hin : st.inputs k with
      | some x =>
        rw [hin] at h
        cases h
        exact ⟨hI, Grow.refl (rise_pos _) _⟩
      | none =>
        rw [hin] at h
        simp only at h
        by_cases hcy : st.cycle = true
        · rw [if_pos hcy] at h
          cases h
          exact ⟨hI, Grow.refl (rise_pos _) _⟩
        · rw [if_neg hcy] at h
          by_cases hh : hitM st k = true
          · rw [if_pos hh] at h
            simp only [Option.map_eq_some_iff, Prod.mk.injEq] at h
            obtain ⟨st1, h1, rfl, _⟩ := h
            have hx : ∃ c, st.cells k = some c ∧ c.has = true := by
              unfold hitM at hh
              cases hc : st.cells k with
              | none => rw [hc] at hh; cases hh
              | some c =>
                rw [hc] at hh
                simp only [Bool.and_eq_true, decide_eq_true_eq] at hh
                exact ⟨c, rfl, hh.1.2⟩
            obtain ⟨a, b, c⟩ := (show Inv4 Ul rm { st with hits := st.hits + 1 } from hI.alike rfl rfl rfl rfl rfl rfl rfl).use hx h1
            have b : st1.steps = st.steps := b
            have c : st1.hits = st.hits + 1 := c
            exact ⟨a, by omega, by omega, by omega, by omega⟩
          · rw [if_neg hh] at h
            refine under_grow (rise_pos _) h hI (fun st1 st2 y hy hI1 => ?_)
            unfold askIn at hy
            split at hy
            · obtain ⟨a1, a2⟩ := miss_grow hb hU h4 ih.1 hy hI1 hk
              exact ⟨a1, a2.weaken (by omega)⟩
            · split at hy
              · obtain ⟨a1, a2⟩ := found_grow hb hU h4 ih.1 hy hI1 hk
                exact ⟨a1, a2.weaken (by omega)⟩
              · split at hy
                · cases hy
                · rename_i hg
                  obtain ⟨b1, b2⟩ := rightM_grow hb ih.2 hg hI1
                  obtain ⟨a1, a2⟩ := found_grow hb hU h4 ih.1 hy b1 hk
                  exact ⟨a1, b2.trans a2 (by omega)⟩
                · rename_i hg
                  obtain ⟨b1, b2⟩ := rightM_grow hb ih.2 hg hI1
                  obtain ⟨a1, a2⟩ := miss_grow hb hU h4 ih.1 hy b1 hk
                  exact ⟨a1, b2.trans a2 (by omega)⟩
    · unfold turnedM at h
      cases hin : st.inputs k with
      | some x =>
        rw [hin] at h
        cases h
        exact ⟨hI, Grow.refl (rise_pos _) _⟩
      | none =>
        rw [hin] at h
        simp only at h
        cases hu : underM st k () (turnedIn (stepM rs (askM rs n)) (turnedM rs n) k) with
        | none => rw [hu] at h; cases h
        | some z =>
          obtain ⟨st0, u⟩ := z
          rw [hu] at h
          simp only [Option.some.injEq, Prod.mk.injEq] at h
          obtain ⟨rfl, _⟩ := h
          refine under_grow (rise_pos _) hu hI (fun st1 st2 y hy hI1 => ?_)
          unfold turnedIn at hy
          split at hy
          · split at hy
            · cases hy
              exact ⟨hI1, Grow.refl (rise_pos _) _⟩
            · simp only [Option.map_eq_some_iff, Prod.mk.injEq] at hy
              obtain ⟨⟨st3, s⟩, h1, rfl, _⟩ := hy
              obtain ⟨a1, a2⟩ := step_grow hb hU h4 ih.1 h1 hI1 hk
              exact ⟨a1, a2.weaken (by omega)⟩
          · split at hy
            · cases hy
              exact ⟨hI1, Grow.refl (rise_pos _) _⟩
            · split at hy
              · cases hy
              · rename_i hg
                cases hy
                obtain ⟨b1, b2⟩ := rightM_grow hb ih.2 hg hI1
                exact ⟨b1, b2.weaken (by omega)⟩
              · rename_i hg
                obtain ⟨b1, b2⟩ := rightM_grow hb ih.2 hg hI1
                split at hy
                · cases hy
                  exact ⟨b1, b2.weaken (by omega)⟩
                · simp only [Option.map_eq_some_iff, Prod.mk.injEq] at hy
                  obtain ⟨⟨st3, s⟩, h1, rfl, _⟩ := hy
                  obtain ⟨a1, a2⟩ := step_grow hb hU h4 ih.1 h1 b1 hk
                  exact ⟨a1, b2.trans a2 (by omega)⟩
/-- Ask. -/
theorem top_grow (hU : Keys rs Ul) (h4 : ∀ r ∈ rs, r.l.length ≤ 4) {n : Nat} {st st' : St} {k : Int} {s : ByteArray} {er : Int} (h : askTop rs n st k = some (st', s, er)) (hI : Inv4 Ul rm st) (hk : k ∈ Ul) : Inv4 Ul rm st' ∧ Grow (rise n) st st' := by
  unfold askTop at h
  cases ha : askM rs n { st with cycle := false } k with
  | none => rw [ha] at h; cases h
  | some x =>
    obtain ⟨st1, t⟩ := x
    rw [ha] at h
    obtain ⟨a1, a2⟩ := (both_grow (rm := rm) hU h4 n).1 _ _ _ _ ha (hI.alike rfl rfl rfl rfl rfl rfl rfl) hk
    have : st1 = st' := by
      simp only at h
      split at h
      · simp only [Option.some.injEq, Prod.mk.injEq] at h; exact h.1
      · simp only [Option.some.injEq, Prod.mk.injEq] at h; exact h.1
    subst this
    exact ⟨a1, a2.s1, a2.s2, a2.h1, a2.h2⟩
end
end Go.Proofs.Ytfkedhclhmbpfaa
