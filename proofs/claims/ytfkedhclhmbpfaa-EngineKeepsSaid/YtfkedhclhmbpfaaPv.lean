/-
  EngineKeeps and EngineBudgets, the plain part.
-/
import Derived.Test.YtfkedhclhmbpfaaPu
import Derived.Test.YtfkedhclhmbpfaaTel
namespace Go.Proofs.Ytfkedhclhmbpfaa
set_option linter.unusedVariables false
set_option linter.unusedSimpArgs false

section
variable {rs : List Rule} {Ul : List Int} {rm : Prop}
theorem Inv4.set_ {st st' : St} {k : Int} {s : ByteArray} (h : Inv4 Ul rm st) (hf : Fine rs Ul st') (hm : setM st k s = some st') : Inv4 Ul rm st' := by
  refine ⟨hf.a, hf.b.wnd, fun x c hx => ?_, fun hr => (h.r hr).set_ hm⟩
  by_cases hne : st.inp k = some s
  · unfold setM at hm
    rw [if_pos (by exact hne)] at hm
    cases hm
    exact h.q x c hx
  · obtain ⟨_, _, a, b, _⟩ := set_same hm hne
    by_cases e : x = k
    · subst e; rw [a] at hx; cases hx
    · rw [b x e] at hx; exact h.q x c hx
theorem new_inv4 (hl : Ul.length ≤ 40000) {n : Int} (h0 : 0 ≤ n) (hn : rm → 1048576 ≤ n) : Inv4 Ul rm (newM n) :=
  ⟨(new_fine (rs := []) (by omega) h0).a, List.nodup_nil, (fun k c h => by cases h), fun hr => roomy_new hl (hn hr)⟩
theorem set_inp_is {st st' : St} {k : Int} {s : ByteArray} (hm : setM st k s = some st') : st'.inp = fun x => if x = k then some s else st.inp x := by
  by_cases hne : st.inp k = some s
  · unfold setM at hm
    rw [if_pos (by exact hne)] at hm
    cases hm
    funext x
    by_cases e : x = k
    · subst e; rw [if_pos rfl]; exact hne
    · rw [if_neg e]
  · obtain ⟨_, a, _⟩ := set_same hm hne
    funext x
    unfold St.inp
    rw [a]
    by_cases e : x = k
    · subst e; rw [setF_same, if_pos rfl]; rfl
    · rw [setF_other _ _ e, if_neg e]
theorem set_steps {st st' : St} {k : Int} {s : ByteArray} (hm : setM st k s = some st') : st'.steps = st.steps ∧ st'.hits = st.hits ∧ st'.budget = st.budget ∧ st.rev ≤ st'.rev ∧ st'.rev ≤ st.rev + 1 := by
  by_cases hne : st.inp k = some s
  · unfold setM at hm
    rw [if_pos (by exact hne)] at hm
    cases hm
    exact ⟨rfl, rfl, rfl, Int.le_refl _, by omega⟩
  · obtain ⟨a, _, _, _, _, b, _, c, d, _⟩ := set_same hm hne
    exact ⟨b, c, d, by omega, by omega⟩

theorem rise_small {n : Nat} (h : n ≤ 9) : rise n ≤ 19173961 := by
  have := rise_le h
  have e : rise 9 = 19173961 := by decide
  omega

/-- What holds in the rounds of EngineKeeps, of both engines. -/
structure KeepI (rs : List Rule) (Ul : List Int) (j : Nat) (e z : St) : Prop where
  fe : Fine rs Ul e
  fz : Fine rs Ul z
  inp : z.inp = e.inp
  re : e.rev ≤ j
  rz : z.rev ≤ j
  e4 : Inv4 Ul True e
  bz : z.budget = 0
  h0 : 0 ≤ e.hits
  h1 : e.hits ≤ 19173961 * j
  vals : ∀ k s, e.inp k = some s → ∃ n, 0 ≤ n ∧ n ≤ 255 ∧ s = valueM n
  r0 : 0 ≤ e.rev
theorem keep_new (hl : Ul.length ≤ 40000) : KeepI rs Ul 0 (newM 1048576) (newM 0) :=
  ⟨new_fine (by omega) (by omega), new_fine (by omega) (by omega), rfl, Int.le_refl _, Int.le_refl _, new_inv4 hl (by omega) (fun _ => by omega), rfl, Int.le_refl _, by show (0 : Int) ≤ _; omega, (fun k s h => by cases h), Int.le_refl _⟩
theorem KeepI.mono {j j' : Nat} {e z : St} (h : KeepI rs Ul j e z) (hj : j ≤ j') : KeepI rs Ul j' e z :=
  ⟨h.fe, h.fz, h.inp, by have := h.re; omega, by have := h.rz; omega, h.e4, h.bz, h.h0, by have := h.h1; omega, h.vals, h.r0⟩
theorem keep_set {j : Nat} {e z : St} (h : KeepI rs Ul j e z) (hj : j ≤ 1000) (k : Int) {n : Int} (n0 : 0 ≤ n) (n1 : n ≤ 255) : ∃ e' z', setM e k (valueM n) = some e' ∧ setM z k (valueM n) = some z' ∧ KeepI rs Ul (j + 1) e' z' := by
  obtain ⟨e', m1, f1, _⟩ := top_set h.fe k (valueM n) (by have := h.re; omega)
  obtain ⟨z', m2, f2, _⟩ := top_set h.fz k (valueM n) (by have := h.rz; omega)
  obtain ⟨a1, a2, a3, a4, a5⟩ := set_steps m1
  obtain ⟨b1, b2, b3, b4, b5⟩ := set_steps m2
  have i1 := set_inp_is m1
  have i2 := set_inp_is m2
  refine ⟨e', z', m1, m2, f1, f2, by rw [i1, i2, h.inp], by have := h.re; omega, by have := h.rz; omega, h.e4.set_ f1 m1, by rw [b3]; exact h.bz, by rw [a2]; exact h.h0, by have := h.h1; omega, fun x s hs => ?_, by have := h.r0; omega⟩
  have hs : (if x = k then some (valueM n) else e.inp x) = some s := by rw [i1] at hs; exact hs
  by_cases e : x = k
  · rw [if_pos e] at hs
    exact ⟨n, n0, n1, (Option.some.inj hs).symm⟩
  · rw [if_neg e] at hs
    exact h.vals x s hs
theorem keep_ask (hU : Keys rs Ul) (h4 : ∀ r ∈ rs, r.l.length ≤ 4) (h8 : rs.length ≤ 8) {j : Nat} {e z : St} (h : KeepI rs Ul j e z) {k : Int} (hk : k ∈ Ul) :
    ∃ e' z' s er, askTop rs (rs.length + 1) e k = some (e', s, er) ∧ askTop rs (rs.length + 1) z k = some (z', s, er) ∧ KeepI rs Ul (j + 1) e' z' := by
  obtain ⟨e', s, er, m1, f1, x1, bu1, c1⟩ := top_ask (n := rs.length + 1) hU h.fe hk (Nat.lt_succ_self _)
  obtain ⟨z', t, er', m2, f2, x2, bu2, c2⟩ := top_ask (n := rs.length + 1) hU h.fz hk (Nat.lt_succ_self _)
  have hsame : s = t ∧ er = er' := by
    rw [h.inp] at c2
    rcases c1 with ⟨rfl, p1, _⟩ | ⟨rfl, rfl, p1⟩
    · rcases c2 with ⟨rfl, p2, _⟩ | ⟨rfl, rfl, p2⟩
      · rw [p1] at p2; exact ⟨Option.some.inj p2, rfl⟩
      · rw [p1] at p2; cases p2
    · rcases c2 with ⟨rfl, p2, _⟩ | ⟨rfl, rfl, p2⟩
      · rw [p1] at p2; cases p2
      · exact ⟨rfl, rfl⟩
  obtain ⟨rfl, rfl⟩ := hsame
  obtain ⟨g1, g2⟩ := top_grow (rm := True) hU h4 m1 h.e4 hk
  have hr := rise_small (n := rs.length + 1) (by omega)
  have i1 : e'.inp = e.inp := x1.inp
  have i2 : z'.inp = z.inp := x2.inp
  exact ⟨e', z', s, er, m1, m2, f1, f2, by rw [i1, i2, h.inp], by have := h.re; have : e'.rev = e.rev := x1.rev; omega, by have := h.rz; have : z'.rev = z.rev := x2.rev; omega, g1, by rw [bu2]; exact h.bz, Int.le_trans h.h0 g2.h1, by have := h.h1; have := g2.h2; omega, by rw [i1]; exact h.vals, by have := h.r0; have : e'.rev = e.rev := x1.rev; omega⟩

theorem x_no {n : Int} (h0 : 0 ≤ n) (h1 : n ≤ 255) : valueM n ≠ ⟨#[120]⟩ := by
  intro e
  have := number_value h0 (by omega)
  rw [e] at this
  have e2 : numberM ⟨#[120]⟩ = 72 := by decide +kernel
  rw [e2] at this
  subst this
  have e3 : valueM 72 ≠ ⟨#[120]⟩ := by decide +kernel
  exact e3 e
/-- Behind an input that no rule asks for: all is calm. -/
theorem calm_after {e2 e3 : St} (f2 : Fine rs Ul e2) {s : ByteArray} (m3 : setM e2 (-77) s = some e3) (hne : e2.inp (-77) ≠ some s) (hz : ∀ r ∈ rs, ∀ d ∈ r.l, d ≠ -77) : Settled e2.rev e3 ∧ ∀ k, k ≠ -77 → Good rs e2 k → Calm e2.rev e3 k := by
  obtain ⟨r3, i3, c3, o3, _⟩ := set_same m3 hne
  have hcore : ∀ x, x ≠ -77 → e3.core x = e2.core x := fun x e => by unfold St.core; rw [o3 x e]
  have hin : ∀ x, x ≠ -77 → e3.inputs x = e2.inputs x := fun x e => by rw [i3, setF_other _ _ e]
  have hcalm : ∀ k, k ≠ -77 → Good rs e2 k → Calm e2.rev e3 k := by
    intro k hk hg
    refine ⟨fun y hy => f2.b.inl k y (by rw [← hin k hk]; exact hy), fun hn => ?_⟩
    obtain ⟨t, _, h2⟩ := hg
    obtain ⟨c, q1, q2, _⟩ := h2 (by rw [← hin k hk]; exact hn)
    exact ⟨c, by rw [hcore k hk]; exact q1, .inl q2⟩
  refine ⟨fun x c hc hat => ?_, hcalm⟩
  have hx : x ≠ -77 := fun e => by
    subst e
    unfold St.core at hc
    rw [c3] at hc
    cases hc
  rw [hcore x hx] at hc
  have hok := f2.b.cel x c hc
  have h1 := hok.at_le
  have h2 := hok.turned_le
  have hat : c.at_ = e2.rev := by omega
  obtain ⟨t, q1, q2, q3⟩ := hok.deps f2.b hat
  refine ⟨by omega, fun d hd => hcalm d ?_ (q3 d hd)⟩
  have := (textM_list (Ul := rs.flatMap fun r => r.l) (fun r hr d hd => List.mem_flatMap.2 ⟨r, hr, hd⟩) q2).2.1 d hd
  obtain ⟨r, hr, hd⟩ := List.mem_flatMap.1 this
  exact hz r hr d hd
/-- The end of EngineKeeps. -/
theorem keep_end (hU : Keys rs Ul) (h4 : ∀ r ∈ rs, r.l.length ≤ 4) (h8 : rs.length ≤ 8) {j : Nat} (hj : j ≤ 1000) {e z : St} (h : KeepI rs Ul j e z) {k : Int} (hk : k ∈ Ul) (hk0 : 0 ≤ k) :
    ∃ e1 s er, askTop rs (rs.length + 1) e k = some (e1, s, er) ∧ (er ≠ 0 ∨ er = 0 ∧ ∃ e2 e3 e4 u x, askTop rs (rs.length + 1) e1 k = some (e2, s, 0) ∧ setM e2 (-77) ⟨#[120]⟩ = some e3 ∧ askTop rs (rs.length + 1) e3 k = some (e4, u, x) ∧
      e2.steps = e1.steps ∧ e2.checks = e1.checks ∧ 0 ≤ e1.hits ∧ e1.hits ≤ e2.hits ∧ e2.hits ≤ e1.hits + 1 ∧ e1.hits ≤ 20000000000 ∧ (0 ≤ e2.rev ∧ e2.rev ≤ 1000) ∧
      ((∀ r ∈ rs, ∀ d ∈ r.l, d ≠ -77) → u = s ∧ x = 0 ∧ e4.steps = e2.steps ∧ e4.rev = e2.rev + 1)) := by
  obtain ⟨e1, s, er, m1, f1, x1, bu1, c1⟩ := top_ask (n := rs.length + 1) hU h.fe hk (Nat.lt_succ_self _)
  refine ⟨e1, s, er, m1, ?_⟩
  rcases c1 with ⟨rfl, p1, hg1⟩ | ⟨rfl, _, _⟩
  · refine .inr ⟨rfl, ?_⟩
    obtain ⟨g1, g2⟩ := top_grow (rm := True) hU h4 m1 h.e4 hk
    have hr := rise_small (n := rs.length + 1) (by omega)
    have hR := g1.r trivial
    have hrev : e1.rev = e.rev := x1.rev
    have hinp : e1.inp = e.inp := x1.inp
    have hv1 : val rs e1.inp k = some s := by rw [hinp]; exact p1
    obtain ⟨e2, m2, f2, r2, i2, b2, R2, hA, hB⟩ := top_ok hU f1 hk hv1
    have hg2 : Good rs e2 k := (R_inv hU R2 hA hB hk).2.2.2.2.2
    have same2 : e2.steps = e1.steps ∧ e2.checks = e1.checks ∧ e1.hits ≤ e2.hits ∧ e2.hits ≤ e1.hits + 1 ∧ e2.cells = e1.cells := by
      cases hin : e1.inputs k with
      | some y =>
        obtain ⟨_, rfl⟩ := ask_input R2 (x := y) hin
        exact ⟨rfl, rfl, Int.le_refl _, by show e1.hits ≤ e1.hits + 1; omega, rfl⟩
      | none =>
        obtain ⟨c, q1, q2⟩ := good_core hg1 hin
        obtain ⟨c0, hc0, rfl⟩ := cell_of_core q1
        obtain ⟨_, a1, a2, a3, a4, a5, a6, a7, _⟩ := ask_there R2 hin hc0 q2 (hR.has k c0 hc0)
        have a7 : e2.hits = e1.hits + 1 := a7
        exact ⟨a5, a6, by omega, by omega, a1⟩
    obtain ⟨q1, q2, q3, q4, q5⟩ := same2
    obtain ⟨e3, m3, f3, _⟩ := top_set f2 (-77) ⟨#[120]⟩ (by have := h.re; omega)
    have hne : e2.inp (-77) ≠ some ⟨#[120]⟩ := by
      intro hx
      have hi : e2.inp = e.inp := by rw [← hinp]; unfold St.inp; rw [i2]
      rw [hi] at hx
      obtain ⟨n, n0, n1, n2⟩ := h.vals _ _ hx
      exact x_no n0 n1 n2.symm
    have hh := h.h0
    have hh1 := h.h1
    have hh2 := g2.h1
    have hh3 := g2.h2
    have hre := h.re
    have hr0 := h.r0
    by_cases hz : ∀ r ∈ rs, ∀ d ∈ r.l, d ≠ -77
    · have hv3 : val rs e3.inp k = some s := by
        refine val_away (z := -77) hz (ip := e2.inp) (fun x hx => ?_) (by omega) (by rw [show e2.inp = e1.inp by unfold St.inp; rw [i2]]; exact hv1)
        rw [set_inp_is m3]
        show _ = if x = -77 then _ else _
        rw [if_neg hx]
      obtain ⟨e4, m4, f4, r4, i4, b4, R4, hA4, hB4⟩ := top_ok hU f3 hk hv3
      obtain ⟨s1, s2⟩ := calm_after f2 m3 hne hz
      obtain ⟨t1, _, _, _, _, t2, _⟩ := set_same m3 hne
      have hR3 : Roomy Ul e3 := (hR.alike q5 b2).set_ m3
      obtain ⟨v1, _⟩ := (R_calm (r0 := e2.rev) R4) (by show e2.rev < e3.rev; omega) s1 (s2 k (by omega) hg2) hR3.has
      have v2 : e4.steps = e3.steps := v1.steps
      refine ⟨e2, e3, e4, s, 0, m2, m3, m4, q1, q2, by omega, q3, q4, by omega, by omega, fun _ => ⟨rfl, rfl, by omega, by omega⟩⟩
    · obtain ⟨e4, u, x, m4, _⟩ := top_ask (n := rs.length + 1) hU f3 hk (Nat.lt_succ_self _)
      exact ⟨e2, e3, e4, u, x, m2, m3, m4, q1, q2, by omega, q3, q4, by omega, by omega, fun h => absurd h hz⟩
  · exact .inl (by decide)

/-- With room each cell has its value. -/
theorem roomy_full {st : St} (hA : InvA Ul st) (hR : Roomy Ul st) : st.used.length = st.nc := by
  obtain ⟨ks, h1, h2, h3⟩ := hA.ncs
  have a := hA.used_nc
  have b := sub_len ks st.used h1 (fun k hk => by
    have := (h2 k).1 hk
    cases hc : st.cells k with
    | none => rw [hc] at this; cases this
    | some c => exact (hA.umem k).2 ⟨c, hc, hR.has k c hc⟩)
  omega

/-- What holds in the rounds of EngineBudgets, of both engines. -/
structure BudI (rs : List Rule) (Ul : List Int) (j : Nat) (a b : St) (cyc : Bool) : Prop where
  fa : Fine rs Ul a
  fb : Fine rs Ul b
  inp : b.inputs = a.inputs
  rev : b.rev = a.rev
  ra : a.rev ≤ j
  a4 : Inv4 Ul True a
  b4 : Inv4 Ul False b
  s0 : 0 ≤ a.steps
  s1 : a.steps ≤ 19173961 * j
  t0 : 0 ≤ b.steps
  t1 : b.steps ≤ 19173961 * j
  sim : cyc = false → Sim a b
theorem bud_new (hl : Ul.length ≤ 40000) {n : Int} (hn : 0 ≤ n) : BudI rs Ul 0 (newM 1048576) (newM n) false :=
  ⟨new_fine (by omega) (by omega), new_fine (by omega) hn, rfl, rfl, Int.le_refl _, new_inv4 hl (by omega) (fun _ => by omega), new_inv4 hl hn (fun h => h.elim), Int.le_refl _, by show (0 : Int) ≤ _; omega, Int.le_refl _, by show (0 : Int) ≤ _; omega, fun _ => ⟨rfl, rfl, rfl, rfl, fun _ => rfl, Int.le_refl _⟩⟩
theorem BudI.mono {j j' : Nat} {a b : St} {c : Bool} (h : BudI rs Ul j a b c) (hj : j ≤ j') : BudI rs Ul j' a b c :=
  ⟨h.fa, h.fb, h.inp, h.rev, by have := h.ra; omega, h.a4, h.b4, h.s0, by have := h.s1; omega, h.t0, by have := h.t1; omega, h.sim⟩
theorem bud_set {j : Nat} {a b : St} {c : Bool} (h : BudI rs Ul j a b c) (hj : j ≤ 1000) (k : Int) (v : ByteArray) : ∃ a' b', setM a k v = some a' ∧ setM b k v = some b' ∧ BudI rs Ul (j + 1) a' b' c := by
  obtain ⟨a', m1, f1, _⟩ := top_set h.fa k v (by have := h.ra; omega)
  obtain ⟨b', m2, f2, _⟩ := top_set h.fb k v (by have := h.ra; have := h.rev; omega)
  obtain ⟨a1, a2, a3, a4, a5⟩ := set_steps m1
  obtain ⟨b1, b2, b3, b4, b5⟩ := set_steps m2
  have hra := h.ra
  have hs1 := h.s1
  have ht1 := h.t1
  have hs0 := h.s0
  have ht0 := h.t0
  have hab : b.inp = a.inp := by unfold St.inp; rw [h.inp]
  by_cases hne : a.inp k = some v
  · have e1 : setM a k v = some a := by unfold setM; exact if_pos hne
    have e2 : setM b k v = some b := by unfold setM; exact if_pos (by rw [h.inp]; exact hne)
    exact ⟨a, b, e1, e2, h.mono (by omega)⟩
  · obtain ⟨p1, p2, p3, p4, p5, p6, p7, p8, p9, p10, p11, p12⟩ := set_same m1 hne
    obtain ⟨q1, q2, q3, q4, q5, q6, q7, q8, q9, q10, q11, q12⟩ := set_same m2 (by rw [hab]; exact hne)
    refine ⟨a', b', m1, m2, f1, f2, by rw [p2, q2, h.inp, h.rev], by rw [p1, q1, h.rev], by omega, h.a4.set_ f1 m1, h.b4.set_ f2 m2, by omega, by omega, by omega, by omega, fun hc => ?_⟩
    have hs := h.sim hc
    refine ⟨by rw [p1, q1, h.rev], by rw [p2, q2, h.inp, h.rev], by rw [p11, q11, hs.words], by rw [p5, q5, core_some, core_some, hs.core, hs.nc], fun x => ?_, by have := hs.steps; omega⟩
    by_cases e : x = k
    · subst e
      unfold St.core
      rw [p3, q3]
    · have := hs.core x
      unfold St.core at this ⊢
      rw [p4 x e, q4 x e]
      exact this
theorem bud_ask (hU : Keys rs Ul) (h4 : ∀ r ∈ rs, r.l.length ≤ 4) (h8 : rs.length ≤ 8) {j : Nat} {a b : St} {c : Bool} (h : BudI rs Ul j a b c) {k : Int} (hk : k ∈ Ul) :
    ∃ a' b' s er, askTop rs (rs.length + 1) a k = some (a', s, er) ∧ askTop rs (rs.length + 1) b k = some (b', s, er) ∧ (er = 0 ∨ er = 8) ∧ BudI rs Ul (j + 1) a' b' (c || !decide (er = 0)) := by
  have hab : b.inp = a.inp := by unfold St.inp; rw [h.inp]
  obtain ⟨a', s, er, m1, f1, x1, bu1, c1⟩ := top_ask (n := rs.length + 1) hU h.fa hk (Nat.lt_succ_self _)
  obtain ⟨b', t, er', m2, f2, x2, bu2, c2⟩ := top_ask (n := rs.length + 1) hU h.fb hk (Nat.lt_succ_self _)
  have hsame : s = t ∧ er = er' ∧ (er = 0 ∨ er = 8) := by
    rw [hab] at c2
    rcases c1 with ⟨rfl, p1, _⟩ | ⟨rfl, rfl, p1⟩
    · rcases c2 with ⟨rfl, p2, _⟩ | ⟨rfl, rfl, p2⟩
      · rw [p1] at p2; exact ⟨Option.some.inj p2, rfl, .inl rfl⟩
      · rw [p1] at p2; cases p2
    · rcases c2 with ⟨rfl, p2, _⟩ | ⟨rfl, rfl, p2⟩
      · rw [p1] at p2; cases p2
      · exact ⟨rfl, rfl, .inr rfl⟩
  obtain ⟨rfl, rfl, he⟩ := hsame
  obtain ⟨g1, g2⟩ := top_grow (rm := True) hU h4 m1 h.a4 hk
  obtain ⟨g3, g4⟩ := top_grow (rm := False) hU h4 m2 h.b4 hk
  have hr := rise_small (n := rs.length + 1) (by omega)
  have hs1 := h.s1
  have ht1 := h.t1
  have hs0 := h.s0
  have ht0 := h.t0
  have k1 := g2.s1
  have k2 := g2.s2
  have k3 := g4.s1
  have k4 := g4.s2
  have ei : a'.inputs = a.inputs := x1.inputs
  have ei2 : b'.inputs = b.inputs := x2.inputs
  have er1 : a'.rev = a.rev := x1.rev
  have er2 : b'.rev = b.rev := x2.rev
  refine ⟨a', b', s, er, m1, m2, he, f1, f2, by rw [ei, ei2, h.inp], by rw [er1, er2, h.rev], by have := h.ra; omega, g1, g3, by omega, by omega, by omega, by omega, fun hc => ?_⟩
  simp only [Bool.or_eq_false_iff, Bool.not_eq_false', decide_eq_true_eq] at hc
  obtain ⟨hc, rfl⟩ := hc
  have hs := h.sim hc
  have Ra := (top_R m1).1
  have Rb := (top_R m2).1
  have hb : Both rs Ul { a with cycle := false } { b with cycle := false } := ⟨hs.alike rfl rfl rfl rfl rfl rfl rfl rfl rfl rfl rfl rfl, h.fa.a.alike rfl rfl rfl rfl rfl rfl rfl, h.fa.b.alike rfl rfl rfl rfl, h.fb.a.alike rfl rfl rfl rfl rfl rfl rfl, h.fb.b.alike rfl rfl rfl rfl, (h.a4.r trivial).alike rfl rfl⟩
  exact ((R_sim hU Ra) _ _ _ hb hk Rb).1
/-- The second engine's budget turns, or it forgets. -/
theorem bud_same {j : Nat} {a b b' : St} {c : Bool} (h : BudI rs Ul j a b c) (fb : Fine rs Ul b') (hs : Same b b') (hn : b'.nc = b.nc) : BudI rs Ul j a b' c := by
  refine ⟨h.fa, fb, by rw [hs.inputs, h.inp], by rw [hs.rev, h.rev], h.ra, h.a4, ⟨fb.a, fb.b.wnd, fun x cx hx => ?_, fun hf => hf.elim⟩, h.s0, h.s1, by rw [hs.steps]; exact h.t0, by rw [hs.steps]; exact h.t1, fun hc => (h.sim hc).right ⟨hs.rev, hs.inputs, hs.words, hn, hs.core, by rw [hs.steps]; exact Int.le_refl _⟩⟩
  have hc := hs.core x
  rw [core_of_cell hx] at hc
  obtain ⟨c0, h0, h1⟩ := cell_of_core hc.symm
  have e : c0.asked = cx.asked := congrArg Core.asked h1
  rw [← e]
  exact h.b4.q x c0 h0
/-- The end of EngineBudgets. -/
theorem bud_end {j : Nat} {a b : St} {c : Bool} (h : BudI rs Ul j a b c) (hj : j ≤ 1000) : b.rev = a.rev ∧ (c = false → b.nc = a.nc ∧ a.steps ≤ b.steps) ∧ (0 ≤ a.steps ∧ a.steps ≤ 20000000000) ∧ (0 ≤ b.steps ∧ b.steps ≤ 20000000000) ∧ a.used.length = a.nc ∧ b.used.length ≤ b.nc := by
  have hs1 := h.s1
  have ht1 := h.t1
  have hs0 := h.s0
  have ht0 := h.t0
  exact ⟨h.rev, fun hc => ⟨(h.sim hc).nc, (h.sim hc).steps⟩, by omega, by omega, roomy_full h.fa.a (h.a4.r trivial), h.fb.nums.2.2.1⟩
end
end Go.Proofs.Ytfkedhclhmbpfaa
