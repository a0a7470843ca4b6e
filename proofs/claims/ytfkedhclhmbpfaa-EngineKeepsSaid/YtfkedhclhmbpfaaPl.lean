/-
  A run without a cycle keeps what holds of an engine, and tells what the rules tell.
-/
import Derived.Test.YtfkedhclhmbpfaaPk
namespace Go.Proofs.Ytfkedhclhmbpfaa
set_option linter.unusedVariables false
set_option linter.unusedSimpArgs false

section
variable {rs : List Rule} {Ul : List Int}
theorem ext_under {st st1 : St} {k : Int} (hb : st.busy k = false) (h4 : Ext (fun u => (st.bz k).busy u = true ∧ u ≠ k) (st.bz k) st1) : Ext (fun u => st.busy u = true) st (st1.ub k) := by
  have hbz : (st1.ub k).busy = st.busy := setF_busy2 h4.busy hb
  refine ⟨h4.rev, h4.inputs, hbz, h4.words, h4.cyc, fun x c hx => ?_, fun x hx hxb => ?_, h4.steps, h4.checks⟩
  · obtain ⟨c', h7, h8⟩ := h4.keep x c hx
    refine ⟨c', h7, ?_⟩
    rcases h8 with h8 | ⟨e1, e2, e3, e4, e5⟩
    · exact .inl h8
    · refine .inr ⟨e1, e2, fun hh => e3 ⟨?_, ?_⟩, e4, e5⟩
      · show setF st.busy k true x = true
        unfold setF; split <;> simp [hh]
      · rintro rfl; rw [hb] at hh; cases hh
  · refine h4.fresh x hx ⟨?_, ?_⟩
    · show setF st.busy k true x = true
      unfold setF; split <;> simp [hxb]
    · rintro rfl; rw [hb] at hxb; cases hxb
theorem ext_ck {B : Int → Prop} {st st1 : St} (h4 : Ext B st.ck st1) : Ext B st st1 := by
  refine ⟨h4.rev, h4.inputs, h4.busy, h4.words, h4.cyc, h4.keep, h4.fresh, h4.steps, ?_⟩
  have : st.checks + 1 ≤ st1.checks := h4.checks
  omega
theorem InvX.bz {X : Int → Prop} {st : St} (h : InvX Ul X st) (k : Int) : InvX Ul X (st.bz k) := h.alike rfl rfl rfl rfl rfl rfl rfl
theorem InvX.ub {X : Int → Prop} {st : St} (h : InvX Ul X st) (k : Int) : InvX Ul X (st.ub k) := h.alike rfl rfl rfl rfl rfl rfl rfl
theorem InvX.ck {X : Int → Prop} {st : St} (h : InvX Ul X st) : InvX Ul X st.ck := h.alike rfl rfl rfl rfl rfl rfl rfl
theorem InvX.ht {X : Int → Prop} {st : St} (h : InvX Ul X st) : InvX Ul X st.ht := h.alike rfl rfl rfl rfl rfl rfl rfl
theorem InvB.bz {st : St} (h : InvB rs st) (k : Int) : InvB rs (st.bz k) := h.alike rfl rfl rfl rfl
theorem InvB.ub {st : St} (h : InvB rs st) (k : Int) : InvB rs (st.ub k) := h.alike rfl rfl rfl rfl
theorem InvB.ck {st : St} (h : InvB rs st) : InvB rs st.ck := h.alike rfl rfl rfl rfl
theorem InvB.ht {st : St} (h : InvB rs st) : InvB rs st.ht := h.alike rfl rfl rfl rfl

/-- A cell is right: it is at the revision. -/
theorem right_nil {k : Int} {c : Core} {st : St} {cell : Cell} (hA : InvA Ul st) (hB : InvB rs st) (hcell : st.cells k = some cell) (hcc : coreOf cell = c) (hne : c.at_ ≠ st.rev) (hP : ∀ d ∈ c.asked, PreOK st c d) :
    InvA Ul (st.setCell k { cell with at_ := st.rev }) ∧ InvB rs (st.setCell k { cell with at_ := st.rev }) ∧ Ext (fun u => st.busy u = true ∧ u ≠ k) st (st.setCell k { cell with at_ := st.rev }) ∧
    (st.setCell k { cell with at_ := st.rev }).core k = some { c with at_ := st.rev } := by
  subst hcc
  have hc : st.core k = some (coreOf cell) := core_of_cell hcell
  have hok := hB.cel k _ hc
  obtain ⟨ans, s, h1, h2, h3⟩ := hok.trace
  have hv : ∀ d ∈ (coreOf cell).asked, ans d = val rs st.inp d ∧ Good rs st d := by
    intro d hd
    obtain ⟨t, ht1, ht2⟩ := h3 d hd
    have := (hP d hd).val hB ht2
    exact ⟨by rw [ht1, this.1], this.2⟩
  have htx := textM_congr h2 (fun d hd => (hv d hd).1)
  have hval : val rs st.inp k = some s := val_of_text (by unfold St.inp; rw [hok.apart]; rfl) (textM_rep htx)
  have hcore : ∀ x, x ≠ k → (st.setCell k { cell with at_ := st.rev }).core x = st.core x := fun x e => by
    unfold St.core St.setCell setF
    simp [e]
  have hself : (st.setCell k { cell with at_ := st.rev }).core k = some { coreOf cell with at_ := st.rev } := by
    unfold St.core St.setCell setF coreOf
    simp
  have hE : Ext (fun u => st.busy u = true ∧ u ≠ k) st (st.setCell k { cell with at_ := st.rev }) := by
    refine ⟨rfl, rfl, rfl, ⟨[], by simp [St.setCell]⟩, id, fun x cx hx => ?_, fun x hx hb' => ?_, Int.le_refl _, Int.le_refl _⟩
    · by_cases e : x = k
      · subst e
        rw [hc] at hx
        obtain rfl := Option.some.inj hx
        exact ⟨_, hself, .inr ⟨rfl, hne, fun h => h.2 rfl, fun _ => rfl, fun h => absurd rfl h⟩⟩
      · exact ⟨cx, by rw [hcore x e]; exact hx, .inl rfl⟩
    · rw [hcore x hb'.2]; exact hx
  have hA' := hA.setCell (c' := { cell with at_ := st.rev }) hcell rfl rfl rfl
  refine ⟨hA', ?_, hE, hself⟩
  refine hB.ext hE hB.wnd (fun x cx hx hnx => ?_)
  by_cases e : x = k
  · subst e
    rw [hself] at hx
    obtain rfl := Option.some.inj hx
    refine ⟨hok.apart, Int.le_refl _, ?_, hok.dig, ⟨val rs st.inp, s, h1, htx, fun y hy => ?_⟩, fun _ => ⟨s, h1, by rw [hE.inp]; exact hval⟩⟩
    · have := hok.turned_le
      have := hok.at_le
      show (coreOf cell).turned ≤ st.rev
      omega
    · obtain ⟨t, q1, q2⟩ := (hv y hy).2
      refine ⟨t, q1, fun z hz _ => ?_, fun hn => ?_⟩
      · have : val rs st.inp y = some z.1 := val_in (by unfold St.inp; rw [show st.inputs y = some z from hz]; rfl)
        rw [this] at q1
        exact Option.some.inj q1
      · obtain ⟨cd, q3, q4, q5⟩ := q2 hn
        obtain ⟨cd', q6, q7⟩ := hE.keep y cd q3
        rcases q7 with rfl | ⟨_, q8, _⟩
        · exact ⟨cd', q6, by show st.rev ≤ cd'.at_; omega, fun _ => hE.text q5⟩
        · exact absurd q4 q8
  · rw [hcore x e] at hx
    exact absurd hx hnx

/-- What a run keeps and tells. -/
def Rinv (rs : List Rule) (Ul : List Int) : Job → St → St → Prop
  | .ask k s, st, st' => InvA Ul st → InvB rs st → k ∈ Ul → InvA Ul st' ∧ InvB rs st' ∧ Ext (fun u => st.busy u = true) st st' ∧ st'.budget = st.budget ∧ val rs st.inp k = some s ∧ Good rs st' k
  | .turned k t, st, st' => InvA Ul st → InvB rs st → k ∈ Ul → InvA Ul st' ∧ InvB rs st' ∧ Ext (fun u => st.busy u = true) st st' ∧ st'.budget = st.budget ∧ (∀ x, st.inputs k = some x → t = x.2) ∧ (st.inputs k = none → ∃ c, st'.core k = some c ∧ c.at_ = st.rev ∧ c.turned = t)
  | .step k s, st, st' => InvA Ul st → InvB rs st → k ∈ Ul → st.inputs k = none → InvA Ul st' ∧ InvB rs st' ∧ Ext (fun u => st.busy u = true ∧ u ≠ k) st st' ∧ st'.budget = st.budget ∧ val rs st.inp k = some s ∧ ∃ c, st'.core k = some c ∧ c.at_ = st.rev ∧ st'.text c = some s
  | .text k ks s, st, st' => InvA Ul st → InvB rs st → InvA Ul st' ∧ InvB rs st' ∧ Ext (fun u => st.busy u = true) st st' ∧ st'.budget = st.budget ∧ s ∈ texts0 ∧ textM rs (repA (val rs st.inp)) [] k = some (ks, s) ∧ ∀ d ∈ ks, Good rs st' d
  | .run kind l i sum ks ks' s, st, st' => InvA Ul st → InvB rs st → (∀ d ∈ l, d ∈ Ul) → InvA Ul st' ∧ InvB rs st' ∧ Ext (fun u => st.busy u = true) st st' ∧ st'.budget = st.budget ∧ s ∈ texts0 ∧ textGo kind (repA (val rs st.inp)) l i sum ks = some (ks', s) ∧ ∀ d ∈ ks', d ∈ ks ∨ Good rs st' d
  | .right k l b, st, st' => ∀ pre c, c.asked = pre ++ l → InvA Ul st → InvB rs st → st.core k = some c → c.at_ ≠ st.rev → st.busy k = true → (∀ d ∈ pre, PreOK st c d) →
      InvA Ul st' ∧ InvB rs st' ∧ Ext (fun u => st.busy u = true ∧ u ≠ k) st st' ∧ st'.budget = st.budget ∧ (b = true → st'.core k = some { c with at_ := st.rev }) ∧ (b = false → st'.core k = some c)

theorem next_text {kind : Int} {i : Nat} {sum : Int} {t v : ByteArray} (h : nextM kind i sum t = .inr v) : v ∈ texts0 := by
  unfold nextM at h
  split at h
  · cases h
  · split at h
    · cases h; exact tmod_twoT _
    · split at h
      · cases h; exact tmod_thou _
      · cases h

theorem bz_self (st : St) (k : Int) : (st.bz k).busy k = true := setF_same _ _ _

theorem R_inv (hU : Keys rs Ul) {j : Job} {st st' : St} (h : R rs j st st') : Rinv rs Ul j st st' := by
  induction h with
  | input hin => exact fun hA hB hk => ⟨hA, hB, Ext.refl _ _, rfl, val_in (by unfold St.inp; rw [hin]; rfl), Good.of_in hin⟩
  | @hit st st' k c hin hc hat hh hu =>
    intro hA hB hk
    obtain ⟨st1, h1, h2, h3, h4, h5, h6, h7, h8, h9⟩ := have_good (k := k) (c := c) hA.ht hB.ht hc hh hat
    rw [hu] at h1
    cases h1
    have hE0 := h4.ext (fun u => st.busy u = true)
    have hE : Ext (fun u => st.busy u = true) st st' := ⟨hE0.rev, hE0.inputs, hE0.busy, hE0.words, hE0.cyc, hE0.keep, hE0.fresh, hE0.steps, hE0.checks⟩
    exact ⟨h2, h3, hE, h5, h6, c.s, by rw [hE.inp]; exact h6, fun _ => ⟨coreOf c, h7, by rw [hE.rev]; exact hat, h8⟩⟩
  | @new st st1 k s hin hc hb h ih =>
    intro hA hB hk
    obtain ⟨a1, a2, a3, a4, a5, c, a6, a7, a8⟩ := ih (hA.bz k) (hB.bz k) hk hin
    have hE := ext_under hb a3
    exact ⟨a1.ub k, a2.ub k, hE, a4, a5, s, by rw [hE.inp]; exact a5, fun _ => ⟨c, a6, by rw [hE.rev]; exact a7, a8⟩⟩
  | @again st st1 k c s hin hc hat hh hb h ih =>
    intro hA hB hk
    obtain ⟨a1, a2, a3, a4, a5, c, a6, a7, a8⟩ := ih (hA.bz k) (hB.bz k) hk hin
    have hE := ext_under hb a3
    exact ⟨a1.ub k, a2.ub k, hE, a4, a5, s, by rw [hE.inp]; exact a5, fun _ => ⟨c, a6, by rw [hE.rev]; exact a7, a8⟩⟩
  | @ok st st1 st2 k c c1 hin hc hat hb h hc1 hh hu ih =>
    intro hA hB hk
    obtain ⟨a1, a2, a3, a4, a5, _⟩ := ih [] (coreOf c) rfl (hA.bz k).ck (hB.bz k).ck (core_of_cell hc) hat (bz_self st k) (fun d hd => by cases hd)
    have a5 := a5 rfl
    have hca : c1.at_ = st.rev := by
      rw [core_of_cell hc1] at a5
      have := congrArg Core.at_ (Option.some.inj a5)
      exact this
    obtain ⟨st3, h1, h2, h3, h4, h5, h6, h7, h8, h9⟩ := have_good (k := k) (c := c1) a1 a2 hc1 hh (by rw [a3.rev]; exact hca)
    rw [hu] at h1
    cases h1
    have hE := ext_under hb ((ext_ck a3).trans ((h4.ext _)))
    have hv : val rs st.inp k = some c1.s := by rw [a3.inp] at h6; exact h6
    exact ⟨h2.ub k, h3.ub k, hE, h5.trans a4, hv, c1.s, by rw [hE.inp]; exact hv, fun _ => ⟨coreOf c1, h7, by rw [hE.rev]; exact hca, h8⟩⟩
  | @okAgain st st1 st2 k c c1 s hin hc hat hb h hc1 hh h2 ih ih2 =>
    intro hA hB hk
    obtain ⟨a1, a2, a3, a4, a5, _⟩ := ih [] (coreOf c) rfl (hA.bz k).ck (hB.bz k).ck (core_of_cell hc) hat (bz_self st k) (fun d hd => by cases hd)
    obtain ⟨b1, b2, b3, b4, b5, c', b6, b7, b8⟩ := ih2 a1 a2 hk (by rw [a3.inputs]; exact hin)
    rw [a3.busy] at b3
    have hE := ext_under hb ((ext_ck a3).trans b3)
    have hv : val rs st.inp k = some s := by rw [a3.inp] at b5; exact b5
    exact ⟨b1.ub k, b2.ub k, hE, b4.trans a4, hv, s, by rw [hE.inp]; exact hv, fun _ => ⟨c', b6, by rw [hE.rev]; exact b7.trans a3.rev, b8⟩⟩
  | @wrong st st1 st2 k c s hin hc hat hb h h2 ih ih2 =>
    intro hA hB hk
    obtain ⟨a1, a2, a3, a4, _, a5⟩ := ih [] (coreOf c) rfl (hA.bz k).ck (hB.bz k).ck (core_of_cell hc) hat (bz_self st k) (fun d hd => by cases hd)
    obtain ⟨b1, b2, b3, b4, b5, c', b6, b7, b8⟩ := ih2 a1 a2 hk (by rw [a3.inputs]; exact hin)
    rw [a3.busy] at b3
    have hE := ext_under hb ((ext_ck a3).trans b3)
    have hv : val rs st.inp k = some s := by rw [a3.inp] at b5; exact b5
    exact ⟨b1.ub k, b2.ub k, hE, b4.trans a4, hv, s, by rw [hE.inp]; exact hv, fun _ => ⟨c', b6, by rw [hE.rev]; exact b7.trans a3.rev, b8⟩⟩
  | @tinput st k x hin => exact fun hA hB hk => ⟨hA, hB, Ext.refl _ _, rfl, fun y hy => by rw [hin] at hy; rw [← Option.some.inj hy], fun hn => by rw [hin] at hn; cases hn⟩
  | @tat st k c hin hc hat hb =>
    intro hA hB hk
    have hE := ext_under hb (Ext.refl (fun u => (st.bz k).busy u = true ∧ u ≠ k) (st.bz k))
    exact ⟨(hA.bz k).ub k, (hB.bz k).ub k, hE, rfl, (fun y hy => by rw [hin] at hy; cases hy), fun _ => ⟨coreOf c, core_of_cell hc, hat, rfl⟩⟩
  | @tnew st st1 k c1 s hin hc hb h hc1 ih =>
    intro hA hB hk
    obtain ⟨a1, a2, a3, a4, a5, c, a6, a7, a8⟩ := ih (hA.bz k) (hB.bz k) hk hin
    rw [core_of_cell hc1] at a6
    cases a6
    exact ⟨a1.ub k, a2.ub k, ext_under hb a3, a4, (fun y hy => by rw [hin] at hy; cases hy), fun _ => ⟨coreOf c1, core_of_cell hc1, a7, rfl⟩⟩
  | @tok st st1 k c c1 hin hc hat hb h hc1 ih =>
    intro hA hB hk
    obtain ⟨a1, a2, a3, a4, a5, _⟩ := ih [] (coreOf c) rfl (hA.bz k).ck (hB.bz k).ck (core_of_cell hc) hat (bz_self st k) (fun d hd => by cases hd)
    have a5 := a5 rfl
    rw [core_of_cell hc1] at a5
    have hca : c1.at_ = st.rev := congrArg Core.at_ (Option.some.inj a5)
    exact ⟨a1.ub k, a2.ub k, ext_under hb (ext_ck a3), a4, (fun y hy => by rw [hin] at hy; cases hy), fun _ => ⟨coreOf c1, core_of_cell hc1, hca, rfl⟩⟩
  | @twrong st st1 st2 k c c2 s hin hc hat hb h h2 hc2 ih ih2 =>
    intro hA hB hk
    obtain ⟨a1, a2, a3, a4, _, a5⟩ := ih [] (coreOf c) rfl (hA.bz k).ck (hB.bz k).ck (core_of_cell hc) hat (bz_self st k) (fun d hd => by cases hd)
    obtain ⟨b1, b2, b3, b4, b5, c', b6, b7, b8⟩ := ih2 a1 a2 hk (by rw [a3.inputs]; exact hin)
    rw [a3.busy] at b3
    rw [core_of_cell hc2] at b6
    cases b6
    exact ⟨b1.ub k, b2.ub k, ext_under hb ((ext_ck a3).trans b3), b4.trans a4, (fun y hy => by rw [hin] at hy; cases hy), fun _ => ⟨coreOf c2, core_of_cell hc2, b7.trans a3.rev, rfl⟩⟩
  | @rule st st1 st2 k asked s h hw ih =>
    intro hA hB hk hin
    obtain ⟨a1, a2, a3, a4, a5, a6, a7⟩ := ih hA hB
    have hv : val rs st.inp k = some s := val_of_text (by unfold St.inp; rw [hin]; rfl) (textM_rep a6)
    obtain ⟨st3, c1, c2, c3, c4, c5, c6, c7, c8, c9, c10⟩ := wrote_good a1 a2 hk (by rw [a3.inputs]; exact hin) a5 (by rw [a3.inp]; exact a6) a7 (fun u => st.busy u = true ∧ u ≠ k) (fun h => h.2 rfl)
    rw [hw] at c1
    cases c1
    obtain ⟨c, e1, e2, e3⟩ := c6
    exact ⟨c2, c3, (a3.weaken (fun u hu => hu.1)).trans c4, c10.trans a4, hv, c, e1, e2.trans a3.rev, e3⟩
  | @text0 st k hn =>
    intro hA hB
    refine ⟨hA, hB, Ext.refl _ _, rfl, List.mem_cons_self, ?_, fun d hd => by cases hd⟩
    unfold textM
    rcases hn with hn | hn
    · rw [if_pos hn]
    · by_cases h0 : k < 0
      · rw [if_pos h0]
      · rw [if_neg h0, hn]
  | @text1 st st1 k r ks s hk hr h ih =>
    intro hA hB
    obtain ⟨a1, a2, a3, a4, a5, a6, a7⟩ := ih hA hB (hU r (List.mem_of_getElem? hr))
    refine ⟨a1, a2, a3, a4, a5, ?_, fun d hd => (a7 d hd).elim (fun h => by cases h) id⟩
    unfold textM
    rw [if_neg (by omega), hr]
    exact a6
  | @rnil st kind i sum ks => exact fun hA hB _ => ⟨hA, hB, Ext.refl _ _, rfl, tmod_thou sum, by rw [textGo], fun d hd => .inl hd⟩
  | @rskip st st' kind d l i sum ks ks' s hs h ih =>
    intro hA hB hl
    obtain ⟨a1, a2, a3, a4, a5, a6, a7⟩ := ih hA hB (fun x hx => hl x (List.mem_cons_of_mem _ hx))
    exact ⟨a1, a2, a3, a4, a5, by rw [textGo_skip _ _ _ _ _ _ _ hs]; exact a6, a7⟩
  | @rmore st st1 st' kind d l i sum sum' ks ks' s t hs ha hn h ih ih2 =>
    intro hA hB hl
    obtain ⟨a1, a2, a3, a4, a5, a6⟩ := ih hA hB (hl d List.mem_cons_self)
    obtain ⟨b1, b2, b3, b4, b5, b6, b7⟩ := ih2 a1 a2 (fun x hx => hl x (List.mem_cons_of_mem _ hx))
    rw [a3.busy] at b3
    rw [a3.inp] at b6
    refine ⟨b1, b2, a3.trans b3, b4.trans a4, b5, ?_, fun y hy => ?_⟩
    · rw [textGo_next _ _ _ _ _ _ _ hs (repA_some a5), hn]
      exact b6
    · rcases b7 y hy with hy | hy
      · rcases noted_mem hy with hy | rfl
        · exact .inl hy
        · exact .inr (a6.ext b3)
      · exact .inr hy
  | @rstop st st1 kind d l i sum ks t v hs ha hn ih =>
    intro hA hB hl
    obtain ⟨a1, a2, a3, a4, a5, a6⟩ := ih hA hB (hl d List.mem_cons_self)
    refine ⟨a1, a2, a3, a4, next_text hn, ?_, fun y hy => ?_⟩
    · rw [textGo_next _ _ _ _ _ _ _ hs (repA_some a5), hn]
    · rcases noted_mem hy with hy | rfl
      · exact .inl hy
      · exact .inr a6
  | @gnil st k cell hcell =>
    intro pre c hpre hA hB hc hne hb hP
    rw [List.append_nil] at hpre
    have hcc : coreOf cell = c := by
      rw [core_of_cell hcell] at hc
      exact Option.some.inj hc
    obtain ⟨a1, a2, a3, a4⟩ := right_nil hA hB hcell hcc hne (by rw [hpre]; exact hP)
    exact ⟨a1, a2, a3, rfl, fun _ => a4, fun h => by cases h⟩
  | @gold st st1 k d t l cell h hcell hlt ih =>
    intro pre c hpre hA hB hc hne hb hP
    have hd : d ∈ Ul := by
      obtain ⟨ans, s, h1, h2, h3⟩ := (hB.cel k c hc).trace
      exact (textM_list hU h2).2.1 d (by rw [hpre]; simp)
    obtain ⟨a1, a2, a3, a4, a5, a6⟩ := ih hA hB hd
    obtain ⟨c1, b1, b2⟩ := a3.keep k c hc
    have hc1 : st1.core k = some c := by
      rcases b2 with rfl | ⟨_, _, h, _⟩
      · exact b1
      · exact absurd hb h
    exact ⟨a1, a2, a3.weaken (fun u hu => hu.1), a4, (fun h => by cases h), fun _ => hc1⟩
  | @gmore st st1 st' k d t l cell b h hcell hlt h2 ih ih2 =>
    intro pre c hpre hA hB hc hne hb hP
    have hd : d ∈ Ul := by
      obtain ⟨ans, s, h1, h2, h3⟩ := (hB.cel k c hc).trace
      exact (textM_list hU h2).2.1 d (by rw [hpre]; simp)
    obtain ⟨a1, a2, a3, a4, a5, a6⟩ := ih hA hB hd
    obtain ⟨c1, b1, b2⟩ := a3.keep k c hc
    have hc1 : st1.core k = some c := by
      rcases b2 with rfl | ⟨_, _, h, _⟩
      · exact b1
      · exact absurd hb h
    have hcc : coreOf cell = c := by
      rw [core_of_cell hcell] at hc1
      exact Option.some.inj hc1
    have hatc : cell.at_ = c.at_ := by rw [← hcc]; rfl
    have hPd : PreOK st1 c d := by
      refine ⟨fun x hx => ?_, fun hn => ?_⟩
      · rw [a3.inputs] at hx
        have := a5 x hx
        omega
      · rw [a3.inputs] at hn
        obtain ⟨cd, q3, q4, q5⟩ := a6 hn
        exact ⟨cd, q3, by rw [a3.rev]; exact q4, by omega⟩
    obtain ⟨e1, e2, e3, e4, e5, e6⟩ := ih2 (pre ++ [d]) c (by rw [hpre, List.append_assoc]; rfl) a1 a2 hc1 (by rw [a3.rev]; exact hne) (by rw [a3.busy]; exact hb) (fun x hx => by
      rcases List.mem_append.1 hx with hx | hx
      · exact (hP x hx).ext a3
      · rw [List.mem_singleton.1 hx]; exact hPd)
    rw [a3.busy] at e3
    exact ⟨e1, e2, (a3.weaken (fun u hu => hu.1)).trans e3, e4.trans a4, fun h => by rw [e5 h, a3.rev], e6⟩
end
end Go.Proofs.Ytfkedhclhmbpfaa
