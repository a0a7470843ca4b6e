/-
  Two engines of unlike budgets: a call of both keeps them alike.
-/
import Derived.Test.YtfkedhclhmbpfaaPt
namespace Go.Proofs.Ytfkedhclhmbpfaa
set_option linter.unusedVariables false
set_option linter.unusedSimpArgs false

section
variable {rs : List Rule} {Ul : List Int}

theorem ask_new {k : Int} {t : ByteArray} {b b' : St} (h : R rs (.ask k t) b b') (hin : b.inputs k = none) (hc : b.cells k = none) : ∃ b1, R rs (.step k t) (b.bz k) b1 ∧ b' = b1.ub k := by
  cases h with
  | input h1 => rw [hin] at h1; cases h1
  | hit _ h1 => rw [hc] at h1; cases h1
  | new _ _ _ h1 => exact ⟨_, h1, rfl⟩
  | again _ h1 => rw [hc] at h1; cases h1
  | ok _ h1 => rw [hc] at h1; cases h1
  | okAgain _ h1 => rw [hc] at h1; cases h1
  | wrong _ h1 => rw [hc] at h1; cases h1
theorem ask_old {k : Int} {t : ByteArray} {b b' : St} {c : Cell} (h : R rs (.ask k t) b b') (hin : b.inputs k = none) (hc : b.cells k = some c) (hat : c.at_ ≠ b.rev) :
    ∃ b1 y, R rs (.right k c.asked y) (b.bz k).ck b1 ∧ (y = true ∧ (∃ b2, useM b1 k = some b2 ∧ b' = b2.ub k) ∨ y = true ∧ (∃ b2, R rs (.step k t) b1 b2 ∧ b' = b2.ub k) ∨ y = false ∧ ∃ b2, R rs (.step k t) b1 b2 ∧ b' = b2.ub k) := by
  cases h with
  | input h1 => rw [hin] at h1; cases h1
  | hit _ h1 h2 => rw [hc] at h1; cases h1; exact absurd h2 hat
  | new _ h1 => rw [hc] at h1; cases h1
  | again _ h1 h2 => rw [hc] at h1; cases h1; exact absurd h2 hat
  | ok _ h1 _ _ h2 _ _ h3 => rw [hc] at h1; cases h1; exact ⟨_, true, h2, .inl ⟨rfl, _, h3, rfl⟩⟩
  | okAgain _ h1 _ _ h2 _ _ h3 => rw [hc] at h1; cases h1; exact ⟨_, true, h2, .inr (.inl ⟨rfl, _, h3, rfl⟩)⟩
  | wrong _ h1 _ _ h2 h3 => rw [hc] at h1; cases h1; exact ⟨_, false, h2, .inr (.inr ⟨rfl, _, h3, rfl⟩)⟩
theorem turned_at {k t : Int} {b b' : St} {c : Cell} (h : R rs (.turned k t) b b') (hin : b.inputs k = none) (hc : b.cells k = some c) (hat : c.at_ = b.rev) : b' = (b.bz k).ub k := by
  cases h with
  | tinput h1 => rw [hin] at h1; cases h1
  | tat => rfl
  | tnew _ h1 => rw [hc] at h1; cases h1
  | tok _ h1 h2 => rw [hc] at h1; cases h1; exact absurd hat h2
  | twrong _ h1 h2 => rw [hc] at h1; cases h1; exact absurd hat h2
theorem turned_new {k t : Int} {b b' : St} (h : R rs (.turned k t) b b') (hin : b.inputs k = none) (hc : b.cells k = none) : ∃ b1 s, R rs (.step k s) (b.bz k) b1 ∧ b' = b1.ub k := by
  cases h with
  | tinput h1 => rw [hin] at h1; cases h1
  | tat _ h1 => rw [hc] at h1; cases h1
  | tnew _ _ _ h1 => exact ⟨_, _, h1, rfl⟩
  | tok _ h1 => rw [hc] at h1; cases h1
  | twrong _ h1 => rw [hc] at h1; cases h1
theorem turned_old {k t : Int} {b b' : St} {c : Cell} (h : R rs (.turned k t) b b') (hin : b.inputs k = none) (hc : b.cells k = some c) (hat : c.at_ ≠ b.rev) :
    ∃ b1 y, R rs (.right k c.asked y) (b.bz k).ck b1 ∧ (y = true ∧ b' = b1.ub k ∨ y = false ∧ ∃ b2 s, R rs (.step k s) b1 b2 ∧ b' = b2.ub k) := by
  cases h with
  | tinput h1 => rw [hin] at h1; cases h1
  | tat _ h1 h2 => rw [hc] at h1; cases h1; exact absurd h2 hat
  | tnew _ h1 => rw [hc] at h1; cases h1
  | tok _ h1 _ _ h2 => rw [hc] at h1; cases h1; exact ⟨_, true, h2, .inl ⟨rfl, rfl⟩⟩
  | twrong _ h1 _ _ h2 h3 => rw [hc] at h1; cases h1; exact ⟨_, false, h2, .inr ⟨rfl, _, _, h3, rfl⟩⟩
theorem step_rule {k : Int} {t : ByteArray} {b b' : St} (h : R rs (.step k t) b b') : ∃ b1 asked, R rs (.text k asked t) b b1 ∧ wroteM b1 k asked t = some b' := by
  cases h with
  | rule h hw => exact ⟨_, _, h, hw⟩

theorem Sim.bz {a b : St} (h : Sim a b) (k : Int) : Sim (a.bz k) (b.bz k) := h.alike rfl rfl rfl rfl rfl rfl rfl rfl rfl rfl rfl rfl
theorem Sim.ub {a b : St} (h : Sim a b) (k : Int) : Sim (a.ub k) (b.ub k) := h.alike rfl rfl rfl rfl rfl rfl rfl rfl rfl rfl rfl rfl
theorem Sim.ck {a b : St} (h : Sim a b) : Sim a.ck b.ck := h.alike rfl rfl rfl rfl rfl rfl rfl rfl rfl rfl rfl rfl

/-- What is known of both ahead of a run. -/
structure Both (rs : List Rule) (Ul : List Int) (a b : St) : Prop where
  sim : Sim a b
  aA : InvA Ul a
  aB : InvB rs a
  bA : InvA Ul b
  bB : InvB rs b
  room : Roomy Ul a
theorem Both.bz {a b : St} (h : Both rs Ul a b) (k : Int) : Both rs Ul (a.bz k) (b.bz k) := ⟨h.sim.bz k, h.aA.bz k, h.aB.bz k, h.bA.bz k, h.bB.bz k, h.room.bz k⟩
theorem Both.ck {a b : St} (h : Both rs Ul a b) : Both rs Ul a.ck b.ck := ⟨h.sim.ck, h.aA.ck, h.aB.ck, h.bA.ck, h.bB.ck, h.room.ck⟩

def Rsim (rs : List Rule) (Ul : List Int) : Job → St → St → Prop
  | .ask k s, a, a' => ∀ b b' t, Both rs Ul a b → k ∈ Ul → R rs (.ask k t) b b' → Sim a' b' ∧ Roomy Ul a'
  | .turned k s, a, a' => ∀ b b' t, Both rs Ul a b → k ∈ Ul → R rs (.turned k t) b b' → Sim a' b' ∧ Roomy Ul a'
  | .step k s, a, a' => ∀ b b' t, Both rs Ul a b → k ∈ Ul → a.inputs k = none → R rs (.step k t) b b' → Sim a' b' ∧ Roomy Ul a'
  | .text k ks s, a, a' => ∀ b b' ks' t, Both rs Ul a b → R rs (.text k ks' t) b b' → Sim a' b' ∧ Roomy Ul a'
  | .run kind l i sum ks ks' s, a, a' => ∀ b b' ks'' t, Both rs Ul a b → (∀ d ∈ l, d ∈ Ul) → R rs (.run kind l i sum ks ks'' t) b b' → Sim a' b' ∧ Roomy Ul a'
  | .right k l x, a, a' => ∀ b b' y, Both rs Ul a b → (∀ d ∈ l, d ∈ Ul) → R rs (.right k l y) b b' → x = y ∧ Sim a' b' ∧ Roomy Ul a'

theorem asked_ul (hU : Keys rs Ul) {a : St} (hB : InvB rs a) {k : Int} {c : Cell} (hc : a.cells k = some c) : ∀ d ∈ c.asked, d ∈ Ul := by
  obtain ⟨ans, s, h1, h2, h3⟩ := (hB.cel k _ (core_of_cell hc)).trace
  exact (textM_list hU h2).2.1
/-- Behind 'right': both are as they were but for what 'right' did. -/
theorem right_both (hU : Keys rs Ul) {a b a1 b1 : St} {k : Int} {c : Cell} {x y : Bool} (h : Both rs Ul a b) (hc : a.cells k = some c) (hat : c.at_ ≠ a.rev) (ha : R rs (.right k c.asked x) (a.bz k).ck a1) (hb : R rs (.right k c.asked y) (b.bz k).ck b1)
    (ih : Rsim rs Ul (.right k c.asked x) (a.bz k).ck a1) : x = y ∧ Both rs Ul a1 b1 ∧ a1.rev = a.rev ∧ b1.rev = b.rev ∧ a1.inputs = a.inputs ∧ (x = true → a1.core k = some { coreOf c with at_ := a.rev }) := by
  obtain ⟨e, s1, s2⟩ := ih _ _ _ (h.bz k).ck (asked_ul hU h.aB hc) hb
  obtain ⟨cb, hcb, hcc⟩ := h.sim.some hc
  have easked : cb.asked = c.asked := congrArg Core.asked hcc
  have eat : cb.at_ = c.at_ := congrArg Core.at_ hcc
  obtain ⟨i1, i2, i3, i4, i5, i6⟩ := R_inv hU ha [] (coreOf c) rfl (h.aA.bz k).ck (h.aB.bz k).ck (core_of_cell hc) hat (bz_self a k) (fun d hd => by cases hd)
  obtain ⟨j1, j2, j3, j4, j5, j6⟩ := R_inv hU hb [] (coreOf c) rfl (h.bA.bz k).ck (h.bB.bz k).ck (by rw [← hcc]; exact core_of_cell hcb) (by show c.at_ ≠ b.rev; rw [h.sim.rev]; exact hat) (bz_self b k) (fun d hd => by cases hd)
  exact ⟨e, ⟨s1, i1, i2, j1, j2, s2⟩, i3.rev, j3.rev, i3.inputs, i5⟩

theorem R_sim (hU : Keys rs Ul) {j : Job} {a a' : St} (h : R rs j a a') : Rsim rs Ul j a a' := by
  induction h with
  | @input a k x hin =>
    intro b b' t hs hk hb
    obtain ⟨_, rfl⟩ := ask_input hb (x := x) (by rw [hs.sim.inputs]; exact hin)
    exact ⟨hs.sim, hs.room⟩
  | @hit a a' k c hin hc hat hh hu =>
    intro b b' t hs hk hb
    obtain ⟨u1, u2, _⟩ := use_same hu
    obtain ⟨q1, q2⟩ := value_text hs.aA hc hh
    obtain ⟨s, q3, q4⟩ := (hs.aB.cel k _ (core_of_cell hc)).now hat
    have hg : Good rs a k := ⟨s, q4, fun _ => ⟨_, core_of_cell hc, hat, q3⟩⟩
    have hst := R_still hU hb hs.bA hs.bB hk (hs.sim.good hg)
    have h1 : Sim a a' := ⟨u1.rev, u1.inputs, u1.words, u1.nc, u1.core, by rw [u1.steps]; exact Int.le_refl _⟩
    refine ⟨?_, hs.room.alike u2 u1.budget⟩
    have h2 := hs.sim.right hst
    exact ⟨h2.rev.trans u1.rev.symm, h2.inputs.trans u1.inputs.symm, h2.words.trans u1.words.symm, h2.nc.trans u1.nc.symm, fun x => (h2.core x).trans (u1.core x).symm, by rw [u1.steps]; exact h2.steps⟩
  | @new a a1 k s hin hc hb0 h ih =>
    intro b b' t hs hk hb
    obtain ⟨b1, hb1, rfl⟩ := ask_new hb (by rw [hs.sim.inputs]; exact hin) (hs.sim.none hc)
    obtain ⟨s1, s2⟩ := ih _ _ _ (hs.bz k) hk hin hb1
    exact ⟨s1.ub k, s2.ub k⟩
  | again hin hc hat hh => intro b b' t hs hk hb; rw [hs.room.has _ _ hc] at hh; cases hh
  | @ok a a1 a2 k c c1 hin hc hat hb0 h hc1 hh hu ih =>
    intro b b' t hs hk hb
    obtain ⟨cb, hcb, hcc⟩ := hs.sim.some hc
    have easked : cb.asked = c.asked := congrArg Core.asked hcc
    have eat : cb.at_ = c.at_ := congrArg Core.at_ hcc
    obtain ⟨b1, y, hb1, hcase⟩ := ask_old hb (by rw [hs.sim.inputs]; exact hin) hcb (by rw [eat, hs.sim.rev]; exact hat)
    rw [easked] at hb1
    obtain ⟨rfl, hB1, r1, r2, r3, r4⟩ := right_both hU hs hc hat h hb1 ih
    obtain ⟨u1, u2, _⟩ := use_same hu
    have hroom : Roomy Ul (a2.ub k) := hB1.room.alike u2 u1.budget
    rcases hcase with ⟨_, b2, v1, rfl⟩ | ⟨_, b2, v1, rfl⟩ | ⟨v0, _⟩
    · obtain ⟨v2, v3, _⟩ := use_same v1
      exact ⟨((hB1.sim.left u1).right (SameC.of2 v2)).ub k, hroom⟩
    · have hst := R_still hU v1 hB1.bA hB1.bB hk (by rw [hB1.sim.inputs, r3]; exact hin) ⟨_, by rw [hB1.sim.core]; exact r4 rfl, by rw [r2, hs.sim.rev]⟩
      exact ⟨((hB1.sim.left u1).right hst).ub k, hroom⟩
    · cases v0
  | @okAgain a a1 a2 k c c1 s hin hc hat hb0 h hc1 hh h2 ih ih2 =>
    intro b b' t hs hk hb
    obtain ⟨cb, hcb, hcc⟩ := hs.sim.some hc
    have easked : cb.asked = c.asked := congrArg Core.asked hcc
    have eat : cb.at_ = c.at_ := congrArg Core.at_ hcc
    obtain ⟨b1, y, hb1, hcase⟩ := ask_old hb (by rw [hs.sim.inputs]; exact hin) hcb (by rw [eat, hs.sim.rev]; exact hat)
    rw [easked] at hb1
    obtain ⟨rfl, hB1, _⟩ := right_both hU hs hc hat h hb1 ih
    rw [hB1.room.has _ _ hc1] at hh
    cases hh
  | @wrong a a1 a2 k c s hin hc hat hb0 h h2 ih ih2 =>
    intro b b' t hs hk hb
    obtain ⟨cb, hcb, hcc⟩ := hs.sim.some hc
    have easked : cb.asked = c.asked := congrArg Core.asked hcc
    have eat : cb.at_ = c.at_ := congrArg Core.at_ hcc
    obtain ⟨b1, y, hb1, hcase⟩ := ask_old hb (by rw [hs.sim.inputs]; exact hin) hcb (by rw [eat, hs.sim.rev]; exact hat)
    rw [easked] at hb1
    obtain ⟨rfl, hB1, r1, r2, r3, r4⟩ := right_both hU hs hc hat h hb1 ih
    rcases hcase with ⟨v0, _⟩ | ⟨v0, _⟩ | ⟨_, b2, v1, rfl⟩
    · cases v0
    · cases v0
    · obtain ⟨s1, s2⟩ := ih2 _ _ _ hB1 hk (by rw [r3]; exact hin) v1
      exact ⟨s1.ub k, s2.ub k⟩
  | @tinput a k x hin =>
    intro b b' t hs hk hb
    obtain ⟨_, rfl⟩ := turned_input hb (x := x) (by rw [hs.sim.inputs]; exact hin)
    exact ⟨hs.sim, hs.room⟩
  | @tat a k c hin hc hat hb0 =>
    intro b b' t hs hk hb
    obtain ⟨cb, hcb, hcc⟩ := hs.sim.some hc
    have eat : cb.at_ = c.at_ := congrArg Core.at_ hcc
    rw [turned_at hb (by rw [hs.sim.inputs]; exact hin) hcb (by rw [eat, hs.sim.rev]; exact hat)]
    exact ⟨(hs.sim.bz k).ub k, (hs.room.bz k).ub k⟩
  | @tnew a a1 k c1 s hin hc hb0 h hc1 ih =>
    intro b b' t hs hk hb
    obtain ⟨b1, t', hb1, rfl⟩ := turned_new hb (by rw [hs.sim.inputs]; exact hin) (hs.sim.none hc)
    obtain ⟨s1, s2⟩ := ih _ _ _ (hs.bz k) hk hin hb1
    exact ⟨s1.ub k, s2.ub k⟩
  | @tok a a1 k c c1 hin hc hat hb0 h hc1 ih =>
    intro b b' t hs hk hb
    obtain ⟨cb, hcb, hcc⟩ := hs.sim.some hc
    have easked : cb.asked = c.asked := congrArg Core.asked hcc
    have eat : cb.at_ = c.at_ := congrArg Core.at_ hcc
    obtain ⟨b1, y, hb1, hcase⟩ := turned_old hb (by rw [hs.sim.inputs]; exact hin) hcb (by rw [eat, hs.sim.rev]; exact hat)
    rw [easked] at hb1
    obtain ⟨rfl, hB1, _⟩ := right_both hU hs hc hat h hb1 ih
    rcases hcase with ⟨_, rfl⟩ | ⟨v0, _⟩
    · exact ⟨hB1.sim.ub k, hB1.room.ub k⟩
    · cases v0
  | @twrong a a1 a2 k c c2 s hin hc hat hb0 h h2 hc2 ih ih2 =>
    intro b b' t hs hk hb
    obtain ⟨cb, hcb, hcc⟩ := hs.sim.some hc
    have easked : cb.asked = c.asked := congrArg Core.asked hcc
    have eat : cb.at_ = c.at_ := congrArg Core.at_ hcc
    obtain ⟨b1, y, hb1, hcase⟩ := turned_old hb (by rw [hs.sim.inputs]; exact hin) hcb (by rw [eat, hs.sim.rev]; exact hat)
    rw [easked] at hb1
    obtain ⟨rfl, hB1, r1, r2, r3, r4⟩ := right_both hU hs hc hat h hb1 ih
    rcases hcase with ⟨v0, _⟩ | ⟨_, b2, t', v1, rfl⟩
    · cases v0
    · obtain ⟨s1, s2⟩ := ih2 _ _ _ hB1 hk (by rw [r3]; exact hin) v1
      exact ⟨s1.ub k, s2.ub k⟩
  | @rule a a1 a2 k asked s h hw ih =>
    intro b b' t hs hk hin hb
    obtain ⟨b1, asked', hb1, hw'⟩ := step_rule hb
    obtain ⟨s1, s2⟩ := ih _ _ _ _ hs hb1
    obtain ⟨i1, i2, i3, i4, i5, i6, i7⟩ := R_inv hU h hs.aA hs.aB
    obtain ⟨j1, j2, j3, j4, j5, j6, j7⟩ := R_inv hU hb1 hs.bA hs.bB
    rw [hs.sim.inp, i6] at j6
    simp only [Option.some.injEq, Prod.mk.injEq] at j6
    obtain ⟨rfl, rfl⟩ := j6
    have w1 := wrote_is hw
    have w2 := wrote_is hw'
    rw [s1.words] at w2
    obtain ⟨_, _, _, _, _, _, _, _, hroom⟩ := roomy_wrote i1 s2 i5 hw
    refine ⟨?_, hroom⟩
    have hnew : Sim (newSt a1 k asked (wordF a1.words s).2 (wordF a1.words s).1) (newSt b1 k asked (wordF a1.words s).2 (wordF a1.words s).1) := by
      refine ⟨s1.rev, s1.inputs, rfl, ?_, fun x => ?_, ?_⟩
      · show (if (b1.cells k).isSome then b1.nc else b1.nc + 1) = (if (a1.cells k).isSome then a1.nc else a1.nc + 1)
        rw [core_some, core_some, s1.core, s1.nc]
      · by_cases e : x = k
        · subst e
          rw [new_core_self, new_core_self, newCell_core, newCell_core, s1.core, s1.rev]
        · rw [new_core_other _ _ _ _ e, new_core_other _ _ _ _ e]
          exact s1.core x
      · show a1.steps + 1 ≤ b1.steps + 1
        have := s1.steps
        omega
    exact (hnew.left w1).right (SameC.of2 w2)
  | @text0 a k hn =>
    intro b b' ks' t hs hb
    cases hb with
    | text0 => exact ⟨hs.sim, hs.room⟩
    | text1 hk hr h =>
      rcases hn with hn | hn
      · omega
      · rw [hr] at hn; cases hn
  | @text1 a a1 k r ks s hk hr h ih =>
    intro b b' ks' t hs hb
    cases hb with
    | text0 hn =>
      rcases hn with hn | hn
      · omega
      · rw [hr] at hn; cases hn
    | text1 hk' hr' h' =>
      rw [hr] at hr'
      cases hr'
      exact ih _ _ _ _ hs (hU r (List.mem_of_getElem? hr)) h'
  | rnil =>
    intro b b' ks'' t hs hl hb
    cases hb with
    | rnil => exact ⟨hs.sim, hs.room⟩
  | @rskip a a' kind d l i sum ks ks' s hsk h ih =>
    intro b b' ks'' t hs hl hb
    have hl' : ∀ x ∈ l, x ∈ Ul := fun x hx => hl x (List.mem_cons_of_mem _ hx)
    cases hb with
    | rskip _ h' => exact ih _ _ _ _ hs hl' h'
    | rmore hn => exact absurd hsk hn
    | rstop hn => exact absurd hsk hn
  | @rmore a a1 a' kind d l i sum sum' ks ks' s t hsk ha hn h ih ih2 =>
    intro b b' ks'' t' hs hl hb
    have hl' : ∀ x ∈ l, x ∈ Ul := fun x hx => hl x (List.mem_cons_of_mem _ hx)
    have hd := hl d List.mem_cons_self
    obtain ⟨i1, i2, i3, i4, i5, i6⟩ := R_inv hU ha hs.aA hs.aB hd
    cases hb with
    | rskip h' => exact absurd h' hsk
    | rmore _ hb1 hn' h' =>
      obtain ⟨j1, j2, j3, j4, j5, j6⟩ := R_inv hU hb1 hs.bA hs.bB hd
      rw [hs.sim.inp, i5] at j5
      obtain rfl := Option.some.inj j5
      rw [hn] at hn'
      cases hn'
      obtain ⟨s1, s2⟩ := ih _ _ _ hs hd hb1
      exact ih2 _ _ _ _ ⟨s1, i1, i2, j1, j2, s2⟩ hl' h'
    | rstop _ hb1 hn' =>
      obtain ⟨j1, j2, j3, j4, j5, j6⟩ := R_inv hU hb1 hs.bA hs.bB hd
      rw [hs.sim.inp, i5] at j5
      obtain rfl := Option.some.inj j5
      rw [hn] at hn'
      cases hn'
  | @rstop a a1 kind d l i sum ks t v hsk ha hn ih =>
    intro b b' ks'' t' hs hl hb
    have hd := hl d List.mem_cons_self
    obtain ⟨i1, i2, i3, i4, i5, i6⟩ := R_inv hU ha hs.aA hs.aB hd
    cases hb with
    | rskip h' => exact absurd h' hsk
    | rmore _ hb1 hn' h' =>
      obtain ⟨j1, j2, j3, j4, j5, j6⟩ := R_inv hU hb1 hs.bA hs.bB hd
      rw [hs.sim.inp, i5] at j5
      obtain rfl := Option.some.inj j5
      rw [hn] at hn'
      cases hn'
    | rstop _ hb1 hn' => exact ih _ _ _ hs hd hb1
  | @gnil a k c hc =>
    intro b b' y hs hl hb
    cases hb with
    | @gnil _ _ cb hcb =>
      obtain ⟨cb', hcb', hcc⟩ := hs.sim.some hc
      rw [hcb] at hcb'
      obtain rfl := Option.some.inj hcb'
      refine ⟨rfl, ⟨hs.sim.rev, hs.sim.inputs, hs.sim.words, hs.sim.nc, fun x => ?_, hs.sim.steps⟩, ⟨fun x cx hx => ?_, hs.room.budget, hs.room.few⟩⟩
      · show Option.map coreOf (setF b.cells k (some { cb with at_ := b.rev }) x) = Option.map coreOf (setF a.cells k (some { c with at_ := a.rev }) x)
        by_cases e : x = k
        · subst e
          rw [setF_same, setF_same, hs.sim.rev]
          have e1 : cb.digest = c.digest := congrArg Core.digest hcc
          have e2 : cb.asked = c.asked := congrArg Core.asked hcc
          have e3 : cb.turned = c.turned := congrArg Core.turned hcc
          unfold coreOf
          simp only [Option.map_some, Option.some.injEq, Core.mk.injEq]
          exact ⟨e1, e2, trivial, e3⟩
        · rw [setF_other _ _ e, setF_other _ _ e]
          exact hs.sim.core x
      · have hx : setF a.cells k (some { c with at_ := a.rev }) x = some cx := hx
        by_cases e : x = k
        · subst e; rw [setF_same] at hx; cases hx; exact hs.room.has x c hc
        · rw [setF_other _ _ e] at hx; exact hs.room.has x cx hx
  | @gold a a1 k d t l c h hc hlt ih =>
    intro b b' y hs hl hb
    have hd := hl d List.mem_cons_self
    obtain ⟨i1, i2, i3, i4, i5, i6⟩ := R_inv hU h hs.aA hs.aB hd
    have key : ∀ {t' b1 : _}, R rs (.turned d t') b b1 → Sim a1 b1 → t' = t := by
      intro t' b1 hb1 hsim
      obtain ⟨j1, j2, j3, j4, j5, j6⟩ := R_inv hU hb1 hs.bA hs.bB hd
      cases hin : a.inputs d with
      | some x => rw [i5 x hin, j5 x (by rw [hs.sim.inputs]; exact hin)]
      | none =>
        obtain ⟨c1, p1, p2, p3⟩ := i6 hin
        obtain ⟨c2, q1, q2, q3⟩ := j6 (by rw [hs.sim.inputs]; exact hin)
        rw [hsim.core, p1] at q1
        rw [← p3, ← q3, Option.some.inj q1]
    cases hb with
    | gold hb1 hcb hltb =>
      obtain ⟨s1, s2⟩ := ih _ _ _ hs hd hb1
      exact ⟨rfl, s1, s2⟩
    | gmore hb1 hcb hltb h2 =>
      obtain ⟨s1, s2⟩ := ih _ _ _ hs hd hb1
      obtain ⟨cb', hcb', hcc⟩ := s1.some hc
      rw [hcb] at hcb'
      obtain rfl := Option.some.inj hcb'
      have eat := congrArg Core.at_ hcc
      have et := key hb1 s1
      subst et
      exact absurd (by show _ < _; rw [show c.at_ = _ from eat.symm] at hlt; exact hlt) hltb
  | @gmore a a1 a' k d t l c x h hc hlt h2 ih ih2 =>
    intro b b' y hs hl hb
    have hd := hl d List.mem_cons_self
    have hl' : ∀ x ∈ l, x ∈ Ul := fun x hx => hl x (List.mem_cons_of_mem _ hx)
    obtain ⟨i1, i2, i3, i4, i5, i6⟩ := R_inv hU h hs.aA hs.aB hd
    have key : ∀ {t' b1 : _}, R rs (.turned d t') b b1 → Sim a1 b1 → t' = t := by
      intro t' b1 hb1 hsim
      obtain ⟨j1, j2, j3, j4, j5, j6⟩ := R_inv hU hb1 hs.bA hs.bB hd
      cases hin : a.inputs d with
      | some x => rw [i5 x hin, j5 x (by rw [hs.sim.inputs]; exact hin)]
      | none =>
        obtain ⟨c1, p1, p2, p3⟩ := i6 hin
        obtain ⟨c2, q1, q2, q3⟩ := j6 (by rw [hs.sim.inputs]; exact hin)
        rw [hsim.core, p1] at q1
        rw [← p3, ← q3, Option.some.inj q1]
    cases hb with
    | gold hb1 hcb hltb =>
      obtain ⟨s1, s2⟩ := ih _ _ _ hs hd hb1
      obtain ⟨cb', hcb', hcc⟩ := s1.some hc
      rw [hcb] at hcb'
      obtain rfl := Option.some.inj hcb'
      have eat := congrArg Core.at_ hcc
      have et := key hb1 s1
      subst et
      exact absurd (by have e := eat; unfold coreOf at e; simp only at e; omega) hlt
    | gmore hb1 hcb hltb h2' =>
      obtain ⟨s1, s2⟩ := ih _ _ _ hs hd hb1
      obtain ⟨j1, j2, j3, j4, j5, j6⟩ := R_inv hU hb1 hs.bA hs.bB hd
      exact ih2 _ _ _ ⟨s1, i1, i2, j1, j2, s2⟩ hl' h2'
end
end Go.Proofs.Ytfkedhclhmbpfaa
