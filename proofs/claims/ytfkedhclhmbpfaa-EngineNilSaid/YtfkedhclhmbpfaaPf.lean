/-
  A rule's run, and step: they go through, and tell what the rules tell.
-/
import Derived.Test.YtfkedhclhmbpfaaPe
namespace Go.Proofs.Ytfkedhclhmbpfaa
set_option linter.unusedVariables false
set_option linter.unusedSimpArgs false

theorem tmod_thou (x : Int) : valueM (x.tmod 1000) ∈ texts0 := by
  have h1 := Int.tmod_lt_of_pos x (b := 1000) (by omega)
  have h2 := Int.lt_tmod_of_pos x (b := 1000) (by omega)
  exact texts0_value (by omega) (by omega)
theorem tmod_twoT (x : Int) : valueM (x.tmod 2) ∈ texts0 := by
  have h1 := Int.tmod_lt_of_pos x (b := 2) (by omega)
  have h2 := Int.lt_tmod_of_pos x (b := 2) (by omega)
  exact texts0_value (by omega) (by omega)

/-- In range: the keys that have a rule. -/
def inR (rs : List Rule) (k : Int) : Prop := 0 ≤ k ∧ k < rs.length
/-- How many keys with a rule are not under way. -/
def free (rs : List Rule) (st : St) : Nat := ((List.range rs.length).filter fun (i : Nat) => !st.busy (i : Int)).length
theorem free_busy {rs : List Rule} {st st' : St} (h : st'.busy = st.busy) : free rs st' = free rs st := by unfold free; rw [h]

/-- Every key that is under way needs k. -/
def QB (rs : List Rule) (st : St) (k : Int) : Prop := ∀ u, st.busy u = true → ∀ n, (evalM rs n st.inp u).isSome = true → ∃ m, m < n ∧ (evalM rs m st.inp k).isSome = true

/-- What 'ask' is to do. -/
def AskSpec (rs : List Rule) (Ul : List Int) (m : Nat) (ask : St → Int → Option (St × ByteArray)) : Prop :=
  ∀ st k, InvA Ul st → InvB rs st → k ∈ Ul → free rs st < m → (st.cycle = false → QB rs st k) → ∃ st' s, ask st k = some (st', s) ∧ InvA Ul st' ∧ InvB rs st' ∧ Ext (fun u => st.busy u = true) st st' ∧ st'.budget = st.budget ∧
    (st'.cycle = false → val rs st.inp k = some s ∧ Good rs st' k) ∧ (st.cycle = false → st'.cycle = true → val rs st.inp k = none)
/-- What 'turned' is to do. -/
def TurnSpec (rs : List Rule) (Ul : List Int) (m : Nat) (turned : St → Int → Option (St × Int)) : Prop :=
  ∀ st k, InvA Ul st → InvB rs st → k ∈ Ul → free rs st < m → st.cycle = false → QB rs st k → ∃ st' t, turned st k = some (st', t) ∧ InvA Ul st' ∧ InvB rs st' ∧ Ext (fun u => st.busy u = true) st st' ∧ st'.budget = st.budget ∧
    (st'.cycle = false → (∀ x, st.inputs k = some x → t = x.2) ∧ (st.inputs k = none → ∃ c, st'.core k = some c ∧ c.at_ = st.rev ∧ c.turned = t)) ∧ (st'.cycle = true → val rs st.inp k = none)

theorem noteM_eq (ask : St → Int → Option (St × ByteArray)) (st : St) (ks : List Int) (d : Int) {st1 : St} {t : ByteArray} (h : ask st d = some (st1, t)) : noteM ask (st, ks) d = some ((st1, noted ks d), t) := by
  unfold noteM noted
  rw [h]

theorem pureA_some {f : Int → Option ByteArray} {d : Int} {t : ByteArray} (h : f d = some t) : pureA f () d = some ((), t) := by unfold pureA; rw [h]; rfl
theorem pureA_none {f : Int → Option ByteArray} {d : Int} (h : f d = none) : pureA f () d = none := by unfold pureA; rw [h]; rfl
theorem repA_some {f : Int → Option ByteArray} {ks : List Int} {d : Int} {t : ByteArray} (h : f d = some t) : repA f ks d = some (noted ks d, t) := by unfold repA; rw [h]; rfl

/-- A rule's run. -/
theorem run_good {rs : List Rule} {Ul : List Int} {m : Nat} {ask : St → Int → Option (St × ByteArray)} (hask : AskSpec rs Ul m ask) (kind : Int) (k : Int) (l : List Int) :
    ∀ (i : Nat) (sum : Int) (st : St) (ks : List Int), InvA Ul st → InvB rs st → (∀ d ∈ l, d ∈ Ul) → free rs st < m → st.busy k = true →
    (st.cycle = false → (∀ u, st.busy u = true → u ≠ k → ∀ n, (evalM rs n st.inp u).isSome = true → ∃ m, m < n ∧ (evalM rs m st.inp k).isSome = true) ∧ ∀ m, (evalM rs (m + 1) st.inp k).isSome = true → (textGo kind (pureA (evalM rs m st.inp)) l i sum ()).isSome = true) →
    ∃ st' ks' s, textGo kind (noteM ask) l i sum (st, ks) = some ((st', ks'), s) ∧ InvA Ul st' ∧ InvB rs st' ∧ Ext (fun u => st.busy u = true) st st' ∧ st'.budget = st.budget ∧ s ∈ texts0 ∧
      (st'.cycle = false → textGo kind (repA (val rs st.inp)) l i sum ks = some (ks', s) ∧ ∀ d ∈ ks', d ∈ ks ∨ Good rs st' d) ∧
      (st.cycle = false → st'.cycle = true → ∀ m, evalM rs (m + 1) st.inp k = none) := by
  induction l with
  | nil =>
    intro i sum st ks hA hB _ _ _ _
    refine ⟨st, ks, valueM (sum.tmod 1000), by rw [textGo], hA, hB, Ext.refl _ _, rfl, tmod_thou sum, fun _ => ⟨by rw [textGo], fun d hd => .inl hd⟩, fun h h' => by rw [h] at h'; cases h'⟩
  | cons d r ih =>
    intro i sum st ks hA hB hl hf hb hC
    rw [textGo_cons]
    by_cases hskip : kind = 1 ∧ (2 < i ∨ (0 < i ∧ (i : Int) ≠ 1 + sum.tmod 2))
    · rw [if_pos hskip]
      obtain ⟨st', ks', s, h1, h2, h3, h4, h5, h6, h7, h8⟩ := ih (i + 1) sum st ks hA hB (fun d hd => hl d (List.mem_cons_of_mem _ hd)) hf hb (fun hc => ⟨(hC hc).1, fun m hm => by
        have := (hC hc).2 m hm
        rw [textGo_cons, if_pos hskip] at this
        exact this⟩)
      exact ⟨st', ks', s, h1, h2, h3, h4, h5, h6, fun hc => ⟨by rw [textGo_cons, if_pos hskip]; exact (h7 hc).1, (h7 hc).2⟩, h8⟩
    · rw [if_neg hskip]
      have need : st.cycle = false → ∀ m, (evalM rs (m + 1) st.inp k).isSome = true → (evalM rs m st.inp d).isSome = true := by
        intro hc m hm
        have := (hC hc).2 m hm
        rw [textGo_cons, if_neg hskip] at this
        cases hd : evalM rs m st.inp d with
        | none => rw [pureA_none hd] at this; cases this
        | some _ => rfl
      have hQ : st.cycle = false → QB rs st d := by
        intro hc u hu n hn
        by_cases e : u = k
        · subst e
          cases n with
          | zero => cases hn
          | succ n => exact ⟨n, Nat.lt_succ_self n, need hc n hn⟩
        · obtain ⟨m', hm', hk'⟩ := (hC hc).1 u hu e n hn
          cases m' with
          | zero => cases hk'
          | succ m' => exact ⟨m', by omega, need hc m' hk'⟩
      obtain ⟨st1, t, a1, a2, a3, a4, a5, a6, a7⟩ := hask st d hA hB (hl d List.mem_cons_self) hf hQ
      rw [noteM_eq ask st ks d a1]
      simp only
      have hinp := a4.inp
      -- where a cycle is met
      have hcyc : st.cycle = false → st1.cycle = true → ∀ m, evalM rs (m + 1) st.inp k = none := by
        intro hc hc1 m
        have hv := a7 hc hc1
        cases hk : evalM rs (m + 1) st.inp k with
        | none => rfl
        | some z =>
          have := need hc m (by rw [hk]; rfl)
          obtain ⟨y, hy⟩ := Option.isSome_iff_exists.1 this
          rw [val_some.2 ⟨m, hy⟩] at hv
          cases hv
      have hcst : st1.cycle = false → st.cycle = false := fun h => by
        cases hc : st.cycle with
        | false => rfl
        | true => rw [a4.cyc hc] at h; cases h
      -- what is needed of the rest
      have hrest : ∀ (i' : Nat) (sum' : Int), (∀ f : Int → Option ByteArray, f d = some t → textGo kind (pureA f) (d :: r) i sum () = textGo kind (pureA f) r i' sum' ()) →
          (∀ f : Int → Option ByteArray, f d = some t → textGo kind (repA f) (d :: r) i sum ks = textGo kind (repA f) r i' sum' (noted ks d)) →
          ∃ st' ks' s, textGo kind (noteM ask) r i' sum' (st1, noted ks d) = some ((st', ks'), s) ∧ InvA Ul st' ∧ InvB rs st' ∧ Ext (fun u => st.busy u = true) st st' ∧ st'.budget = st.budget ∧ s ∈ texts0 ∧
            (st'.cycle = false → textGo kind (repA (val rs st.inp)) (d :: r) i sum ks = some (ks', s) ∧ ∀ d ∈ ks', d ∈ ks ∨ Good rs st' d) ∧
            (st.cycle = false → st'.cycle = true → ∀ m, evalM rs (m + 1) st.inp k = none) := by
        intro i' sum' hp hr
        obtain ⟨st', ks', s, h1, h2, h3, h4, h5, h6, h7, h8⟩ := ih i' sum' st1 (noted ks d) a2 a3 (fun d hd => hl d (List.mem_cons_of_mem _ hd)) (by rw [free_busy a4.busy]; exact hf) (by rw [a4.busy]; exact hb) (fun hc1 => by
          obtain ⟨q1, q2⟩ := hC (hcst hc1)
          rw [hinp, a4.busy]
          refine ⟨q1, fun m hm => ?_⟩
          have := q2 m hm
          have hdm : evalM rs m st.inp d = some t := by
            cases hd : evalM rs m st.inp d with
            | none => rw [textGo_cons, if_neg hskip, pureA_none hd] at this; cases this
            | some y =>
              have hv := (a6 hc1).1
              rw [val_some.2 ⟨m, hd⟩] at hv
              rw [Option.some.inj hv]
          rw [hp _ hdm] at this
          exact this)
        rw [a4.busy] at h4
        refine ⟨st', ks', s, h1, h2, h3, a4.trans h4, h5.trans a5, h6, fun hc => ?_, fun hc hc' => ?_⟩
        · have hc1 : st1.cycle = false := by
            cases hh : st1.cycle with
            | false => rfl
            | true => rw [h4.cyc hh] at hc; cases hc
          obtain ⟨b1, b2⟩ := h7 hc
          rw [hinp] at b1
          refine ⟨by rw [hr _ (a6 hc1).1]; exact b1, fun y hy => ?_⟩
          rcases b2 y hy with hy' | hy'
          · rcases noted_mem hy' with h | rfl
            · exact .inl h
            · exact .inr ((a6 hc1).2.ext h4)
          · exact .inr hy'
        · cases hh : st1.cycle with
          | true => exact hcyc hc hh
          | false =>
            have := h8 hh hc'
            rw [hinp] at this
            exact this
      -- the run's end behind this key
      have hend : ∀ v : ByteArray, v ∈ texts0 → (∀ f : Int → Option ByteArray, f d = some t → textGo kind (repA f) (d :: r) i sum ks = some (noted ks d, v)) →
          ∃ st' ks' s, some ((st1, noted ks d), v) = some ((st', ks'), s) ∧ InvA Ul st' ∧ InvB rs st' ∧ Ext (fun u => st.busy u = true) st st' ∧ st'.budget = st.budget ∧ s ∈ texts0 ∧
            (st'.cycle = false → textGo kind (repA (val rs st.inp)) (d :: r) i sum ks = some (ks', s) ∧ ∀ d ∈ ks', d ∈ ks ∨ Good rs st' d) ∧
            (st.cycle = false → st'.cycle = true → ∀ m, evalM rs (m + 1) st.inp k = none) := by
        intro v hv hr
        refine ⟨st1, noted ks d, v, rfl, a2, a3, a4, a5, hv, fun hc => ⟨hr _ (a6 hc).1, fun y hy => ?_⟩, hcyc⟩
        rcases noted_mem hy with h | rfl
        · exact .inl h
        · exact .inr (a6 hc).2
      by_cases h1 : kind = 1 ∧ i = 0
      · rw [if_pos h1]
        exact hrest (i + 1) (numberM t) (fun f hf => by rw [textGo_cons, if_neg hskip, pureA_some hf]; simp only; rw [if_pos h1]) (fun f hf => by rw [textGo_cons, if_neg hskip, repA_some hf]; simp only; rw [if_pos h1])
      · rw [if_neg h1]
        by_cases h2 : kind = 2
        · rw [if_pos h2]
          exact hend _ (tmod_twoT _) (fun f hf => by rw [textGo_cons, if_neg hskip, repA_some hf]; simp only; rw [if_neg h1, if_pos h2])
        · rw [if_neg h2]
          by_cases h3 : kind = 1
          · rw [if_pos h3]
            exact hend _ (tmod_thou _) (fun f hf => by rw [textGo_cons, if_neg hskip, repA_some hf]; simp only; rw [if_neg h1, if_neg h2, if_pos h3])
          · rw [if_neg h3]
            exact hrest (i + 1) _ (fun f hf => by rw [textGo_cons, if_neg hskip, pureA_some hf]; simp only; rw [if_neg h1, if_neg h2, if_neg h3]) (fun f hf => by rw [textGo_cons, if_neg hskip, repA_some hf]; simp only; rw [if_neg h1, if_neg h2, if_neg h3])

/-- What the rules' keys are. -/
def Keys (rs : List Rule) (Ul : List Int) : Prop := ∀ r ∈ rs, ∀ d ∈ r.l, d ∈ Ul

/-- step. -/
theorem step_good {rs : List Rule} {Ul : List Int} (hU : Keys rs Ul) {m : Nat} {ask : St → Int → Option (St × ByteArray)} (hask : AskSpec rs Ul m ask) {st : St} {k : Int} (hA : InvA Ul st) (hB : InvB rs st) (hk : k ∈ Ul) (hin : st.inputs k = none) (hb : st.busy k = true) (hcy : st.cycle = false) (hf : inR rs k → free rs st < m)
    (hQ : ∀ u, st.busy u = true → u ≠ k → ∀ n, (evalM rs n st.inp u).isSome = true → ∃ m, m < n ∧ (evalM rs m st.inp k).isSome = true) :
    ∃ st' s, stepM rs ask st k = some (st', s) ∧ InvA Ul st' ∧ InvB rs st' ∧ Ext (fun u => st.busy u = true ∧ u ≠ k) st st' ∧ st'.budget = st.budget ∧
      (st'.cycle = false → val rs st.inp k = some s ∧ ∃ c, st'.core k = some c ∧ c.at_ = st.rev ∧ st'.text c = some s) ∧ (st'.cycle = true → val rs st.inp k = none) := by
  have hipk : st.inp k = none := by unfold St.inp; rw [hin]; rfl
  have run : ∃ st1 asked s, textM rs (noteM ask) (st, []) k = some ((st1, asked), s) ∧ InvA Ul st1 ∧ InvB rs st1 ∧ Ext (fun u => st.busy u = true) st st1 ∧ st1.budget = st.budget ∧ s ∈ texts0 ∧
      (st1.cycle = false → textM rs (repA (val rs st.inp)) [] k = some (asked, s) ∧ ∀ d ∈ asked, Good rs st1 d) ∧ (st1.cycle = true → ∀ m, evalM rs (m + 1) st.inp k = none) := by
    unfold textM
    by_cases hneg : k < 0
    · rw [if_pos hneg, if_pos hneg]
      exact ⟨st, [], _, rfl, hA, hB, Ext.refl _ _, rfl, List.mem_cons_self, fun _ => ⟨rfl, fun d hd => by cases hd⟩, (fun h => by rw [hcy] at h; cases h)⟩
    · rw [if_neg hneg, if_neg hneg]
      cases hr : rs[k.toNat]? with
      | none => exact ⟨st, [], _, rfl, hA, hB, Ext.refl _ _, rfl, List.mem_cons_self, fun _ => ⟨rfl, fun d hd => by cases hd⟩, (fun h => by rw [hcy] at h; cases h)⟩
      | some r =>
        have hlt := (List.getElem?_eq_some_iff.1 hr).1
        obtain ⟨st', ks', s, h1, h2, h3, h4, h5, h6, h7, h8⟩ := run_good hask r.kind k r.l 0 k st [] hA hB (hU r (List.mem_of_getElem? hr)) (hf ⟨by omega, by omega⟩) hb (fun _ => ⟨hQ, fun m hm => by
          unfold evalM textM at hm
          rw [hipk, if_neg hneg, hr] at hm
          simpa using hm⟩)
        exact ⟨st', ks', s, h1, h2, h3, h4, h5, h6, fun hc => ⟨(h7 hc).1, fun d hd => ((h7 hc).2 d hd).elim (fun h => by cases h) id⟩, h8 hcy⟩
  obtain ⟨st1, asked, s, h1, h2, h3, h4, h5, h6, h7, h8⟩ := run
  have hW : Ext (fun u => st.busy u = true ∧ u ≠ k) st st1 := h4.weaken (fun u hu => hu.1)
  unfold stepM
  rw [h1]
  simp only
  cases hc : st1.cycle with
  | true =>
    rw [if_pos rfl]
    refine ⟨st1, noBytes, rfl, h2, h3, hW, h5, (fun h => by rw [hc] at h; cases h), fun _ => val_none (fun n => ?_)⟩
    cases n with
    | zero => rfl
    | succ n => exact h8 hc n
  | false =>
    rw [if_neg (by simp)]
    obtain ⟨b1, b2⟩ := h7 hc
    obtain ⟨st2, c1, c2, c3, c4, c5, c6, c7, c8, c9, c10⟩ := wrote_good h2 h3 hk (by rw [h4.inputs]; exact hin) h6 (by rw [h4.inp]; exact b1) b2 (fun u => st.busy u = true ∧ u ≠ k) (fun h => h.2 rfl)
    rw [c1]
    simp only
    obtain ⟨c, e1, e2, e3⟩ := c6
    exact ⟨st2, s, rfl, c2, c3, hW.trans c4, c10.trans h5, fun _ => ⟨val_of_text hipk (textM_rep b1), c, e1, by rw [e2, h4.rev], e3⟩, fun h => by rw [c5, hc] at h; cases h⟩
end Go.Proofs.Ytfkedhclhmbpfaa
