/-
  An engine with room: each cell has its value; a row of keys: how many steps are taken.
-/
import Derived.Test.YtfkedhclhmbpfaaPl
namespace Go.Proofs.Ytfkedhclhmbpfaa
set_option linter.unusedVariables false
set_option linter.unusedSimpArgs false

/-- With room: each cell has its value. -/
structure Roomy (Ul : List Int) (st : St) : Prop where
  has : ∀ k c, st.cells k = some c → c.has = true
  budget : 1048576 ≤ st.budget
  few : Ul.length ≤ 40000

theorem tot_le (f : Int → Option Cell) (l : List Int) (h : ∀ k ∈ l, ((f k).getD zeroCell).s.size ≤ 21) : tot f l ≤ 22 * l.length := by
  induction l with
  | nil => exact Int.le_refl _
  | cons x r ih =>
    rw [tot_cons]
    have h1 := ih (fun k hk => h k (List.mem_cons_of_mem _ hk))
    have h2 := h x List.mem_cons_self
    unfold cost
    rw [List.length_cons]
    omega
theorem value_text {Ul : List Int} {st : St} (hA : InvA Ul st) {k : Int} {c : Cell} (hc : st.cells k = some c) (hh : c.has = true) : st.text (coreOf c) = some c.s ∧ c.s ∈ texts0 := by
  have h := hA.utext k c hc hh (fun h => h)
  refine ⟨h, hA.wset _ ?_⟩
  unfold St.text at h
  exact List.mem_of_getElem? h
theorem roomy_fits {Ul : List Int} {st : St} (hA : InvA Ul st) (hr : Roomy Ul st) {s : ByteArray} (hs : s ∈ texts0) : cost s ≤ st.budget - st.charged := by
  have h1 : st.charged ≤ 22 * st.used.length := by
    rw [hA.sum]
    refine tot_le _ _ (fun k hk => ?_)
    obtain ⟨c, hc, hh⟩ := (hA.umem k).1 hk
    rw [hc]
    exact (texts0_size (value_text hA hc hh).2).1
  have h2 : st.used.length ≤ Ul.length := sub_len st.used Ul hA.und (fun k hk => hA.cul k (by obtain ⟨c, hc, _⟩ := (hA.umem k).1 hk; rw [hc]; rfl))
  have h3 := hr.few
  have h4 := hr.budget
  have h5 := (texts0_size hs).1
  unfold cost
  omega
/-- What is written where there is room. -/
theorem roomy_wrote {Ul : List Int} {st st' : St} {k : Int} {asked : List Int} {s : ByteArray} (hA : InvA Ul st) (hr : Roomy Ul st) (hs : s ∈ texts0) (h : wroteM st k asked s = some st') :
    ∃ d ws, Same2 (newSt st k asked d ws) st' ∧ 1 ≤ d ∧ ws[(d - 1).toNat]? = some s ∧ (∃ l, ws = st.words ++ l) ∧ (st.words.Nodup → ws.Nodup) ∧ st'.cells = setF st.cells k (some { newCell st k asked d with has := true, s := s }) ∧ Roomy Ul st' := by
  obtain ⟨d, ws, h1, h2, h3, h4, h5, h6, h7⟩ := wrote_same h
  have h7 := h7 (roomy_fits hA hr hs)
  refine ⟨d, ws, h1, h2, h3, h4, h5, h7, ⟨fun x c hx => ?_, by rw [h1.budget]; exact hr.budget, hr.few⟩⟩
  rw [h7] at hx
  by_cases e : x = k
  · subst e
    rw [setF_same] at hx
    cases hx
    rfl
  · rw [setF_other _ _ e] at hx
    exact hr.has x c hx
theorem Roomy.alike {Ul : List Int} {st st' : St} (h : Roomy Ul st) (hc : st'.cells = st.cells) (hb : st'.budget = st.budget) : Roomy Ul st' := ⟨by rw [hc]; exact h.has, by rw [hb]; exact h.budget, h.few⟩
theorem Roomy.bz {Ul : List Int} {st : St} (h : Roomy Ul st) (k : Int) : Roomy Ul (st.bz k) := h.alike rfl rfl
theorem Roomy.ub {Ul : List Int} {st : St} (h : Roomy Ul st) (k : Int) : Roomy Ul (st.ub k) := h.alike rfl rfl
theorem Roomy.ck {Ul : List Int} {st : St} (h : Roomy Ul st) : Roomy Ul st.ck := h.alike rfl rfl

/-- A key whose rule asks for one key alone. -/
def Link (rs : List Rule) (k d : Int) (F : ByteArray → ByteArray) : Prop :=
  ∃ r, 0 ≤ k ∧ rs[k.toNat]? = some r ∧ r.l = [d] ∧ (r.kind = 0 ∧ F = (fun t => valueM (((k + numberM t).tmod 1000).tmod 1000)) ∨ r.kind = 2 ∧ F = (fun t => valueM ((numberM t).tmod 2)))
theorem link_step {rs : List Rule} {k d : Int} {F : ByteArray → ByteArray} (hl : Link rs k d F) {st st2 : St} {s : ByteArray} (h : R rs (.step k s) st st2) : ∃ st1 t, R rs (.ask d t) st st1 ∧ s = F t ∧ s ∈ texts0 ∧ wroteM st1 k [d] s = some st2 := by
  obtain ⟨r, h0, hr, hrl, hF⟩ := hl
  cases h with
  | rule h hw =>
    cases h with
    | text0 hn =>
      rcases hn with hn | hn
      · omega
      · rw [hr] at hn; cases hn
    | text1 hk hr' h =>
      rw [hr] at hr'
      cases hr'
      rw [hrl] at h
      rcases hF with ⟨hk0, rfl⟩ | ⟨hk2, rfl⟩
      · rw [hk0] at h
        cases h with
        | rskip hs h => exact absurd hs.1 (by omega)
        | rmore hs ha hn h =>
          unfold nextM at hn
          rw [if_neg (by omega), if_neg (by omega), if_neg (by omega)] at hn
          cases hn
          cases h with
          | rnil => exact ⟨_, _, ha, rfl, tmod_thou _, hw⟩
        | rstop hs ha hn =>
          unfold nextM at hn
          rw [if_neg (by omega), if_neg (by omega), if_neg (by omega)] at hn
          cases hn
      · rw [hk2] at h
        cases h with
        | rskip hs h => exact absurd hs.1 (by omega)
        | rmore hs ha hn h =>
          unfold nextM at hn
          rw [if_neg (by omega), if_pos rfl] at hn
          cases hn
        | rstop hs ha hn =>
          unfold nextM at hn
          rw [if_neg (by omega), if_pos rfl] at hn
          cases hn
          exact ⟨_, _, ha, rfl, tmod_twoT _, hw⟩

/-- A key of which all is there is asked for. -/
theorem ask_there {rs : List Rule} {k : Int} {c : Cell} {st st' : St} {s : ByteArray} (h : R rs (.ask k s) st st') (hin : st.inputs k = none) (hc : st.cells k = some c) (hat : c.at_ = st.rev) (hh : c.has = true) :
    s = c.s ∧ st'.cells = st.cells ∧ st'.nc = st.nc ∧ st'.rev = st.rev ∧ st'.inputs = st.inputs ∧ st'.steps = st.steps ∧ st'.checks = st.checks ∧ st'.hits = st.hits + 1 ∧ st'.words = st.words ∧ st'.budget = st.budget ∧ st'.busy = st.busy := by
  cases h with
  | input hin' => rw [hin] at hin'; cases hin'
  | hit _ hc' _ _ hu =>
    rw [hc] at hc'
    cases hc'
    obtain ⟨a, b, _⟩ := use_same hu
    exact ⟨rfl, b, a.nc, a.rev, a.inputs, a.steps, a.checks, a.hits, a.words, a.budget, a.busy⟩
  | new _ hc' _ _ => rw [hc] at hc'; cases hc'
  | again _ hc' _ hh' _ _ => rw [hc] at hc'; cases hc'; rw [hh] at hh'; cases hh'
  | ok _ hc' hat' _ _ _ _ _ => rw [hc] at hc'; cases hc'; exact absurd hat hat'
  | okAgain _ hc' hat' _ _ _ _ _ => rw [hc] at hc'; cases hc'; exact absurd hat hat'
  | wrong _ hc' hat' _ _ _ => rw [hc] at hc'; cases hc'; exact absurd hat hat'
theorem ask_input {rs : List Rule} {k : Int} {x : ByteArray × Int} {st st' : St} {s : ByteArray} (h : R rs (.ask k s) st st') (hin : st.inputs k = some x) : s = x.1 ∧ st' = st := by
  cases h with
  | input hin' => rw [hin] at hin'; cases hin'; exact ⟨rfl, rfl⟩
  | hit hin' => rw [hin] at hin'; cases hin'
  | new hin' => rw [hin] at hin'; cases hin'
  | again hin' => rw [hin] at hin'; cases hin'
  | ok hin' => rw [hin] at hin'; cases hin'
  | okAgain hin' => rw [hin] at hin'; cases hin'
  | wrong hin' => rw [hin] at hin'; cases hin'
theorem turned_input {rs : List Rule} {k t : Int} {x : ByteArray × Int} {st st' : St} (h : R rs (.turned k t) st st') (hin : st.inputs k = some x) : t = x.2 ∧ st' = st := by
  cases h with
  | tinput hin' => rw [hin] at hin'; cases hin'; exact ⟨rfl, rfl⟩
  | tat hin' => rw [hin] at hin'; cases hin'
  | tnew hin' => rw [hin] at hin'; cases hin'
  | tok hin' => rw [hin] at hin'; cases hin'
  | twrong hin' => rw [hin] at hin'; cases hin'
/-- A key that asks for one key alone is looked at: by that key. -/
theorem right_one {rs : List Rule} {k d : Int} {b : Bool} {st st' : St} (h : R rs (.right k [d] b) st st') : ∃ st1 t c, R rs (.turned d t) st st1 ∧ st1.cells k = some c ∧ (b = true ∧ ¬ c.at_ < t ∧ st' = st1.setCell k { c with at_ := st1.rev } ∨ b = false ∧ c.at_ < t ∧ st' = st1) := by
  cases h with
  | gold h hc hlt => exact ⟨_, _, _, h, hc, .inr ⟨rfl, hlt, rfl⟩⟩
  | gmore h hc hlt h2 =>
    cases h2 with
    | gnil hc' =>
      rw [hc] at hc'
      cases hc'
      exact ⟨_, _, _, h, hc, .inl ⟨rfl, hlt, rfl⟩⟩

/-- A row of keys: c 0 is an input, each further one asks for the one ahead of it; F are their rules, T their texts. -/
structure Chain (rs : List Rule) (Ul : List Int) (p : Nat) (c : Nat → Int) (F : Nat → ByteArray → ByteArray) (T : Nat → ByteArray) : Prop where
  link : ∀ j, j < p → Link rs (c (j + 1)) (c j) (F j)
  text : ∀ j, j < p → T (j + 1) = F j (T j)
  ul : ∀ j, j ≤ p → c j ∈ Ul
  inj : ∀ i j, i ≤ p → j ≤ p → c i = c j → i = j
/-- The keys but the first are no inputs. -/
structure Heads (p : Nat) (c : Nat → Int) (s0 : ByteArray) (r0 : Int) (st : St) : Prop where
  first : st.inputs (c 0) = some (s0, r0)
  rest : ∀ j, 1 ≤ j → j ≤ p → st.inputs (c j) = none
theorem Heads.alike {p : Nat} {c : Nat → Int} {s0 : ByteArray} {r0 : Int} {st st' : St} (h : Heads p c s0 r0 st) (hi : st'.inputs = st.inputs) : Heads p c s0 r0 st' := ⟨by rw [hi]; exact h.first, by rw [hi]; exact h.rest⟩

/-- A cell of the row, at the revision, and when its text turned. -/
def AtRev (p : Nat) (c : Nat → Int) (T : Nat → ByteArray) (tu : Int → Prop) (j : Nat) (st : St) : Prop :=
  ∃ x, st.cells (c j) = some x ∧ x.at_ = st.rev ∧ tu x.turned ∧ x.asked = [c (j - 1)] ∧ x.has = true ∧ x.s = T j

/-- The rows' first asking. -/
theorem fresh_row {rs : List Rule} {Ul : List Int} (hU : Keys rs Ul) {p : Nat} {c : Nat → Int} {F : Nat → ByteArray → ByteArray} {T : Nat → ByteArray} (hC : Chain rs Ul p c F T) {r0 : Int} :
    ∀ (j : Nat), j ≤ p → ∀ {st st' : St} {s : ByteArray}, R rs (.ask (c j) s) st st' → InvA Ul st → InvB rs st → Roomy Ul st → Heads p c (T 0) r0 st → (∀ i, 1 ≤ i → i ≤ j → st.cells (c i) = none) →
      s = T j ∧ st'.steps = st.steps + j ∧ st'.nc = st.nc + j ∧ Roomy Ul st' ∧ (∀ i, 1 ≤ i → i ≤ j → AtRev p c T (fun t => t = st.rev) i st') ∧ (∀ x, (∀ i, 1 ≤ i → i ≤ j → x ≠ c i) → st'.cells x = st.cells x) := by
  intro j
  induction j with
  | zero =>
    intro _ st st' s h hA hB hR hH _
    obtain ⟨rfl, rfl⟩ := ask_input h hH.first
    exact ⟨rfl, by omega, by omega, hR, fun i h1 h2 => by omega, fun _ _ => rfl⟩
  | succ j ih =>
    intro hj st st' s h hA hB hR hH hfr
    have hin := hH.rest (j + 1) (by omega) hj
    have hnone := hfr (j + 1) (by omega) (Nat.le_refl _)
    cases h with
    | input hin' => rw [hin] at hin'; cases hin'
    | hit _ hc' => rw [hnone] at hc'; cases hc'
    | again _ hc' => rw [hnone] at hc'; cases hc'
    | ok _ hc' => rw [hnone] at hc'; cases hc'
    | okAgain _ hc' => rw [hnone] at hc'; cases hc'
    | wrong _ hc' => rw [hnone] at hc'; cases hc'
    | @new _ st2 _ _ _ _ hb hs =>
      obtain ⟨st1, t, ha, rfl, hs0, hw⟩ := link_step (hC.link j (by omega)) hs
      have hA0 := hA.bz (c (j + 1))
      have hB0 := hB.bz (c (j + 1))
      obtain ⟨i1, i2, i3, i4, i5, i6⟩ := R_inv hU ha hA0 hB0 (hC.ul j (by omega))
      obtain ⟨rfl, a2, a3, a4, a5, a6⟩ := ih (by omega) ha hA0 hB0 (hR.bz _) (hH.alike rfl) (fun i h1 h2 => hfr i h1 (by omega))
      obtain ⟨d, ws, w1, w2, w3, w4, w5, w6, w7⟩ := roomy_wrote i1 a4 hs0 hw
      have hrev : st1.rev = st.rev := i3.rev
      have hself : st1.cells (c (j + 1)) = none := by
        rw [a6 _ (fun i h1 h2 e => by have := hC.inj _ _ hj (by omega) e; omega)]
        exact hnone
      have hcells : (st2.ub (c (j + 1))).cells = st2.cells := rfl
      have htt := hC.text j (by omega)
      refine ⟨htt.symm, ?_, ?_, w7.ub _, fun i h1 h2 => ?_, fun x hx => ?_⟩
      · have q1 : st2.steps = st1.steps + 1 := w1.steps
        have q2 : st1.steps = st.steps + j := a2
        show st2.steps = st.steps + ((j + 1 : Nat) : Int)
        omega
      · have q1 : st2.nc = (if (st1.cells (c (j + 1))).isSome then st1.nc else st1.nc + 1) := w1.nc
        rw [hself] at q1
        have q2 : st1.nc = st.nc + j := a3
        show st2.nc = st.nc + (j + 1)
        simp only [Option.isSome_none, Bool.false_eq_true, if_false] at q1
        omega
      · have hr2 : (st2.ub (c (j + 1))).rev = st.rev := (w1.rev).trans hrev
        by_cases e : i = j + 1
        · subst e
          refine ⟨_, by rw [hcells, w6, setF_same], ?_, ?_, rfl, rfl, htt.symm⟩
          · rw [hr2]; exact hrev
          · show (newCell st1 (c (j + 1)) [c j] d).turned = st.rev
            unfold newCell
            rw [hself]
            show (if d = 0 then (0 : Int) else st1.rev) = st.rev
            rw [if_neg (by omega)]
            exact hrev
        · obtain ⟨x, x1, x2, x3, x4, x5, x6⟩ := a5 i h1 (by omega)
          refine ⟨x, ?_, ?_, x3, x4, x5, x6⟩
          · rw [hcells, w6, setF_other _ _ (fun e' => e (hC.inj _ _ (by omega) hj e'))]
            exact x1
          · rw [hr2, x2]; exact hrev
      · rw [hcells, w6, setF_other _ _ (hx (j + 1) (by omega) (Nat.le_refl _))]
        exact a6 x (fun i h1 h2 => hx i h1 (by omega))
end Go.Proofs.Ytfkedhclhmbpfaa
