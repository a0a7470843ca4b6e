/-
  Values, uses and charges: what holds of them, and that what the engine does with them goes through.
-/
import Derived.Test.YtfkedhclhmbpfaaPb
namespace Go.Proofs.Ytfkedhclhmbpfaa
set_option linter.unusedVariables false
set_option linter.unusedSimpArgs false

theorem sub_len {α : Type} [DecidableEq α] : ∀ (l m : List α), l.Nodup → (∀ x ∈ l, x ∈ m) → l.length ≤ m.length := by
  intro l
  induction l with
  | nil => intro m _ _; exact Nat.zero_le _
  | cons x r ih =>
    intro m hn hs
    obtain ⟨hx, hr⟩ := List.nodup_cons.1 hn
    have h1 := ih (m.erase x) hr (fun y hy => (List.mem_erase_of_ne (fun (e : y = x) => hx (e ▸ hy))).2 (hs y (List.mem_cons_of_mem _ hy)))
    have hm : x ∈ m := hs x List.mem_cons_self
    rw [List.length_erase_of_mem hm] at h1
    have : 0 < m.length := List.length_pos_of_mem hm
    simp only [List.length_cons]
    omega

def tot (f : Int → Option Cell) (l : List Int) : Int := (l.map fun k => cost ((f k).getD zeroCell).s).sum
theorem tot_nil (f : Int → Option Cell) : tot f [] = 0 := rfl
theorem tot_cons (f : Int → Option Cell) (k : Int) (l : List Int) : tot f (k :: l) = cost ((f k).getD zeroCell).s + tot f l := rfl
theorem cost_pos (s : ByteArray) : 1 ≤ cost s := by unfold cost; omega
theorem tot_len (f : Int → Option Cell) (l : List Int) : (l.length : Int) ≤ tot f l := by
  induction l with
  | nil => exact Int.le_refl _
  | cons x r ih =>
    rw [tot_cons]
    have := cost_pos ((f x).getD zeroCell).s
    simp only [List.length_cons]
    omega
theorem tot_congr {f g : Int → Option Cell} {l : List Int} (h : ∀ k ∈ l, f k = g k) : tot f l = tot g l := by
  induction l with
  | nil => rfl
  | cons x r ih =>
    rw [tot_cons, tot_cons, h x List.mem_cons_self, ih (fun k hk => h k (List.mem_cons_of_mem _ hk))]
theorem tot_drop (f : Int → Option Cell) {l : List Int} {k : Int} (hn : l.Nodup) (hk : k ∈ l) : tot f l = cost ((f k).getD zeroCell).s + tot f (dropL l k) := by
  induction l with
  | nil => cases hk
  | cons x r ih =>
    obtain ⟨hx, hr⟩ := List.nodup_cons.1 hn
    by_cases e : x = k
    · subst e
      have : dropL (x :: r) x = r := by
        unfold dropL
        rw [List.filter_cons_of_neg (by simp), List.filter_eq_self]
        intro y hy
        rw [decide_eq_true_eq]
        intro (e : y = x)
        exact hx (e ▸ hy)
      rw [this, tot_cons]
    · have hkr : k ∈ r := by
        rcases List.mem_cons.1 hk with h | h
        · exact absurd h.symm e
        · exact h
      have : dropL (x :: r) k = x :: dropL r k := by
        unfold dropL
        rw [List.filter_cons_of_pos (by simpa using e)]
      rw [this, tot_cons, tot_cons, ih hr hkr]
      omega

/-- The texts that rules tell. -/
def texts0 : List ByteArray := ⟨#[48]⟩ :: (List.range 2001).map fun (i : Nat) => valueM ((i : Int) - 1000)
theorem texts0_len : texts0.length = 2002 := by unfold texts0; simp
theorem texts0_value {n : Int} (h0 : -1000 ≤ n) (h1 : n ≤ 1000) : valueM n ∈ texts0 := by
  unfold texts0
  refine List.mem_cons_of_mem _ (List.mem_map.2 ⟨(n + 1000).toNat, List.mem_range.2 (by omega), ?_⟩)
  congr 1
  omega
theorem valueF_size (f : Nat) : ∀ n, (valueF f n).size ≤ f + 1 ∧ 1 ≤ (valueF f n).size := by
  induction f with
  | zero => intro n; exact ⟨Nat.le_refl _, Nat.le_refl _⟩
  | succ f ih =>
    intro n
    unfold valueF
    split
    · rw [ByteArray.size_append]
      have h1 : (ByteArray.mk #[byteOf (48 + n % 10)]).size = 1 := rfl
      have := ih (n / 10)
      omega
    · have h1 : (ByteArray.mk #[byteOf (48 + n)]).size = 1 := rfl
      omega
theorem texts0_size {s : ByteArray} (h : s ∈ texts0) : s.size ≤ 21 ∧ 1 ≤ s.size := by
  unfold texts0 at h
  rcases List.mem_cons.1 h with rfl | h
  · exact ⟨by show 1 ≤ 21; omega, Nat.le_refl _⟩
  · obtain ⟨i, _, rfl⟩ := List.mem_map.1 h
    exact valueF_size 20 _

/-- What holds of values, uses and charges. -/
structure InvX (Ul : List Int) (X : Int → Prop) (st : St) : Prop where
  und : st.used.Nodup
  umem : ∀ k, k ∈ st.used ↔ ∃ c, st.cells k = some c ∧ c.has = true
  utext : ∀ k c, st.cells k = some c → c.has = true → ¬ X k → st.text (coreOf c) = some c.s
  sum : st.charged = tot st.cells st.used
  le1 : st.charged ≤ st.budget
  le2 : st.charged ≤ st.high
  ncs : ∃ ks : List Int, ks.Nodup ∧ (∀ k, k ∈ ks ↔ (st.cells k).isSome = true) ∧ st.nc = ks.length
  cul : ∀ k, (st.cells k).isSome = true → k ∈ Ul
  wset : ∀ s ∈ st.words, s ∈ texts0
  few : Ul.length ≤ 90000

/-- .. for all keys. -/
abbrev InvA (Ul : List Int) (st : St) : Prop := InvX Ul (fun _ => False) st

section
variable {Ul : List Int} {X : Int → Prop} {st : St}
theorem InvX.used_few (h : InvX Ul X st) : st.used.length ≤ 90000 := by
  have := sub_len st.used Ul h.und (fun k hk => h.cul k (by obtain ⟨c, hc, _⟩ := (h.umem k).1 hk; rw [hc]; rfl))
  have := h.few
  omega
theorem InvX.used_nc (h : InvX Ul X st) : st.used.length ≤ st.nc := by
  obtain ⟨ks, h1, h2, h3⟩ := h.ncs
  rw [h3]
  exact sub_len st.used ks h.und (fun k hk => (h2 k).2 (by obtain ⟨c, hc, _⟩ := (h.umem k).1 hk; rw [hc]; rfl))

theorem core_set (st : St) (k : Int) (c c' : Cell) (hk : st.cells k = some c) (h : coreOf c' = coreOf c) (x : Int) : ((setF st.cells k (some c')) x).map coreOf = (st.cells x).map coreOf := by
  by_cases e : x = k
  · subst e
    unfold setF
    rw [if_pos rfl, hk]
    simp [h]
  · unfold setF
    rw [if_neg e]

/-- A drop goes through. -/
theorem drop_good (h : InvX Ul X st) (k : Int) : ∃ st', dropM st k = some st' ∧ InvX Ul X st' ∧ Same st st' ∧ st'.used = dropL st.used k ∧ st'.budget = st.budget ∧ st'.high = st.high ∧ st'.nc = st.nc ∧ st'.charged ≤ st.charged ∧ st'.hits = st.hits ∧ (∀ x, x ≠ k → st'.cells x = st.cells x) := by
  unfold dropM
  by_cases hk : k ∈ st.used
  · rw [if_pos hk]
    obtain ⟨c, hc, hh⟩ := (h.umem k).1 hk
    have ht := tot_drop st.cells h.und hk
    rw [hc] at ht ⊢
    simp only [Option.getD_some] at ht ⊢
    have htl := tot_len st.cells (dropL st.used k)
    have hle : cost c.s ≤ st.charged := by rw [h.sum]; omega
    rw [if_pos hle]
    have hcost := cost_pos c.s
    refine ⟨_, rfl, ⟨dropL_nodup h.und k, fun x => ?_, fun x cx hx hhx hX => ?_, ?_, ?_, ?_, ?_, fun x hx => ?_, h.wset, h.few⟩, ⟨rfl, rfl, rfl, rfl, rfl, core_set st k c _ hc rfl, rfl, rfl⟩, rfl, rfl, rfl, rfl, ?_, rfl, ?_⟩
    · show x ∈ dropL st.used k ↔ _
      rw [dropL_mem]
      by_cases e : x = k
      · subst e
        simp only [ne_eq, not_true, and_false, false_iff, not_exists, not_and]
        intro c' hc'
        have hc'' : setF st.cells x (some { c with has := false, s := noBytes }) x = some c' := hc'
        unfold setF at hc''
        rw [if_pos rfl] at hc''
        cases hc''
        simp
      · show _ ↔ ∃ c', setF st.cells k (some { c with has := false, s := noBytes }) x = some c' ∧ c'.has = true
        unfold setF
        rw [if_neg e, h.umem x]
        simp [e]
    · have hx' : setF st.cells k (some { c with has := false, s := noBytes }) x = some cx := hx
      unfold setF at hx'
      split at hx'
      · cases hx'
        cases hhx
      · exact h.utext x cx hx' hhx hX
    · show st.charged - cost c.s = tot (setF st.cells k (some { c with has := false, s := noBytes })) (dropL st.used k)
      rw [tot_congr (g := st.cells) (fun x hx => by
        have := (dropL_mem.1 hx).2
        unfold setF
        rw [if_neg this])]
      rw [h.sum]
      omega
    · have := h.le1
      show st.charged - cost c.s ≤ st.budget
      omega
    · have := h.le2
      show st.charged - cost c.s ≤ st.high
      omega
    · obtain ⟨ks, h1, h2, h3⟩ := h.ncs
      refine ⟨ks, h1, fun x => ?_, h3⟩
      show x ∈ ks ↔ (setF st.cells k (some { c with has := false, s := noBytes }) x).isSome = true
      rw [h2 x]
      unfold setF
      by_cases e : x = k
      · subst e; simp [hc]
      · rw [if_neg e]
    · have hx' : (setF st.cells k (some { c with has := false, s := noBytes }) x).isSome = true := hx
      unfold setF at hx'
      split at hx'
      · rename_i e
        exact h.cul x (by rw [e, hc]; rfl)
      · exact h.cul x hx'
    · show st.charged - cost c.s ≤ st.charged
      omega
    · intro x e
      show setF st.cells k _ x = _
      unfold setF
      rw [if_neg e]
  · rw [if_neg hk]
    exact ⟨st, rfl, h, Same.refl st, (dropL_none hk).symm, rfl, rfl, rfl, Int.le_refl _, rfl, fun _ _ => rfl⟩

/-- Room is made. -/
theorem room_good (k : Int) (n : Int) : ∀ (f : Nat) (st : St), InvX Ul X st → k ∉ st.used → st.used.length < f → ∃ st' b, roomM f st n = some (st', b) ∧ InvX Ul X st' ∧ Same st st' ∧ k ∉ st'.used ∧ (b = true → n ≤ st'.budget - st'.charged) ∧ st'.budget = st.budget ∧ st'.high = st.high ∧ st'.nc = st.nc ∧ st'.hits = st.hits ∧
    (n ≤ st.budget - st.charged → st' = st ∧ b = true) := by
  intro f
  induction f with
  | zero => intro st _ _ hf; omega
  | succ f ih =>
    intro st h hk hf
    unfold roomM
    by_cases hfit : n ≤ st.budget - st.charged
    · rw [if_pos hfit]
      exact ⟨st, true, rfl, h, Same.refl st, hk, fun _ => hfit, rfl, rfl, rfl, rfl, fun _ => ⟨rfl, rfl⟩⟩
    · rw [if_neg hfit]
      cases hl : st.used.getLast? with
      | none => exact ⟨st, false, rfl, h, Same.refl st, hk, (fun hb => by cases hb), rfl, rfl, rfl, rfl, fun hh => absurd hh hfit⟩
      | some l =>
        obtain ⟨st1, h1, h2, h3, h4, h5, h6, h7, h8, h9, h10⟩ := drop_good h l
        simp only
        rw [h1]
        have hm : l ∈ st.used := List.mem_of_getLast? hl
        have hlen : st1.used.length < st.used.length := by
          rw [h4]
          have h11 := sub_len (l :: dropL st.used l) st.used (List.nodup_cons.2 ⟨dropL_not_mem _ _, dropL_nodup h.und l⟩) (fun x hx => by
            rcases List.mem_cons.1 hx with rfl | hx
            · exact hm
            · exact (dropL_mem.1 hx).1)
          simp only [List.length_cons] at h11
          omega
        obtain ⟨st', b, a1, a2, a3, a4, a5, a6, a7, a8, a9, a10⟩ := ih st1 h2 (by rw [h4]; exact fun hh => hk (dropL_mem.1 hh).1) (by omega)
        exact ⟨st', b, a1, a2, h3.trans a3, a4, a5, a6.trans h5, a7.trans h6, a8.trans h7, a9.trans h9, fun hh => absurd hh hfit⟩

theorem use_good (h : InvX Ul X st) {k : Int} (hk : k ∈ st.used) : ∃ st', useM st k = some st' ∧ InvX Ul X st' ∧ Same st st' ∧ st'.cells = st.cells ∧ st'.budget = st.budget ∧ st'.high = st.high ∧ st'.nc = st.nc ∧ st'.charged = st.charged ∧ st'.hits = st.hits := by
  unfold useM
  rw [if_pos h.used_few]
  refine ⟨_, rfl, ⟨useL_nodup h.und k, fun x => ?_, h.utext, ?_, h.le1, h.le2, h.ncs, h.cul, h.wset, h.few⟩, ⟨rfl, rfl, rfl, rfl, rfl, fun _ => rfl, rfl, rfl⟩, rfl, rfl, rfl, rfl, rfl, rfl⟩
  · show x ∈ useL st.used k ↔ _
    rw [useL_mem, ← h.umem x]
    exact ⟨fun hh => hh.elim (fun e => e ▸ hk) id, .inr⟩
  · show st.charged = tot st.cells (useL st.used k)
    unfold useL
    rw [tot_cons, h.sum, tot_drop st.cells h.und hk]

theorem InvX.clear {k : Int} (h : InvX Ul (fun x => x = k) st) (hk : k ∉ st.used) : InvA Ul st :=
  { h with utext := fun x c hx hh _ => h.utext x c hx hh (fun e => hk (e ▸ (h.umem x).2 ⟨c, hx, hh⟩)) }
/-- A value is kept, or not. -/
theorem keep_good {k : Int} (h : InvX Ul (fun x => x = k) st) {c : Cell} {s : ByteArray} (hc : st.cells k = some c) (hs : st.text (coreOf c) = some s) :
    ∃ st', keepM st k s = some st' ∧ InvA Ul st' ∧ Same st st' ∧ st'.budget = st.budget ∧ st'.nc = st.nc ∧ st'.hits = st.hits := by
  unfold keepM
  obtain ⟨st1, h1, h2, h3, h4, h5, h6, h7, h8, h9, h10⟩ := drop_good h k
  rw [h1]
  simp only
  obtain ⟨st2, b, a1, a2, a3, a4, a5, a6, a7, a8, a9, a10⟩ := room_good k (cost s) (st1.used.length + 1) st1 h2 (by rw [h4]; exact dropL_not_mem _ _) (by omega)
  rw [a1]
  simp only
  have a2 := a2.clear a4
  have hsm := h3.trans a3
  unfold keptM
  cases b with
  | false =>
    rw [if_neg (by simp)]
    exact ⟨st2, rfl, a2, hsm, a6.trans h5, a8.trans h7, a9.trans h9⟩
  | true =>
    rw [if_pos rfl]
    have hcore : st2.core k = some (coreOf c) := by rw [hsm.core]; unfold St.core; rw [hc]; rfl
    unfold St.core at hcore
    cases hc2 : st2.cells k with
    | none => rw [hc2] at hcore; cases hcore
    | some c2 =>
      rw [hc2] at hcore
      simp only [Option.map_some, Option.some.injEq] at hcore
      simp only
      unfold useM
      have hnl := a2.used_few
      have hfit := a5 rfl
      have hun : dropL st2.used k = st2.used := dropL_none a4
      rw [if_pos (by exact hnl)]
      have hcells : ∀ x, x ≠ k → setF st2.cells k (some { c2 with has := true, s := s }) x = st2.cells x := fun x e => by unfold setF; rw [if_neg e]
      have hself : setF st2.cells k (some { c2 with has := true, s := s }) k = some { c2 with has := true, s := s } := by unfold setF; rw [if_pos rfl]
      refine ⟨_, rfl, ⟨useL_nodup a2.und k, fun x => ?_, fun x cx hx hhx _ => ?_, ?_, ?_, ?_, ?_, fun x hx => ?_, a2.wset, a2.few⟩, hsm.trans ⟨rfl, rfl, rfl, rfl, rfl, core_set st2 k c2 _ hc2 rfl, rfl, rfl⟩, a6.trans h5, a8.trans h7, a9.trans h9⟩
      · show x ∈ useL st2.used k ↔ ∃ c', setF st2.cells k (some { c2 with has := true, s := s }) x = some c' ∧ c'.has = true
        rw [useL_mem]
        by_cases e : x = k
        · subst e
          rw [hself]
          simp
        · rw [hcells x e, a2.umem x]
          simp [e]
      · have hx' : setF st2.cells k (some { c2 with has := true, s := s }) x = some cx := hx
        by_cases e : x = k
        · subst e
          rw [hself] at hx'
          cases hx'
          show st2.text (coreOf c2) = some s
          rw [hcore, hsm.text]
          exact hs
        · rw [hcells x e] at hx'
          exact a2.utext x cx hx' hhx (fun h => h)
      · show st2.charged + cost s = tot (setF st2.cells k (some { c2 with has := true, s := s })) (useL st2.used k)
        unfold useL
        rw [hun, tot_cons, hself, Option.getD_some, tot_congr (g := st2.cells) (fun x hx => hcells x (fun e => a4 (e ▸ hx))), ← a2.sum]
        dsimp only
        omega
      · show st2.charged + cost s ≤ st2.budget
        omega
      · show st2.charged + cost s ≤ max st2.high (st2.charged + cost s)
        omega
      · obtain ⟨ks, b1, b2, b3⟩ := a2.ncs
        refine ⟨ks, b1, fun x => ?_, b3⟩
        show x ∈ ks ↔ (setF st2.cells k (some { c2 with has := true, s := s }) x).isSome = true
        rw [b2 x]
        by_cases e : x = k
        · subst e; rw [hself, hc2]; simp
        · rw [hcells x e]
      · have hx' : (setF st2.cells k (some { c2 with has := true, s := s }) x).isSome = true := hx
        by_cases e : x = k
        · subst e; exact a2.cul x (by rw [hc2]; rfl)
        · rw [hcells x e] at hx'; exact a2.cul x hx'
end
end Go.Proofs.Ytfkedhclhmbpfaa
