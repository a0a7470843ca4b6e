/-
  A ring of places that are linked by numbers: plain laws, without memory.
-/
import Derived.Test.YtfkedhclhmbpfaaOwn
namespace Go.Proofs.Ytfkedhclhmbpfaa
set_option linter.unusedSectionVars false
set_option linter.unusedSimpArgs false

def upd {α : Type} (f : Nat → α) (i : Nat) (v : α) : Nat → α := fun j => if j = i then v else f j
theorem upd_same {α : Type} (f : Nat → α) (i : Nat) (v : α) : upd f i v i = v := by simp [upd]
theorem upd_other {α : Type} (f : Nat → α) {i j : Nat} (v : α) (h : j ≠ i) : upd f i v j = f j := by simp [upd, h]

/-- The j-th place of the ring: 0 first, then the places, then 0 again. -/
def rg (ps : List Nat) (j : Nat) : Nat := (0 :: ps).getD j 0
theorem rg_zero (ps : List Nat) : rg ps 0 = 0 := rfl
theorem rg_succ (ps : List Nat) (j : Nat) : rg ps (j + 1) = ps.getD j 0 := rfl
theorem rg_at {ps : List Nat} {j : Nat} (h : j < ps.length) : rg ps (j + 1) = ps[j] := by simp [rg_succ, List.getD_eq_getElem?_getD, h]
theorem rg_end (ps : List Nat) : rg ps (ps.length + 1) = 0 := by simp [rg_succ, List.getD_eq_getElem?_getD]
theorem rg_cons (i : Nat) (ps : List Nat) (j : Nat) : rg (i :: ps) (j + 2) = rg ps (j + 1) := rfl
theorem rg_cons_one (i : Nat) (ps : List Nat) : rg (i :: ps) 1 = i := rfl
theorem rg_erase (ps : List Nat) (t j : Nat) : rg (ps.eraseIdx t) j = if j ≤ t then rg ps j else rg ps (j + 1) := by
  cases j with
  | zero => simp [rg_zero]
  | succ j =>
    simp only [rg_succ, List.getD_eq_getElem?_getD, List.getElem?_eraseIdx]
    by_cases h : j < t
    · rw [if_pos h, if_pos (by omega)]
    · rw [if_neg h, if_neg (by omega)]
theorem rg_lt {ps : List Nat} {N : Nat} (h0 : 0 < N) (h : ∀ p ∈ ps, p < N) (j : Nat) : rg ps j < N := by
  cases j with
  | zero => exact h0
  | succ j =>
    rw [rg_succ, List.getD_eq_getElem?_getD]
    cases hj : ps[j]? with
    | none => exact h0
    | some p => exact h p (List.mem_of_getElem? hj)
theorem rg_inj1 {ps : List Nat} (hn : (0 :: ps).Nodup) {a b : Nat} (ha : a ≤ ps.length) (hb : b ≤ ps.length) (h : rg ps a = rg ps b) : a = b := by
  have h1 : rg ps a = (0 :: ps)[a]'(by simp; omega) := by simp only [rg]; rw [List.getD_eq_getElem?_getD, List.getElem?_eq_getElem (by simp; omega)]; rfl
  have h2 : rg ps b = (0 :: ps)[b]'(by simp; omega) := by simp only [rg]; rw [List.getD_eq_getElem?_getD, List.getElem?_eq_getElem (by simp; omega)]; rfl
  rw [h1, h2] at h
  exact (List.getElem_inj hn).1 h
theorem rg_inj2 {ps : List Nat} (hn : (0 :: ps).Nodup) {a b : Nat} (ha1 : 1 ≤ a) (hb1 : 1 ≤ b) (ha : a ≤ ps.length + 1) (hb : b ≤ ps.length + 1) (h : rg ps a = rg ps b) : a = b := by
  by_cases h1 : a = ps.length + 1
  · by_cases h2 : b = ps.length + 1
    · omega
    · have := rg_inj1 hn (a := 0) (b := b) (by omega) (by omega) (by rw [rg_zero, ← h, h1, rg_end])
      omega
  · by_cases h2 : b = ps.length + 1
    · have := rg_inj1 hn (a := a) (b := 0) (by omega) (by omega) (by rw [rg_zero, h, h2, rg_end])
      omega
    · exact rg_inj1 hn (by omega) (by omega) h

/-- Which place of the ring a value is. -/
def mzN : List Nat → Nat → Nat
  | [], _ => 0
  | x :: r, n => if n = x then 0 else mzN r n + 1
theorem mzN_at : ∀ {l : List Nat}, l.Nodup → ∀ {j : Nat} (h : j < l.length), mzN l l[j] = j
  | x :: r, _, 0, _ => by simp [mzN]
  | x :: r, hn, j + 1, h => by
    have h2 : j < r.length := by simpa using h
    have hne : r[j] ≠ x := fun e => (List.nodup_cons.1 hn).1 (e ▸ List.getElem_mem h2)
    simp only [List.getElem_cons_succ, mzN]
    rw [if_neg hne, mzN_at (List.nodup_cons.1 hn).2 h2]
def mz (ps : List Nat) (v : Value) : Nat := mzN (0 :: ps) (Go.RowKit.intOf v).toNat
theorem mz_rg {ps : List Nat} (hn : (0 :: ps).Nodup) {j : Nat} (h : j ≤ ps.length) : mz ps (.int .i64 (rg ps j : Nat)) = j := by
  have h1 : rg ps j = (0 :: ps)[j]'(by simp; omega) := by simp only [rg]; rw [List.getD_eq_getElem?_getD, List.getElem?_eq_getElem (by simp; omega)]; rfl
  unfold mz
  simp only [Go.RowKit.intOf, Int.toNat_natCast]
  rw [h1]
  exact mzN_at hn _

/-- The links of the ring. -/
def Ring (nx pv : Nat → Nat) (ps : List Nat) : Prop := ∀ j, j ≤ ps.length → nx (rg ps j) = rg ps (j + 1) ∧ pv (rg ps (j + 1)) = rg ps j

theorem ring_start : Ring (fun _ => 0) (fun _ => 0) [] := by
  intro j hj
  have : j = 0 := by simpa using hj
  subst this
  exact ⟨rfl, rfl⟩

/-- A place taken out. -/
theorem ring_out {nx pv : Nat → Nat} {ps : List Nat} (h : Ring nx pv ps) (hn : (0 :: ps).Nodup) {t : Nat} (ht : t < ps.length) :
    nx ps[t] = rg ps (t + 2) ∧ pv ps[t] = rg ps t ∧ Ring (upd nx (pv ps[t]) (nx ps[t])) (upd pv (nx ps[t]) (pv ps[t])) (ps.eraseIdx t) := by
  have h1 := (h (t + 1) (by omega)).1
  have h2 := (h t (by omega)).2
  rw [rg_at ht] at h1 h2
  refine ⟨h1, h2, ?_⟩
  rw [h1, h2]
  intro j hj
  rw [List.length_eraseIdx_of_lt ht] at hj
  rw [rg_erase, rg_erase]
  by_cases hlt : j < t
  · rw [if_pos (by omega), if_pos (by omega)]
    rw [upd_other _ _ (fun e => by have := rg_inj1 hn (by omega) (by omega) e; omega), upd_other _ _ (fun e => by have := rg_inj2 hn (by omega) (by omega) (by omega) (by omega) e; omega)]
    exact h j (by omega)
  · by_cases he : j = t
    · subst he
      rw [if_pos (by omega), if_neg (by omega)]
      exact ⟨upd_same _ _ _, upd_same _ _ _⟩
    · rw [if_neg (by omega), if_neg (by omega)]
      rw [upd_other _ _ (fun e => by have := rg_inj1 hn (by omega) (by omega) e; omega), upd_other _ _ (fun e => by have := rg_inj2 hn (by omega) (by omega) (by omega) (by omega) e; omega)]
      exact h (j + 1) (by omega)

/-- A new place as the first one. -/
theorem ring_front {nx pv : Nat → Nat} {ps : List Nat} (h : Ring nx pv ps) (hn : (0 :: ps).Nodup) {i : Nat} (hi : i ∉ 0 :: ps) :
    nx 0 = rg ps 1 ∧ Ring (upd (upd nx i (nx 0)) 0 i) (upd (upd pv i 0) (nx 0) i) (i :: ps) := by
  have h0 := (h 0 (by omega)).1
  rw [rg_zero] at h0
  have hi0 : i ≠ 0 := fun e => hi (by simp [e])
  have hir : ∀ j, rg ps j ≠ i := by
    intro j e
    cases j with
    | zero => exact hi0 e.symm
    | succ j =>
      rw [rg_succ, List.getD_eq_getElem?_getD] at e
      cases hj : ps[j]? with
      | none => rw [hj] at e; exact hi0 e.symm
      | some p =>
        rw [hj] at e
        have := List.mem_of_getElem? hj
        exact hi (List.mem_cons_of_mem _ (by rw [← show p = i from e]; exact this))
  refine ⟨h0, ?_⟩
  rw [h0]
  intro j hj
  rw [List.length_cons] at hj
  match j, hj with
  | 0, _ =>
    rw [rg_zero, rg_cons_one]
    exact ⟨upd_same _ _ _, by rw [upd_other _ _ (fun e => hir 1 e.symm)]; exact upd_same _ _ _⟩
  | 1, _ =>
    rw [rg_cons_one, show (1 + 1 : Nat) = 0 + 2 from rfl, rg_cons]
    exact ⟨by rw [upd_other _ _ hi0]; exact upd_same _ _ _, upd_same _ _ _⟩
  | j + 2, hj =>
    rw [rg_cons, show j + 2 + 1 = (j + 1) + 2 from rfl, rg_cons]
    have h1 := h (j + 1) (by omega)
    rw [upd_other _ _ (fun e => by have := rg_inj1 hn (a := j + 1) (b := 0) (by omega) (by omega) e; omega), upd_other _ _ (hir _)]
    rw [upd_other _ _ (fun e => by have := rg_inj2 hn (a := j + 1 + 1) (b := 1) (by omega) (by omega) (by omega) (by omega) e; omega), upd_other _ _ (hir _)]
    exact h1

theorem rg_ne {ps : List Nat} {i : Nat} (hi : i ∉ 0 :: ps) (j : Nat) : rg ps j ≠ i := by
  have hi0 : i ≠ 0 := fun e => hi (by simp [e])
  intro e
  cases j with
  | zero => exact hi0 e.symm
  | succ j =>
    rw [rg_succ, List.getD_eq_getElem?_getD] at e
    cases hj : ps[j]? with
    | none => rw [hj] at e; exact hi0 e.symm
    | some p =>
      rw [hj] at e
      have := List.mem_of_getElem? hj
      exact hi (List.mem_cons_of_mem _ (by rw [← show p = i from e]; exact this))
/-- What is written at a place beside the ring turns nothing. -/
theorem ring_upd {nx pv : Nat → Nat} {ps : List Nat} (h : Ring nx pv ps) {i : Nat} (hi : i ∉ 0 :: ps) (a b : Nat) : Ring (upd nx i a) (upd pv i b) ps := by
  intro j hj
  rw [upd_other _ _ (rg_ne hi j), upd_other _ _ (rg_ne hi (j + 1))]
  exact h j hj
theorem map_upd {α : Type} {ps : List Nat} {i : Nat} (hi : i ∉ ps) (ky : Nat → α) (k : α) : ps.map (upd ky i k) = ps.map ky := by
  refine List.map_congr_left fun p hp => upd_other _ _ (fun e => hi (e ▸ hp))
theorem map_eraseIdx' {α : Type} (f : Nat → α) (ps : List Nat) (t : Nat) : (ps.eraseIdx t).map f = (ps.map f).eraseIdx t := by
  induction ps generalizing t with
  | nil => simp
  | cons x r ih => cases t <;> simp [ih]
theorem nodup_eraseIdx {ps : List Nat} (h : ps.Nodup) (t : Nat) : (ps.eraseIdx t).Nodup := h.sublist (List.eraseIdx_sublist _ _)
theorem not_mem_eraseIdx {ps : List Nat} (h : ps.Nodup) {t : Nat} (ht : t < ps.length) : ps[t] ∉ ps.eraseIdx t := by
  intro hm
  obtain ⟨i, hne, hi⟩ := List.mem_eraseIdx_iff_getElem?.1 hm
  obtain ⟨hil, hie⟩ := List.getElem?_eq_some_iff.1 hi
  exact hne ((List.getElem_inj h).1 hie)

/-! ### Keys -/
section
variable {κ : Type} [DecidableEq κ]

/-- What is left without a key. -/
def dropL (l : List κ) (k : κ) : List κ := l.filter (fun x => decide (x ≠ k))
/-- A key as the first one. -/
def useL (l : List κ) (k : κ) : List κ := k :: dropL l k
theorem dropL_nodup {l : List κ} (h : l.Nodup) (k : κ) : (dropL l k).Nodup := h.filter _
theorem dropL_not_mem (l : List κ) (k : κ) : k ∉ dropL l k := by simp [dropL]
theorem useL_nodup {l : List κ} (h : l.Nodup) (k : κ) : (useL l k).Nodup := List.nodup_cons.2 ⟨dropL_not_mem l k, dropL_nodup h k⟩
theorem dropL_mem {l : List κ} {k x : κ} : x ∈ dropL l k ↔ x ∈ l ∧ x ≠ k := by simp [dropL]
theorem useL_mem {l : List κ} {k x : κ} : x ∈ useL l k ↔ x = k ∨ x ∈ l := by
  unfold useL
  rw [List.mem_cons, dropL_mem]
  by_cases h : x = k <;> simp [h]
theorem dropL_none {l : List κ} {k : κ} (h : k ∉ l) : dropL l k = l := by
  unfold dropL
  rw [List.filter_eq_self]
  intro x hx
  simp
  exact fun e => h (e ▸ hx)
theorem dropL_idx {l : List κ} (hn : l.Nodup) {t : Nat} (ht : t < l.length) : dropL l l[t] = l.eraseIdx t := by
  induction l generalizing t with
  | nil => simp at ht
  | cons x r ih =>
    obtain ⟨hx, hr⟩ := List.nodup_cons.1 hn
    cases t with
    | zero =>
      simp only [List.getElem_cons_zero, List.eraseIdx_cons_zero]
      unfold dropL
      rw [List.filter_cons_of_neg (by simp)]
      exact dropL_none hx
    | succ t =>
      simp only [List.getElem_cons_succ, List.eraseIdx_cons_succ]
      have hne : x ≠ r[t]'(by simpa using ht) := fun e => hx (e ▸ List.getElem_mem _)
      unfold dropL
      rw [List.filter_cons_of_pos (by simpa using hne)]
      congr 1
      exact ih hr (by simpa using ht)

/-- What the map of a list says: of each key its place. -/
def AtF (f : κ → Option Value) (ps : List Nat) (ky : Nat → κ) : Prop := ∀ k v, f k = some v ↔ ∃ p ∈ ps, ky p = k ∧ v = .int .i64 (p : Int)
theorem at_start (ky : Nat → κ) : AtF (fun _ : κ => (none : Option Value)) [] ky := by intro k v; simp
theorem at_mem {f : κ → Option Value} {ps : List Nat} {ky : Nat → κ} (h : AtF f ps ky) (k : κ) : (f k).isSome = decide (k ∈ ps.map ky) := by
  rw [Bool.eq_iff_iff]
  simp only [Option.isSome_iff_exists, decide_eq_true_eq, List.mem_map]
  constructor
  · rintro ⟨v, hv⟩
    obtain ⟨p, hp, hk, _⟩ := (h k v).1 hv
    exact ⟨p, hp, hk⟩
  · rintro ⟨p, hp, hk⟩
    exact ⟨_, (h k _).2 ⟨p, hp, hk, rfl⟩⟩
theorem at_none {f : κ → Option Value} {ps : List Nat} {ky : Nat → κ} (h : AtF f ps ky) {k : κ} (hk : k ∉ ps.map ky) : f k = none := by
  cases hf : f k with
  | none => rfl
  | some v =>
    obtain ⟨p, hp, hk2, _⟩ := (h k v).1 hf
    exact absurd (List.mem_map.2 ⟨p, hp, hk2⟩) hk
theorem at_some {f : κ → Option Value} {ps : List Nat} {ky : Nat → κ} (h : AtF f ps ky) {k : κ} (hk : k ∈ ps.map ky) : ∃ t, ∃ ht : t < ps.length, ky ps[t] = k ∧ f k = some (.int .i64 (ps[t] : Int)) := by
  obtain ⟨p, hp, hk2⟩ := List.mem_map.1 hk
  obtain ⟨t, ht, rfl⟩ := List.getElem_of_mem hp
  exact ⟨t, ht, hk2, (h k _).2 ⟨_, hp, hk2, rfl⟩⟩
theorem mem_move {ps : List Nat} {t : Nat} (ht : t < ps.length) (p : Nat) : p ∈ ps[t] :: ps.eraseIdx t ↔ p ∈ ps := by
  rw [List.mem_cons, List.mem_eraseIdx_iff_getElem?]
  constructor
  · rintro (rfl | ⟨i, _, hi⟩)
    · exact List.getElem_mem _
    · exact List.mem_of_getElem? hi
  · intro hp
    obtain ⟨i, hi, rfl⟩ := List.getElem_of_mem hp
    by_cases e : i = t
    · subst e; exact Or.inl rfl
    · exact Or.inr ⟨i, e, List.getElem?_eq_getElem hi⟩
theorem perm_move : ∀ {ps : List Nat} {t : Nat} (ht : t < ps.length), (ps[t] :: ps.eraseIdx t).Perm ps
  | x :: r, 0, _ => List.Perm.refl _
  | x :: r, t + 1, ht => (List.Perm.swap x _ _).trans ((perm_move (ps := r) (t := t) (by simpa using ht)).cons x)
theorem at_move {f : κ → Option Value} {ps : List Nat} {ky : Nat → κ} (h : AtF f ps ky) {t : Nat} (ht : t < ps.length) : AtF f (ps[t] :: ps.eraseIdx t) ky := by
  intro k v
  rw [h k v]
  constructor
  · rintro ⟨p, hp, r⟩
    exact ⟨p, (mem_move ht p).2 hp, r⟩
  · rintro ⟨p, hp, r⟩
    exact ⟨p, (mem_move ht p).1 hp, r⟩
theorem at_put {f : κ → Option Value} {ps : List Nat} {ky : Nat → κ} (h : AtF f ps ky) {i : Nat} (hi : i ∉ ps) {k : κ} (hk : k ∉ ps.map ky) : AtF (putF f k (.int .i64 (i : Int))) (i :: ps) (upd ky i k) := by
  intro x v
  unfold putF
  by_cases hx : x = k
  · subst hx
    simp only [if_true, Option.some.injEq]
    constructor
    · rintro rfl
      exact ⟨i, by simp, upd_same _ _ _, rfl⟩
    · rintro ⟨p, hp, hk2, rfl⟩
      rcases List.mem_cons.1 hp with rfl | hp
      · rfl
      · have hpi : p ≠ i := fun e => hi (e ▸ hp)
        rw [upd_other _ _ hpi] at hk2
        exact absurd (List.mem_map.2 ⟨p, hp, hk2⟩) hk
  · rw [if_neg hx, h x v]
    constructor
    · rintro ⟨p, hp, hk2, r⟩
      have hpi : p ≠ i := fun e => hi (e ▸ hp)
      exact ⟨p, by simp [hp], by rw [upd_other _ _ hpi]; exact hk2, r⟩
    · rintro ⟨p, hp, hk2, r⟩
      rcases List.mem_cons.1 hp with rfl | hp
      · rw [upd_same] at hk2
        exact absurd hk2.symm hx
      · have hpi : p ≠ i := fun e => hi (e ▸ hp)
        rw [upd_other _ _ hpi] at hk2
        exact ⟨p, hp, hk2, r⟩
theorem at_upd {f : κ → Option Value} {ps : List Nat} {ky : Nat → κ} (h : AtF f ps ky) {i : Nat} (hi : i ∉ ps) (z : κ) : AtF f ps (upd ky i z) := by
  intro x v
  rw [h x v]
  constructor
  · rintro ⟨p, hp, r1, r2⟩
    have hne : p ≠ i := fun e => hi (e ▸ hp)
    exact ⟨p, hp, by rw [upd_other _ _ hne]; exact r1, r2⟩
  · rintro ⟨p, hp, r1, r2⟩
    have hne : p ≠ i := fun e => hi (e ▸ hp)
    exact ⟨p, hp, by rw [upd_other _ _ hne] at r1; exact r1, r2⟩
theorem at_del {f : κ → Option Value} {ps : List Nat} {ky : Nat → κ} (h : AtF f ps ky) (hn : ps.Nodup) (hkn : (ps.map ky).Nodup) {t : Nat} (ht : t < ps.length) (z : κ) : AtF (delF f (ky ps[t])) (ps.eraseIdx t) (upd ky ps[t] z) := by
  have hmem : ∀ p, p ∈ ps.eraseIdx t ↔ p ∈ ps ∧ p ≠ ps[t] := by
    intro p
    rw [List.mem_eraseIdx_iff_getElem?]
    constructor
    · rintro ⟨i, hne, hi⟩
      refine ⟨List.mem_of_getElem? hi, fun e => hne ?_⟩
      obtain ⟨hil, hie⟩ := List.getElem?_eq_some_iff.1 hi
      exact (List.getElem_inj hn).1 (hie.trans e)
    · rintro ⟨hp, hne⟩
      obtain ⟨i, hi, rfl⟩ := List.getElem_of_mem hp
      exact ⟨i, fun e => hne (by subst e; rfl), List.getElem?_eq_getElem hi⟩
  have hkinj : ∀ p ∈ ps, ky p = ky ps[t] → p = ps[t] := by
    intro p hp he
    obtain ⟨i, hi, rfl⟩ := List.getElem_of_mem hp
    have h1 : (ps.map ky)[i]'(by simpa using hi) = (ps.map ky)[t]'(by simpa using ht) := by simpa using he
    have := (List.getElem_inj hkn).1 h1
    subst this
    rfl
  intro x v
  unfold delF
  by_cases hx : x = ky ps[t]
  · rw [if_pos hx]
    constructor
    · intro h; cases h
    · rintro ⟨p, hp, hk2, _⟩
      obtain ⟨hp1, hp2⟩ := (hmem p).1 hp
      rw [upd_other _ _ hp2, hx] at hk2
      exact absurd (hkinj p hp1 hk2) hp2
  · rw [if_neg hx, h x v]
    constructor
    · rintro ⟨p, hp, hk2, r⟩
      have hpi : p ≠ ps[t] := fun e => hx (by rw [← hk2, e])
      exact ⟨p, (hmem p).2 ⟨hp, hpi⟩, by rw [upd_other _ _ hpi]; exact hk2, r⟩
    · rintro ⟨p, hp, hk2, r⟩
      obtain ⟨hp1, hp2⟩ := (hmem p).1 hp
      rw [upd_other _ _ hp2] at hk2
      exact ⟨p, hp1, hk2, r⟩
end

/-! ### The cells of the ring as values -/
section
variable {κ : Type} (enc : κ → Value)
def cellsOf (ky : Nat → κ) (nx pv : Nat → Nat) : Nat → List Value
  | 0 => []
  | N + 1 => cellsOf ky nx pv N ++ [enc (ky N), .int .i64 (nx N : Int), .int .i64 (pv N : Int)]
theorem cellsOf_length (ky : Nat → κ) (nx pv : Nat → Nat) (N : Nat) : (cellsOf enc ky nx pv N).length = N * 3 := by
  induction N with
  | zero => rfl
  | succ N ih => simp [cellsOf, ih]; omega
theorem cellsOf_at (ky : Nat → κ) (nx pv : Nat → Nat) {N i : Nat} (h : i < N) :
    (cellsOf enc ky nx pv N)[i * 3]? = some (enc (ky i)) ∧ (cellsOf enc ky nx pv N)[i * 3 + 1]? = some (.int .i64 (nx i : Int)) ∧ (cellsOf enc ky nx pv N)[i * 3 + 2]? = some (.int .i64 (pv i : Int)) := by
  induction N with
  | zero => omega
  | succ N ih =>
    have hl := cellsOf_length enc ky nx pv N
    unfold cellsOf
    by_cases hi : i < N
    · obtain ⟨a, b, c⟩ := ih hi
      rw [List.getElem?_append_left (by omega), List.getElem?_append_left (by omega), List.getElem?_append_left (by omega)]
      exact ⟨a, b, c⟩
    · obtain rfl : i = N := by omega
      rw [List.getElem?_append_right (by omega), List.getElem?_append_right (by omega), List.getElem?_append_right (by omega), hl]
      simp [Nat.add_sub_cancel_left]
theorem cellsOf_congr {ky ky' : Nat → κ} {nx nx' pv pv' : Nat → Nat} {N : Nat} (h : ∀ i, i < N → ky i = ky' i ∧ nx i = nx' i ∧ pv i = pv' i) : cellsOf enc ky nx pv N = cellsOf enc ky' nx' pv' N := by
  induction N with
  | zero => rfl
  | succ N ih =>
    obtain ⟨a, b, c⟩ := h N (by omega)
    simp only [cellsOf]
    rw [ih fun i hi => h i (by omega), a, b, c]
theorem cellsOf_new (ky : Nat → κ) (nx pv : Nat → Nat) (N : Nat) (k : κ) (a b : Nat) : cellsOf enc (upd ky N k) (upd nx N a) (upd pv N b) (N + 1) = cellsOf enc ky nx pv N ++ [enc k, .int .i64 (a : Int), .int .i64 (b : Int)] := by
  rw [cellsOf, upd_same, upd_same, upd_same]
  rw [cellsOf_congr enc (ky := upd ky N k) (nx := upd nx N a) (pv := upd pv N b) (ky' := ky) (nx' := nx) (pv' := pv) fun j hj => ⟨upd_other _ _ (by omega), upd_other _ _ (by omega), upd_other _ _ (by omega)⟩]
theorem cellsOf_ky (ky : Nat → κ) (nx pv : Nat → Nat) {N i : Nat} (h : i < N) (k : κ) : (cellsOf enc ky nx pv N).set (i * 3) (enc k) = cellsOf enc (upd ky i k) nx pv N := by
  induction N with
  | zero => omega
  | succ N ih =>
    have hl := cellsOf_length enc ky nx pv N
    unfold cellsOf
    by_cases hi : i < N
    · rw [List.set_append_left _ _ (by omega), ih hi, upd_other _ _ (by omega)]
    · obtain rfl : i = N := by omega
      rw [List.set_append_right _ _ (by omega), hl, Nat.sub_self, upd_same]
      rw [cellsOf_congr enc (ky' := upd ky i k) (nx' := nx) (pv' := pv) fun j hj => ⟨by rw [upd_other _ _ (by omega)], rfl, rfl⟩]
      rfl
theorem cellsOf_nx (ky : Nat → κ) (nx pv : Nat → Nat) {N i : Nat} (h : i < N) (v : Nat) : (cellsOf enc ky nx pv N).set (i * 3 + 1) (.int .i64 (v : Int)) = cellsOf enc ky (upd nx i v) pv N := by
  induction N with
  | zero => omega
  | succ N ih =>
    have hl := cellsOf_length enc ky nx pv N
    unfold cellsOf
    by_cases hi : i < N
    · rw [List.set_append_left _ _ (by omega), ih hi, upd_other _ _ (by omega)]
    · obtain rfl : i = N := by omega
      rw [List.set_append_right _ _ (by omega), hl, show i * 3 + 1 - i * 3 = 1 by omega, upd_same]
      rw [cellsOf_congr enc (ky' := ky) (nx' := upd nx i v) (pv' := pv) fun j hj => ⟨rfl, by rw [upd_other _ _ (by omega)], rfl⟩]
      rfl
theorem cellsOf_pv (ky : Nat → κ) (nx pv : Nat → Nat) {N i : Nat} (h : i < N) (v : Nat) : (cellsOf enc ky nx pv N).set (i * 3 + 2) (.int .i64 (v : Int)) = cellsOf enc ky nx (upd pv i v) N := by
  induction N with
  | zero => omega
  | succ N ih =>
    have hl := cellsOf_length enc ky nx pv N
    unfold cellsOf
    by_cases hi : i < N
    · rw [List.set_append_left _ _ (by omega), ih hi, upd_other _ _ (by omega)]
    · obtain rfl : i = N := by omega
      rw [List.set_append_right _ _ (by omega), hl, show i * 3 + 2 - i * 3 = 2 by omega, upd_same]
      rw [cellsOf_congr enc (ky' := ky) (nx' := nx) (pv' := upd pv i v) fun j hj => ⟨rfl, rfl, by rw [upd_other _ _ (by omega)]⟩]
      rfl
end
end Go.Proofs.Ytfkedhclhmbpfaa
