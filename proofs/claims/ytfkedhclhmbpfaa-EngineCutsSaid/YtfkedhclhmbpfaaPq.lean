/-
  EngineCuts, the plain part.
-/
import Derived.Test.YtfkedhclhmbpfaaPp
namespace Go.Proofs.Ytfkedhclhmbpfaa
set_option linter.unusedVariables false
set_option linter.unusedSimpArgs false

/-- The rules of EngineCuts: no key, the input's remainder, a row. -/
def cutTail (n : Nat) : List Rule := (List.range n).map fun (i : Nat) => ⟨0, [(i : Int) + 1]⟩
def cutRules (size : Nat) : List Rule := ⟨0, []⟩ :: ⟨2, [0]⟩ :: cutTail (size - 1)
theorem cutRules_len {size : Nat} (h : 1 ≤ size) : (cutRules size).length = size + 1 := by
  unfold cutRules cutTail
  simp
  omega
theorem cutRules_at {size i : Nat} (h : 1 ≤ i) (hi : i < size) : (cutRules size)[i + 1]? = some ⟨0, [(i : Int)]⟩ := by
  unfold cutRules cutTail
  obtain ⟨j, rfl⟩ : ∃ j, i = j + 1 := ⟨i - 1, by omega⟩
  rw [List.getElem?_cons_succ, List.getElem?_cons_succ]
  have hj : j < size - 1 := by omega
  simp [hj]
theorem cutKeys (size : Nat) : Keys (cutRules size) (rowUl size) := by
  intro r hr d hd
  unfold cutRules cutTail at hr
  rcases List.mem_cons.1 hr with rfl | hr
  · cases hd
  · rcases List.mem_cons.1 hr with rfl | hr
    · rw [List.mem_singleton] at hd
      subst hd
      exact rowUl_mem (k := size) (i := 0) (by omega)
    · obtain ⟨i, hi, rfl⟩ := List.mem_map.1 hr
      simp only [List.mem_singleton] at hd
      subst hd
      have := List.mem_range.1 hi
      exact rowUl_mem (k := size) (i := i + 1) (by omega)

def cutT (n : Int) : Nat → ByteArray
  | 0 => valueM n
  | j + 1 => valueM (n % 2 + tri (j + 2) - 1)
def cutF : Nat → ByteArray → ByteArray
  | 0 => fun t => valueM ((numberM t).tmod 2)
  | j + 1 => fun t => valueM (((((j + 2 : Nat) : Int) + numberM t).tmod 1000).tmod 1000)
theorem tri2 (j : Nat) : 1 ≤ tri (j + 2) := by
  have := tri_mono (show 2 ≤ j + 2 by omega)
  have e : tri 2 = 1 := rfl
  omega
theorem cut_chain {size : Nat} (h1 : 2 ≤ size) (h2 : size ≤ 6) {n : Int} (h0 : 0 ≤ n) (h3 : n ≤ 255) : Chain (cutRules size) (rowUl size) size (fun j => (j : Int)) cutF (cutT n) := by
  refine ⟨fun j hj => ?_, fun j hj => ?_, fun j hj => rowUl_mem hj, fun i j hi hj h => by have h : (i : Int) = j := h; omega⟩
  · cases j with
    | zero => exact ⟨⟨2, [0]⟩, by omega, rfl, rfl, .inr ⟨rfl, rfl⟩⟩
    | succ j =>
      refine ⟨⟨0, [((j + 1 : Nat) : Int)]⟩, by omega, ?_, rfl, .inl ⟨rfl, rfl⟩⟩
      have := cutRules_at (size := size) (i := j + 1) (by omega) hj
      rw [show (((j + 1 + 1 : Nat) : Int)).toNat = j + 1 + 1 by omega]
      exact this
  · have et := tri_small (k := j + 1) (by omega)
    have et0 := tri_pos (j + 1)
    cases j with
    | zero =>
      show valueM (n % 2 + tri 2 - 1) = valueM ((numberM (valueM n)).tmod 2)
      rw [number_value h0 (by omega), Int.tmod_eq_emod_of_nonneg h0, show tri 2 = 1 from rfl]
      congr 1
      omega
    | succ j =>
      show valueM (n % 2 + tri (j + 3) - 1) = valueM (((((j + 2 : Nat) : Int) + numberM (valueM (n % 2 + tri (j + 2) - 1))).tmod 1000).tmod 1000)
      have e2 := tri2 j
      have e3 : tri (j + 3) = tri (j + 2) + ((j + 2 : Nat) : Int) := rfl
      have e5 : tri (j + 2) ≤ 21 := et
      rw [number_value (by omega) (by omega)]
      have e4 : ((((j + 2 : Nat) : Int) + (n % 2 + tri (j + 2) - 1)).tmod 1000) = ((j + 2 : Nat) : Int) + (n % 2 + tri (j + 2) - 1) := Int.tmod_eq_of_lt (by omega) (by omega)
      rw [e4, e4, e3]
      congr 1
      omega
/-- All that EngineCuts does. -/
theorem cuts_scene {size : Nat} (h1 : 2 ≤ size) (h2 : size ≤ 6) {n m : Int} (hn0 : 0 ≤ n) (hn1 : n ≤ 255) (hm0 : 0 ≤ m) (hm1 : m ≤ 255) :
    ∃ s1 s2 s4 s5 a b, setM (newM 1048576) 0 (valueM n) = some s1 ∧ askTop (cutRules size) (size + 2) s1 size = some (s2, a, 0) ∧ s2.steps = size ∧ s2.rev = 1 ∧ setM s2 0 (valueM m) = some s4 ∧ askTop (cutRules size) (size + 2) s4 size = some (s5, b, 0) ∧
      (n = m → a = b ∧ s5.steps = size ∧ s5.rev = 1) ∧ (n ≠ m → n % 2 = m % 2 → a = b ∧ s5.steps = size + 1 ∧ s5.rev = 2) ∧ (n ≠ m → n % 2 ≠ m % 2 → a ≠ b ∧ s5.steps = size + size ∧ s5.rev = 2) := by
  have hU := cutKeys size
  have hfew : (rowUl size).length ≤ 40000 := by rw [rowUl_len]; omega
  have F0 : Fine (cutRules size) (rowUl size) (newM 1048576) := new_fine (by omega) (by omega)
  have Q0 : Roomy (rowUl size) (newM 1048576) := roomy_new hfew (by omega)
  obtain ⟨s1, m1, F1, _⟩ := top_set F0 0 (valueM n) (by show (0 : Int) ≤ _; omega)
  have Q1 := Q0.set_ m1
  obtain ⟨r1, i1, c1, o1, n1, st1, _⟩ := set_same m1 (by show (none : Option ByteArray) ≠ _; simp)
  have r1 : s1.rev = 1 := r1
  have C1 := cut_chain h1 h2 hn0 hn1
  have H1 : Heads size (fun j => (j : Int)) (cutT n 0) 1 s1 := by
    refine ⟨?_, fun j hj hjk => ?_⟩
    · show s1.inputs ((0 : Nat) : Int) = _
      rw [i1]
      exact setF_same _ _ _
    · show s1.inputs (j : Int) = none
      rw [i1, setF_other _ _ (by omega)]
      rfl
  obtain ⟨s2, m2, F2, Q2, r2, i2, st2, n2, A2⟩ := top_fresh hU C1 F1 Q1 H1 (fun i h1 h2 => by
    show s1.cells (i : Int) = none
    rw [o1 _ (by omega)]
    rfl)
  rw [cutRules_len (by omega)] at m2
  have st1 : s1.steps = 0 := st1
  have inp2 : s2.inp 0 = some (valueM n) := by
    unfold St.inp
    rw [i2, i1, setF_same]
    rfl
  by_cases hnm : n = m
  · subst hnm
    have m4 : setM s2 0 (valueM n) = some s2 := by
      unfold setM
      exact if_pos inp2
    obtain ⟨x, x1, x2, x3, x4, x5, x6⟩ := A2 size (by omega) (Nat.le_refl _)
    obtain ⟨s5, m5, F5, Q5, r5, i5, st5, _, _, n5, c5⟩ := top_there hU F2 Q2 (rowUl_mem (k := size) (i := size) (by omega)) (by rw [i2, i1, setF_other _ _ (by omega)]; rfl) x1 x2
    rw [cutRules_len (by omega)] at m5
    exact ⟨s1, s2, s2, s5, _, _, m1, m2, by omega, by omega, m4, m5, fun _ => ⟨x6.symm, by omega, by omega⟩, fun h => absurd rfl h, fun h => absurd rfl h⟩
  · obtain ⟨s4, m4, F4, _⟩ := top_set F2 0 (valueM m) (by omega)
    have Q4 := Q2.set_ m4
    obtain ⟨r4, i4, c4, o4, n4, st4, _⟩ := set_same m4 (by
      rw [inp2]
      intro e
      exact hnm (value_inj (by omega) (by omega) (Option.some.inj e)))
    have C2 := cut_chain h1 h2 hm0 hm1
    have H4 : Heads size (fun j => (j : Int)) (cutT m 0) s4.rev s4 := by
      refine ⟨?_, fun j hj hjk => ?_⟩
      · show s4.inputs ((0 : Nat) : Int) = _
        rw [i4, r4]
        exact setF_same _ _ _
      · show s4.inputs (j : Int) = none
        rw [i4, setF_other _ _ (by omega), i2, i1, setF_other _ _ (by omega)]
        rfl
    have O4 : ∀ i, 1 ≤ i → i ≤ size → Old (fun j => (j : Int)) (cutT n) 1 i s4 := fun i h1 h2 => by
      obtain ⟨x, y1, y2, y3, y4, y5, y6⟩ := A2 i h1 h2
      exact ⟨x, by show s4.cells (i : Int) = _; rw [o4 _ (by omega)]; exact y1, by omega, by omega, y4, y5, y6⟩
    by_cases hp : n % 2 = m % 2
    · obtain ⟨j, rfl⟩ : ∃ j, size = j + 2 := ⟨size - 2, by omega⟩
      have heq : ∀ i, 1 ≤ i → i ≤ j + 2 → cutT m i = cutT n i := fun i h1 h2 => by
        obtain ⟨i, rfl⟩ : ∃ i', i = i' + 1 := ⟨i - 1, by omega⟩
        show valueM (m % 2 + tri (i + 2) - 1) = valueM (n % 2 + tri (i + 2) - 1)
        rw [hp]
      obtain ⟨s5, m5, r5, st5, n5⟩ := top_cut (T := cutT n) (r0 := 1) hU C2 heq F4 Q4 (by omega) H4 O4
      rw [cutRules_len (by omega)] at m5
      exact ⟨s1, s2, s4, s5, _, _, m1, m2, by omega, by omega, m4, m5, fun h => absurd h hnm, fun _ _ => ⟨(heq _ (by omega) (Nat.le_refl _)).symm, by omega, by omega⟩, fun _ h => absurd hp h⟩
    · obtain ⟨j, rfl⟩ : ∃ j, size = j + 1 := ⟨size - 1, by omega⟩
      have hne : ∀ i, 1 ≤ i → i ≤ j + 1 → cutT m i ≠ cutT n i := fun i h1 h2 => by
        obtain ⟨i, rfl⟩ : ∃ i', i = i' + 1 := ⟨i - 1, by omega⟩
        intro e
        have e1 : valueM (m % 2 + tri (i + 2) - 1) = valueM (n % 2 + tri (i + 2) - 1) := e
        have e2 := tri2 i
        have e3 := tri_mono (show i + 2 ≤ 8 by omega)
        have e4 : tri 8 = 28 := rfl
        have := value_inj (by omega) (by omega) e1
        omega
      obtain ⟨s5, m5, r5, st5, n5⟩ := top_all (T := cutT n) (r0 := 1) hU C2 hne F4 Q4 (by omega) H4 O4
      rw [cutRules_len (by omega)] at m5
      exact ⟨s1, s2, s4, s5, _, _, m1, m2, by omega, by omega, m4, m5, fun h => absurd h hnm, fun _ h => absurd h hp, fun _ _ => ⟨fun e => hne _ (by omega) (Nat.le_refl _) e.symm, by omega, by omega⟩⟩
end Go.Proofs.Ytfkedhclhmbpfaa
