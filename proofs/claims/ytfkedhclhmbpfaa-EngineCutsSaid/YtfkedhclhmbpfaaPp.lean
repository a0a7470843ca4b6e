/-
  EngineRows and EngineCuts, the plain part.
-/
import Derived.Test.YtfkedhclhmbpfaaPo
import Derived.Test.YtfkedhclhmbpfaaTel
namespace Go.Proofs.Ytfkedhclhmbpfaa
set_option linter.unusedVariables false
set_option linter.unusedSimpArgs false

/-- 0 + .. + (k - 1). -/
def tri : Nat → Int
  | 0 => 0
  | k + 1 => tri k + k
theorem tri_pos : ∀ k, 0 ≤ tri k := by
  intro k
  induction k with
  | zero => exact Int.le_refl _
  | succ k ih => show 0 ≤ tri k + k; omega
theorem tri_mono {i k : Nat} (h : i ≤ k) : tri i ≤ tri k := by
  induction h with
  | refl => exact Int.le_refl _
  | step _ ih => exact Int.le_trans ih (by show _ ≤ tri _ + _; omega)
theorem value_inj {a b : Int} (ha : 0 ≤ a ∧ a < 1000) (hb : 0 ≤ b ∧ b < 1000) (h : valueM a = valueM b) : a = b := by
  have := number_value ha.1 ha.2
  rw [h, number_value hb.1 hb.2] at this
  exact this.symm

/-- The row's rules: each key asks for the next one. -/
def rowRules (k : Nat) : List Rule := (List.range k).map fun (i : Nat) => ⟨0, [(i : Int) + 1]⟩
theorem rowRules_len (k : Nat) : (rowRules k).length = k := by unfold rowRules; simp
theorem rowRules_at {k i : Nat} (h : i < k) : (rowRules k)[i]? = some ⟨0, [(i : Int) + 1]⟩ := by unfold rowRules; simp [h]
def rowUl (k : Nat) : List Int := (List.range (k + 1)).map fun (i : Nat) => (i : Int)
theorem rowUl_mem {k i : Nat} (h : i ≤ k) : (i : Int) ∈ rowUl k := List.mem_map.2 ⟨i, List.mem_range.2 (by omega), rfl⟩
theorem rowUl_len (k : Nat) : (rowUl k).length = k + 1 := by unfold rowUl; simp
theorem rowKeys (k : Nat) : Keys (rowRules k) (rowUl k) := by
  intro r hr d hd
  unfold rowRules at hr
  obtain ⟨i, hi, rfl⟩ := List.mem_map.1 hr
  simp only [List.mem_singleton] at hd
  subst hd
  have := List.mem_range.1 hi
  exact rowUl_mem (k := k) (i := i + 1) (by omega)

/-- The row from key m down, m's number being s. -/
def rowT (m : Nat) (s : Int) (j : Nat) : ByteArray := valueM (s + tri m - tri (m - j))
theorem row_chain {k m : Nat} (hm : m ≤ k) {s : Int} (h0 : 0 ≤ s) (h1 : s + tri m < 1000) :
    Chain (rowRules k) (rowUl k) m (fun j => ((m - j : Nat) : Int)) (fun j t => valueM ((((((m - (j + 1) : Nat) : Int)) + numberM t).tmod 1000).tmod 1000)) (rowT m s) := by
  refine ⟨fun j hj => ?_, fun j hj => ?_, fun j hj => rowUl_mem (by omega), fun i j hi hj h => by have h : ((m - i : Nat) : Int) = ((m - j : Nat) : Int) := h; omega⟩
  · refine ⟨⟨0, [((m - (j + 1) : Nat) : Int) + 1]⟩, by omega, ?_, ?_, .inl ⟨rfl, rfl⟩⟩
    · have := rowRules_at (k := k) (i := m - (j + 1)) (by omega)
      rw [show (((m - (j + 1) : Nat) : Int)).toNat = m - (j + 1) by omega]
      exact this
    · show [((m - (j + 1) : Nat) : Int) + 1] = [((m - j : Nat) : Int)]
      congr 1
      omega
  · show rowT m s (j + 1) = valueM _
    unfold rowT
    have e1 : tri (m - j) = tri (m - (j + 1)) + ((m - (j + 1) : Nat) : Int) := by
      rw [show m - j = (m - (j + 1)) + 1 by omega]
      rfl
    have e2 := tri_pos (m - (j + 1))
    have e3 := tri_mono (show m - j ≤ m by omega)
    rw [number_value (by omega) (by omega)]
    congr 1
    have e4 : (((m - (j + 1) : Nat) : Int) + (s + tri m - tri (m - j))).tmod 1000 = ((m - (j + 1) : Nat) : Int) + (s + tri m - tri (m - j)) := Int.tmod_eq_of_lt (by omega) (by omega)
    rw [e4, e4]
    omega

theorem tri_small {k : Nat} (h : k ≤ 7) : tri k ≤ 21 := by
  have := tri_mono h
  have e : tri 7 = 21 := rfl
  omega

/-- All that EngineRows does. -/
theorem rows_scene {k mid : Nat} (hk : k ≤ 7) (hm0 : 1 ≤ mid) (hm : mid < k) {v : Int} (hv0 : 200 ≤ v) (hv1 : v ≤ 249) :
    ∃ s1 s2 s3 t3 e3 s4 s5, setM (newM 1048576) k (valueM 0) = some s1 ∧ askTop (rowRules k) (k + 1) s1 0 = some (s2, valueM (tri k), 0) ∧ s2.steps = k ∧ s2.nc = k ∧
      askTop (rowRules k) (k + 1) s2 0 = some (s3, t3, e3) ∧ s3.steps = k ∧ setM s3 mid (valueM v) = some s4 ∧ askTop (rowRules k) (k + 1) s4 0 = some (s5, valueM (tri mid + v), 0) ∧ s5.steps = k + mid ∧ s5.nc = k - 1 := by
  have hU := rowKeys k
  have hfew : (rowUl k).length ≤ 40000 := by rw [rowUl_len]; omega
  have htk := tri_small hk
  have ht0 := tri_pos k
  have F0 : Fine (rowRules k) (rowUl k) (newM 1048576) := new_fine (by omega) (by omega)
  have Q0 : Roomy (rowUl k) (newM 1048576) := roomy_new hfew (by omega)
  obtain ⟨s1, m1, F1, _⟩ := top_set F0 k (valueM 0) (by show (0 : Int) ≤ _; omega)
  have Q1 := Q0.set_ m1
  obtain ⟨r1, i1, c1, o1, n1, st1, _⟩ := set_same m1 (by show (none : Option ByteArray) ≠ _; simp)
  have r1 : s1.rev = 1 := r1
  -- the first asking
  have C1 := row_chain (k := k) (m := k) (Nat.le_refl _) (s := 0) (Int.le_refl _) (by omega)
  have H1 : Heads k (fun j => ((k - j : Nat) : Int)) (rowT k 0 0) 1 s1 := by
    refine ⟨?_, fun j hj hjk => ?_⟩
    · show s1.inputs ((k - 0 : Nat) : Int) = _
      rw [i1, Nat.sub_zero, setF_same]
      unfold rowT
      rw [Nat.sub_zero, show (0 : Int) + tri k - tri k = 0 by omega]
      rfl
    · show s1.inputs ((k - j : Nat) : Int) = none
      rw [i1, setF_other _ _ (by omega)]
      rfl
  obtain ⟨s2, m2, F2, Q2, r2, i2, st2, n2, A2⟩ := top_fresh hU C1 F1 Q1 H1 (fun i h1 h2 => by
    show s1.cells ((k - i : Nat) : Int) = none
    rw [o1 _ (by omega)]
    rfl)
  rw [rowRules_len] at m2
  have e0 : ((k - k : Nat) : Int) = 0 := by omega
  have m2 : askTop (rowRules k) (k + 1) s1 0 = some (s2, valueM (tri k), 0) := by
    have := m2
    simp only [e0] at this
    rw [this]
    unfold rowT
    rw [Nat.sub_self, show (0 : Int) + tri k - tri 0 = tri k by show 0 + tri k - 0 = tri k; omega]
  have st1 : s1.steps = 0 := st1
  have n1 : s1.nc = 0 := n1
  -- again
  obtain ⟨x, x1, x2, x3, x4, x5, x6⟩ := A2 k (by omega) (Nat.le_refl _)
  simp only [e0] at x1
  obtain ⟨s3, m3, F3, Q3, r3, i3, st3, _, _, n3, c3⟩ := top_there hU F2 Q2 (rowUl_mem (k := k) (i := 0) (by omega)) (by rw [i2, i1]; show setF _ (k : Int) _ ((0 : Nat) : Int) = none; rw [setF_other _ _ (by omega)]; rfl) x1 x2
  rw [rowRules_len] at m3
  -- the key in the middle
  obtain ⟨s4, m4, F4, _⟩ := top_set F3 mid (valueM v) (by omega)
  have Q4 := Q3.set_ m4
  have inp3 : s3.inp mid = none := by
    unfold St.inp
    rw [i3, i2, i1, setF_other _ _ (by omega)]
    rfl
  obtain ⟨r4, i4, c4, o4, n4, st4, _⟩ := set_same m4 (by rw [inp3]; simp)
  obtain ⟨j, rfl⟩ : ∃ j, mid = j + 1 := ⟨mid - 1, by omega⟩
  have tm := tri_mono (show j + 1 ≤ k by omega)
  have tm0 := tri_pos (j + 1)
  have C2 := row_chain (k := k) (m := j + 1) (by omega) (s := v) (by omega) (by omega)
  have hother : ∀ i, 1 ≤ i → i ≤ j + 1 → s4.cells ((j + 1 - i : Nat) : Int) = s2.cells ((j + 1 - i : Nat) : Int) := fun i h1 h2 => by
    rw [o4 _ (by omega), c3]
  have H4 : Heads (j + 1) (fun i => ((j + 1 - i : Nat) : Int)) (rowT (j + 1) v 0) s4.rev s4 := by
    refine ⟨?_, fun i hi hij => ?_⟩
    · show s4.inputs ((j + 1 - 0 : Nat) : Int) = _
      rw [i4, Nat.sub_zero, setF_same, r4]
      unfold rowT
      rw [Nat.sub_zero, show v + tri (j + 1) - tri (j + 1) = v by omega]
    · show s4.inputs ((j + 1 - i : Nat) : Int) = none
      rw [i4, setF_other _ _ (by omega), i3, i2, i1, setF_other _ _ (by omega)]
      rfl
  have old : ∀ i, 1 ≤ i → i ≤ j + 1 → rowT k 0 (k - (j + 1) + i) = rowT (j + 1) (tri k - tri (j + 1)) i := fun i h1 h2 => by
    unfold rowT
    rw [show k - (k - (j + 1) + i) = j + 1 - i by omega]
    congr 1
    omega
  obtain ⟨s5, m5, r5, st5, n5⟩ := top_all (T := rowT (j + 1) (tri k - tri (j + 1))) (r0 := 1) hU C2 (fun i h1 h2 => by
      intro e
      have e1 := tri_mono (show j + 1 - i ≤ j + 1 by omega)
      have e2 := tri_pos (j + 1 - i)
      have := value_inj (by omega) (by omega) e
      omega) F4 Q4 (by omega) H4 (fun i h1 h2 => by
      obtain ⟨x, y1, y2, y3, y4, y5, y6⟩ := A2 (k - (j + 1) + i) (by omega) (by omega)
      have ek : ((k - (k - (j + 1) + i) : Nat) : Int) = ((j + 1 - i : Nat) : Int) := by omega
      have ek1 : ((k - (k - (j + 1) + i - 1) : Nat) : Int) = ((j + 1 - (i - 1) : Nat) : Int) := by omega
      simp only [ek] at y1
      simp only [ek1] at y4
      exact ⟨x, by show s4.cells ((j + 1 - i : Nat) : Int) = _; rw [hother i h1 h2]; exact y1, by omega, by omega, y4, y5, by rw [y6]; exact old i h1 h2⟩)
  rw [rowRules_len] at m5
  have ez : ((j + 1 - (j + 1) : Nat) : Int) = 0 := by omega
  have m5 : askTop (rowRules k) (k + 1) s4 0 = some (s5, valueM (tri (j + 1) + v), 0) := by
    have := m5
    simp only [ez] at this
    rw [this]
    unfold rowT
    rw [Nat.sub_self, show v + tri (j + 1) - tri 0 = tri (j + 1) + v by show v + tri (j + 1) - 0 = _; omega]
  refine ⟨s1, s2, s3, _, _, s4, s5, m1, m2, by omega, by omega, m3, by omega, m4, m5, by omega, ?_⟩
  have hs : (s3.cells ((j + 1 : Nat) : Int)).isSome = true := by
    obtain ⟨x, y1, _⟩ := A2 (k - (j + 1)) (by omega) (by omega)
    have ek : ((k - (k - (j + 1)) : Nat) : Int) = ((j + 1 : Nat) : Int) := by omega
    simp only [ek] at y1
    rw [c3, y1]
    rfl
  rw [hs, if_pos rfl] at n4
  omega
end Go.Proofs.Ytfkedhclhmbpfaa
