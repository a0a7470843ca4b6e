/-
  LruOrder's walk.
-/
import Derived.Test.YthecpiigabfboaaAl
import Derived.Test.YthecpiigabfboaaLSJ
import Derived.ProofKit
namespace Go.Proofs.Ythecpiigabfboaa
open Go.ChangeShapes Go.WideShapes Go.ChangeAt Go.RowKit
open LS
set_option linter.unusedVariables false
set_option linter.unusedSimpArgs false

theorem uses_from (r : List ByteArray) : ∀ m : List ByteArray, r.foldl useL m = usesL r ++ m.filter (fun x => decide (x ∉ r)) := by
  induction r with
  | nil =>
    intro m
    rw [List.filter_eq_self.2 (by simp)]
    rfl
  | cons y r ih =>
    intro m
    have e1 : usesL (y :: r) = usesL r ++ [y].filter (fun x => decide (x ∉ r)) := ih [y]
    rw [e1, List.foldl_cons, ih (useL m y), List.append_assoc]
    congr 1
    unfold useL dropL
    rw [show y :: m.filter (fun x => decide (x ≠ y)) = [y] ++ m.filter (fun x => decide (x ≠ y)) from rfl, List.filter_append, List.filter_filter]
    congr 1
    apply List.filter_congr
    intro x _
    rw [← Bool.decide_and]
    apply decide_eq_decide.2
    rw [List.mem_cons]
    constructor
    · rintro ⟨a, b⟩ (c | c)
      · exact b c
      · exact a c
    · intro h
      exact ⟨fun c => h (Or.inr c), fun c => h (Or.inl c)⟩
theorem uses_in {y : ByteArray} {r : List ByteArray} (h : y ∈ r) : usesL (y :: r) = usesL r := by
  have := uses_from r [y]
  unfold usesL at this ⊢
  rw [List.foldl_cons]
  show r.foldl useL (useL [] y) = _
  rw [show useL ([] : List ByteArray) y = [y] from rfl, this]
  simp [h]
theorem uses_out {y : ByteArray} {r : List ByteArray} (h : y ∉ r) : usesL (y :: r) = usesL r ++ [y] := by
  have := uses_from r [y]
  unfold usesL at this ⊢
  rw [List.foldl_cons]
  show r.foldl useL (useL [] y) = _
  rw [show useL ([] : List ByteArray) y = [y] from rfl, this]
  simp [h]
theorem uses_mem {r : List ByteArray} : ∀ {x : ByteArray}, x ∈ usesL r → x ∈ r := by
  induction r with
  | nil => intro x h; exact h
  | cons y r ih =>
    intro x h
    by_cases hy : y ∈ r
    · rw [uses_in hy] at h
      exact List.mem_cons_of_mem _ (ih h)
    · rw [uses_out hy] at h
      rcases List.mem_append.1 h with h | h
      · exact List.mem_cons_of_mem _ (ih h)
      · rw [List.mem_singleton.1 h]; exact List.mem_cons_self
theorem drop_out {y : ByteArray} {r : List ByteArray} (h : y ∉ r) : dropL (usesL r ++ [y]) y = usesL r := by
  unfold dropL
  rw [List.filter_append, List.filter_eq_self.2 (fun x hx => by
    rw [decide_eq_true_iff]
    rintro rfl
    exact h (uses_mem hx))]
  simp
/-- Is a text among those from i + 1 on, below k? -/
def lat (l : List ByteArray) (s : ByteArray) (i k : Nat) : Bool := decide (s ∈ (l.take k).drop (i + 1))
theorem lat_start (l : List ByteArray) (s : ByteArray) (i : Nat) : lat l s i (i + 1) = false := by
  unfold lat
  rw [List.drop_eq_nil_of_le (by rw [List.length_take]; omega)]
  simp
theorem lat_step {l : List ByteArray} {s : ByteArray} {i k : Nat} (h : i < k) (hk : k < l.length) : lat l s i (k + 1) = (lat l s i k || decide (s = l[k])) := by
  unfold lat
  rw [List.take_succ_eq_append_getElem hk, List.drop_append_of_le_length (by rw [List.length_take]; omega), ← Bool.decide_or]
  apply decide_eq_decide.2
  rw [List.mem_append, List.mem_singleton]
theorem lat_end (l : List ByteArray) (s : ByteArray) (i : Nat) : lat l s i l.length = decide (s ∈ l.drop (i + 1)) := by
  unfold lat
  rw [List.take_length]

theorem list_ne {x s : ByteArray} (h : ¬ x = s) : (x.toList == s.toList) = false := by
  rw [ByteArray.toList_eq, ByteArray.toList_eq, beq_eq_false_iff_ne]
  exact fun e => h (ByteArray.ext (Array.ext' e))

set_option maxRecDepth 100000 in
set_option maxHeartbeats 4000000 in
theorem order_any (A : Option Addr) (cap : Nat) (xs : List ByteArray) (w : World) (hr : Row w A (xs.map Value.string)) (hs : ∀ x ∈ xs, ok x) (hn : xs.length ≤ 100) :
    Calls Try.prog 7 #[.slice A xs.length cap] w fun e w' => e = .returned (.bool true) ∧ Below w.heap.size w w' := by
  have HS := hid hs
  have HR := hid hr
  clear hs hr
  go_enter Try.func7, Try.ntmps7
  go_wp2_with fail
  refine (alive_any _).mono ?_
  rintro e w1 ⟨rfl, g1⟩
  have k1 := g1.size
  go_wp2_with fail
  refine (new_t1 w.heap.size [] _ k1 (Lie.nil _)).mono ?_
  rintro e w2 ⟨rfl, t2, g2⟩
  have HT2 := hid t2
  obtain ⟨a, ha⟩ : ∃ a, a = w1.heap.size + 2 := ⟨_, rfl⟩
  rw [← ha] at HT2 ⊢
  have G2 : Chg (fun k => w.heap.size ≤ k) w w2 := (g1.trans g2).weaken (fun _ _ h => h.elim)
  clear g1 g2 t2 ha k1
  go_wp2_with fail
  go_loopw [4] (fun i wr => ∃ (j : Nat), j ≤ xs.length ∧ i = .int .i64 j ∧ T1 w.heap.size [] wr a (usesL (xs.take j)) ∧ Chg (fun k => w.heap.size ≤ k) w wr) (fun i _ => xs.length - (intOf i).toNat)
  case atStart => exact ⟨0, by omega, rfl, HT2.out, G2⟩
  case round =>
    obtain ⟨j, hj, rfl, ht, hG⟩ := hrel
    have hsz := hG.size
    have HT := hid ht
    clear ht HT2 G2
    by_cases hlt : j < xs.length
    · obtain ⟨b1, off, rfl, hb1, hcs⟩ := HR.out.at_ (k := j) (by simpa using hlt)
      have e0 := hG.cell (hcs j (.string xs[j]) (by rw [List.getElem?_map, List.getElem?_eq_getElem hlt]; rfl)) (by show ¬ w.heap.size ≤ b1; omega)
      have hok := HS.out xs[j] (List.getElem_mem hlt)
      have hst := usesL_take hlt
      have hlen := usesL_len (xs.take j)
      have hlen2 := List.length_take_le j xs
      obtain ⟨s, hs⟩ : ∃ s, s = xs[j] := ⟨_, rfl⟩
      rw [← hs] at e0 hok hst
      obtain ⟨m, hm⟩ : ∃ m, m = usesL (xs.take j) := ⟨_, rfl⟩
      rw [← hm] at hst HT hlen
      have HOKS := hid hok
      have HST := hid hst
      have hml : m.length ≤ 100 := by omega
      clear hs hcs hok hst hm hlen hlen2 hb1
      go_wp2_with fail
      refine (use_t1 w.heap.size [] _ a m s HT.out hsz (Lie.nil _) HOKS.out (by omega)).mono ?_
      rintro e w4 ⟨rfl, t4, g4⟩
      have HT4 := hid t4
      have HG4 := hid g4
      clear t4 g4 e0
      go_wp2_with fail
      go_roundw
      case rel => exact ⟨j + 1, by omega, by go_num, by rw [HST.out]; exact HT4.out, hG.trans (HG4.out.weaken (fun _ _ h => h.1))⟩
      case measure => simp [intOf]; omega
    · have hje : j = xs.length := by omega
      rw [hje, List.take_length] at HT
      have HG := hid hG
      obtain ⟨wo, hwo⟩ : ∃ wo, wo = wr := ⟨_, rfl⟩
      subst hwo
      clear hG hje
      go_wp2_with fail
      clear hlt hj
      go_loopw [5] (fun i wx => ∃ (j : Nat), j ≤ xs.length ∧ i = .int .i64 j ∧ T1 w.heap.size [] wx a (usesL (xs.drop j)) ∧ Chg (fun k => w.heap.size ≤ k) w wx) (fun i _ => xs.length - (intOf i).toNat)
      case atStart => exact ⟨0, by omega, rfl, by rw [List.drop_zero]; exact HT.out, HG.out⟩
      case round =>
        obtain ⟨j, hj, rfl, ht, hG⟩ := hrel
        have hsz := hG.size
        have HG := hid hG
        have HT := hid ht
        obtain ⟨wo, hwo⟩ : ∃ wo, wo = wr := ⟨_, rfl⟩
        subst hwo
        clear ht hG
        by_cases hlt : j < xs.length
        · obtain ⟨b1, off, hA, hb1, hcs⟩ := HR.out.at_ (k := j) (by simpa using hlt)
          obtain ⟨s, hs⟩ : ∃ s, s = xs[j] := ⟨_, rfl⟩
          have HCS : Hid (∀ t (h : t < xs.length), wo.cell? ⟨b1, off + t, none⟩ = some (.string xs[t])) := fun t ht => HG.out.cell (hcs t (.string xs[t]) (by rw [List.getElem?_map, List.getElem?_eq_getElem ht]; rfl)) (by show ¬ w.heap.size ≤ b1; omega)
          have HSE := hid hs
          clear hcs hs hb1
          subst hA
          go_wp2_with fail
          go_loopw [6, 7] (fun lt i wx => ∃ (k : Nat), j < k ∧ k ≤ xs.length ∧ i = .int .i64 k ∧ lt = .bool (lat xs s j k) ∧ Chg (fun _ => False) wo wx) (fun _ i _ => xs.length - (intOf i).toNat)
          case atStart => exact ⟨j + 1, by omega, by omega, by go_num, by rw [lat_start], Chg.refl _ _⟩
          case round =>
            obtain ⟨k, hjk, hk, rfl, rfl, hG⟩ := hrel
            by_cases hlt2 : k < xs.length
            · have e1 := hG.cell (HCS.out j hlt) (fun h => h)
              have e2 := hG.cell (HCS.out k hlt2) (fun h => h)
              have hstep := lat_step (s := s) hjk hlt2
              rw [← HSE.out] at e1
              obtain ⟨x, hx⟩ : ∃ x, x = xs[k] := ⟨_, rfl⟩
              rw [← hx] at e2 hstep
              obtain ⟨v, hv⟩ : ∃ v, v = lat xs s j k := ⟨_, rfl⟩
              rw [← hv] at hstep ⊢
              have HST := hid hstep
              clear hx hv hstep
              cases v with
              | true =>
                go_wp2_with fail
                go_quiet (fail)
                go_wp2_with fail
                go_roundw
                case rel => exact ⟨k + 1, by omega, by omega, by go_num, by rw [HST.out]; rfl, hG.drewN _⟩
                case measure => simp [intOf]; omega
              | false =>
                by_cases hsx : x = s
                · subst hsx
                  go_wp2_with fail
                  go_quiet (fail)
                  go_wp2_with fail
                  go_roundw
                  case rel => exact ⟨k + 1, by omega, by omega, by go_num, by rw [HST.out]; simp, hG.drewN _⟩
                  case measure => simp [intOf]; omega
                · have hsx2 : ¬ s = x := fun e => hsx e.symm
                  have hsx3 := list_ne hsx
                  go_wp2_with fail
                  go_quiet (fail)
                  go_wp2_with fail
                  go_roundw
                  case rel => exact ⟨k + 1, by omega, by omega, by go_num, by rw [HST.out]; simp [hsx2], hG.drewN _⟩
                  case measure => simp [intOf]; omega
            · have hke : k = xs.length := by omega
              have hend := lat_end xs s j
              rw [hke, hend]
              have hcons : xs.drop j = s :: xs.drop (j + 1) := by rw [HSE.out]; exact List.drop_eq_getElem_cons hlt
              rw [hcons] at HT
              have HT1 := hid (HT.out.chg hG)
              have HG1 := hid (HG.out.trans (hG.weaken (fun _ _ h => h.elim)))
              have hsz1 := HG1.out.size
              have e1 := hG.cell (HCS.out j hlt) (fun h => h)
              rw [← HSE.out] at e1
              have hok : ok s := by rw [HSE.out]; exact HS.out _ (List.getElem_mem hlt)
              have HOK := hid hok
              obtain ⟨r, hr⟩ : ∃ r, r = xs.drop (j + 1) := ⟨_, rfl⟩
              rw [← hr] at HT1 ⊢
              have HRR := hid hr
              clear hend hcons HT HG hG HCS hok hr hke hlt2 hk
              by_cases hin : s ∈ r
              · rw [uses_in hin] at HT1
                rw [decide_eq_true hin]
                clear hin e1
                go_wp2_with fail
                go_roundw
                case rel => exact ⟨j + 1, by omega, by go_num, by rw [← HRR.out]; exact HT1.out, HG1.out⟩
                case measure => simp [intOf]; omega
              · rw [uses_out hin] at HT1
                rw [decide_eq_false hin]
                have hdo := drop_out hin
                have hnot : s ∉ usesL r := fun h => hin (uses_mem h)
                have HDO := hid hdo
                have HNOT := hid hnot
                clear hin hdo hnot
                go_wp2_with fail
                refine (last_t1 w.heap.size [] _ a _ HT1.out).mono ?_
                rintro e w5 ⟨rfl, g5⟩
                rw [show lastV (usesL r ++ [s]).getLast? = .tuple #[.string s, .bool true] by rw [List.getLast?_concat]; rfl]
                have HT5 := hid (HT1.out.chg g5)
                have HG5 := hid (HG1.out.trans (g5.weaken (fun _ _ h => h.elim)))
                have hsz5 := g5.size
                have e5 := g5.cell e1 (fun h => h)
                clear HT1 HG1 g5 e1
                go_wp2_with fail
                refine (drop_t1 w.heap.size [] _ a _ s HT5.out (by omega) (Lie.nil _) HOK.out).mono ?_
                rintro e w6 ⟨rfl, t6, g6⟩
                rw [HDO.out] at t6
                rw [decide_eq_true (show s ∈ usesL r ++ [s] by simp)]
                have HT6 := hid t6
                have HG6 := hid (HG5.out.trans (g6.weaken (fun _ _ h => h.1)))
                have hsz6 := g6.size
                clear t6 g6 HT5 HG5 e5
                go_wp2_with fail
                refine (drop_t1 w.heap.size [] _ a _ s HT6.out (by omega) (Lie.nil _) HOK.out).mono ?_
                rintro e w7 ⟨rfl, t7, g7⟩
                rw [dropL_none HNOT.out] at t7
                rw [decide_eq_false HNOT.out]
                have HT7 := hid t7
                have HG7 := hid (HG6.out.trans (g7.weaken (fun _ _ h => h.1)))
                clear t7 g7 HT6 HG6
                go_wp2_with fail
                refine (has_t1 w.heap.size [] _ a _ s HT7.out HOK.out).mono ?_
                rintro e w8 ⟨rfl, rfl⟩
                rw [decide_eq_false HNOT.out]
                go_wp2_with fail
                go_roundw
                case rel => exact ⟨j + 1, by omega, by go_num, by rw [← HRR.out]; exact HT7.out, HG7.out⟩
                case measure => simp [intOf]; omega
        · have hje : j = xs.length := by omega
          rw [hje, List.drop_length] at HT
          have hoka : ok (⟨#[97]⟩ : ByteArray) := by unfold ok; decide
          have HOKA := hid hoka
          clear hje hoka
          go_wp2_with fail
          clear hlt hj
          refine (use_nil _ _).mono ?_
          rintro e w5 ⟨rfl, rfl⟩
          go_wp2_with fail
          refine (last_nil _).mono ?_
          rintro e w6 ⟨rfl, g6⟩
          rw [show lastV none = .tuple #[.string ⟨#[]⟩, .bool false] from rfl]
          have HT6 := hid (HT.out.chg g6)
          have HG6 := hid (HG.out.trans (g6.weaken (fun _ _ h => h.elim)))
          clear HT HG g6
          go_wp2_with fail
          refine (lastbut_nil _ _ _).mono ?_
          rintro e w7 ⟨rfl, g7⟩
          rw [show lastV none = .tuple #[.string ⟨#[]⟩, .bool false] from rfl]
          have HT7 := hid (HT6.out.chg g7)
          have HG7 := hid (HG6.out.trans (g7.weaken (fun _ _ h => h.elim)))
          clear HT6 HG6 g7
          go_wp2_with fail
          refine (len_t1 w.heap.size [] _ a _ HT7.out).mono ?_
          rintro e w8 ⟨rfl, rfl⟩
          rw [show (((usesL []).length : Nat) : Int) = 0 from rfl]
          go_wp2_with fail
          refine (has_nil _ _).mono ?_
          rintro e w9 ⟨rfl, rfl⟩
          go_wp2_with fail
          refine (drop_nil _ _).mono ?_
          rintro e w9 ⟨rfl, rfl⟩
          go_wp2_with fail
          refine (len_nil _).mono ?_
          rintro e w9 ⟨rfl, rfl⟩
          go_wp2_with fail
          refine (keys_nil _).mono ?_
          rintro e w9 ⟨g, rfl, hg, hB, hc⟩
          have HG9 := hid (HG7.out.trans (hc.weaken (fun _ _ h => h.elim)))
          clear hB hc hg
          simp only [List.length_nil]
          go_wp2_with fail
          go_ret
          exact ⟨rfl, HG9.out.below (Nat.le_refl _) (fun k hk h => by omega)⟩
end Go.Proofs.Ythecpiigabfboaa
