/-
  LruAgain's walk.
-/
import Derived.Test.YthecpiigabfboaaAl
import Derived.Test.YthecpiigabfboaaLIJ
import Derived.ProofKit
namespace Go.Proofs.Ythecpiigabfboaa
open Go.ChangeShapes Go.WideShapes Go.ChangeAt Go.RowKit
open LI
set_option linter.unusedVariables false
set_option linter.unusedSimpArgs false

/-- The numbers below j, the greatest one first. -/
def dn : Nat → List Int
  | 0 => []
  | j + 1 => (j : Int) :: dn j
theorem dn_mem {j : Nat} {x : Int} : x ∈ dn j ↔ 0 ≤ x ∧ x < j := by
  induction j with
  | zero => simp only [dn, List.not_mem_nil, false_iff]; omega
  | succ j ih =>
    simp only [dn, List.mem_cons, ih]
    omega
theorem dn_pair (j : Nat) : (dn j).Pairwise (fun x y => y < x) := by
  induction j with
  | zero => exact List.Pairwise.nil
  | succ j ih =>
    refine List.Pairwise.cons (fun y hy => ?_) ih
    have := dn_mem.1 hy
    omega
theorem dn_len (j : Nat) : (dn j).length = j := by
  induction j with
  | zero => rfl
  | succ j ih => simp [dn, ih]
/-- Behind j uses. -/
def upL (la : List Int) (j : Nat) : List Int := dn j ++ la.filter (fun x => decide ((j : Int) ≤ x))
theorem up_zero {la : List Int} (h : ∀ x ∈ la, 0 ≤ x) : upL la 0 = la := by
  unfold upL dn
  rw [List.nil_append, List.filter_eq_self]
  intro x hx
  simpa using h x hx
theorem up_succ (la : List Int) (j : Nat) : useL (upL la j) (j : Int) = upL la (j + 1) := by
  unfold useL upL dropL
  rw [List.filter_append, List.filter_filter]
  have e1 : (dn j).filter (fun x => decide (x ≠ (j : Int))) = dn j := by
    rw [List.filter_eq_self]
    intro x hx
    have := dn_mem.1 hx
    simp
    omega
  rw [e1]
  show _ = ((j : Int) :: dn j) ++ _
  rw [List.cons_append]
  congr 2
  apply List.filter_congr
  intro x _
  rw [← Bool.decide_and]
  apply decide_eq_decide.2
  omega
theorem up_all {la : List Int} {n : Nat} (h : ∀ x ∈ la, x < n) : upL la n = dn n := by
  unfold upL
  have : la.filter (fun x => decide ((n : Int) ≤ x)) = [] := by
    rw [List.filter_eq_nil_iff]
    intro x hx
    have := h x hx
    simp
    omega
  rw [this, List.append_nil]
/-- Behind j drops. -/
def cutL (n r j : Nat) : List Int := (dn n).filter (fun x => decide (¬ (x < j ∧ x % 2 = ((r % 2 : Nat) : Int))))
theorem cut_zero (n r : Nat) : cutL n r 0 = dn n := by
  unfold cutL
  rw [List.filter_eq_self]
  intro x hx
  have := dn_mem.1 hx
  simp
  omega
theorem cut_hit {n r j : Nat} (h : j % 2 = r % 2) : dropL (cutL n r j) (j : Int) = cutL n r (j + 1) := by
  unfold dropL cutL
  rw [List.filter_filter]
  apply List.filter_congr
  intro x _
  rw [← Bool.decide_and]
  apply decide_eq_decide.2
  omega
theorem cut_miss {n r j : Nat} (h : ¬ j % 2 = r % 2) : cutL n r j = cutL n r (j + 1) := by
  unfold cutL
  apply List.filter_congr
  intro x _
  apply decide_eq_decide.2
  omega
theorem cut_mem {n r j : Nat} {x : Int} (h : x ∈ cutL n r j) : 0 ≤ x ∧ x < n := dn_mem.1 (List.mem_filter.1 h).1
theorem cut_len (n r j : Nat) : (cutL n r j).length ≤ n := by
  have := List.length_filter_le (fun x : Int => decide (¬ (x < j ∧ x % 2 = ((r % 2 : Nat) : Int)))) (dn n)
  rw [dn_len] at this
  exact this
theorem cut_pair (n r j : Nat) : (cutL n r j).Pairwise (fun x y => y < x) := (dn_pair n).filter _
theorem up_len {la : List Int} {n j : Nat} (hla : la.length ≤ n) : (upL la j).length ≤ n + j := by
  unfold upL
  have := List.length_filter_le (fun x : Int => decide ((j : Int) ≤ x)) la
  rw [List.length_append, dn_len]
  omega

theorem wf_small {j : Nat} (h : j < 1000) : ok (j : Int) := by
  unfold ok
  simp [Lit.wf, IntKind.min, IntKind.max, IntKind.bits, IntKind.signed]
  omega

set_option maxRecDepth 100000 in
set_option maxHeartbeats 2000000 in
theorem again_any (n k : Nat) (w : World) (hn : n < 256) (hk : k < 256) :
    Calls Try.prog 4 #[.int .u8 (n : Int), .int .u8 (k : Int)] w fun e w' => e = .returned (.bool true) ∧ Below w.heap.size w w' := by
  have t1 : Int.tmod (n : Int) 20 = ((n % 20 : Nat) : Int) := by rw [Int.ofNat_tmod]; rfl
  have t2 : Int.tmod (k : Int) 6 = ((k % 6 : Nat) : Int) := by rw [Int.ofNat_tmod]; rfl
  have hs := Nat.mod_lt n (show 0 < 20 by omega)
  have hR := Nat.mod_lt k (show 0 < 6 by omega)
  obtain ⟨s, hse⟩ : ∃ s, s = n % 20 := ⟨_, rfl⟩
  obtain ⟨R, hRe⟩ : ∃ R, R = k % 6 := ⟨_, rfl⟩
  rw [← hse] at t1 hs
  rw [← hRe] at t2 hR
  clear hse hRe
  go_enter Try.func4, Try.ntmps4
  go_wp2_with fail
  refine (alive_any _).mono ?_
  rintro e w1 ⟨rfl, g1⟩
  have k1 := g1.size
  go_wp2_with fail
  refine (new_t1 w.heap.size [] _ k1 (Lie.nil _)).mono ?_
  rintro e w2 ⟨rfl, t3, g2⟩
  have HT2 := hid t3
  obtain ⟨a, ha⟩ : ∃ a, a = w1.heap.size + 2 := ⟨_, rfl⟩
  rw [← ha] at HT2 ⊢
  have G2 : Chg (fun k => w.heap.size ≤ k) w w2 := (g1.trans g2).weaken (fun _ _ h => h.elim)
  clear g1 g2 t3 ha k1
  go_wp2_with fail
  obtain ⟨z, hz⟩ : ∃ z, z = 1 + s := ⟨_, rfl⟩
  rw [show (1 + (s : Int)) = (z : Int) by rw [hz]; omega]
  have hz1 : z ≤ 20 := by omega
  have hz0 : 1 ≤ z := by omega
  clear hz hs
  go_loopw [7] (fun i wr => ∃ (r : Nat) (la : List Int), r ≤ R ∧ i = .int .i64 r ∧ T1 w.heap.size [] wr a la ∧ (∀ x ∈ la, 0 ≤ x ∧ x < z) ∧ la.length ≤ 20 ∧ Chg (fun k => w.heap.size ≤ k) w wr) (fun i _ => R - (intOf i).toNat)
  case atStart => exact ⟨0, [], by omega, rfl, HT2.out, by simp, by simp, G2⟩
  case round =>
    obtain ⟨r, la, hr, rfl, ht, hm, hl, hG⟩ := hrel
    have HG := hid hG
    have hsz := hG.size
    have HT := hid ht
    have HM := hid hm
    have HL := hid hl
    obtain ⟨wo, hwo⟩ : ∃ wo, wo = wr := ⟨_, rfl⟩
    subst hwo
    clear HT2 G2 ht hm hl hG
    by_cases hlt : r < R
    · go_wp2_with fail
      go_loopw [8] (fun i wx => ∃ (j : Nat), j ≤ z ∧ i = .int .i64 j ∧ T1 w.heap.size [] wx a (upL la j) ∧ Chg (fun k => w.heap.size ≤ k) w wx) (fun i _ => z - (intOf i).toNat)
      case atStart => exact ⟨0, by omega, rfl, by rw [up_zero (fun x hx => (HM.out x hx).1)]; exact HT.out, HG.out⟩
      case round =>
        obtain ⟨j, hj, rfl, ht, hG⟩ := hrel
        have HG := hid hG
        have hsz := hG.size
        have HT := hid ht
        clear ht hG
        by_cases hlt2 : j < z
        · have hlu : (upL la j).length ≤ 20 + j := up_len HL.out
          have HLU := hid hlu
          clear hlu
          go_wp2_with fail
          refine (use_t1 w.heap.size [] _ a _ (j : Int) HT.out hsz (Lie.nil _) (wf_small (by omega)) (by have := HLU.out; omega)).mono ?_
          rintro e w4 ⟨rfl, t4, g4⟩
          have HT4 := hid t4
          have HG4 := hid g4
          clear t4 g4
          go_wp2_with fail
          go_roundw
          case rel => exact ⟨j + 1, by omega, by go_num, by rw [← up_succ]; exact HT4.out, HG.out.trans (HG4.out.weaken (fun _ _ h => h.1))⟩
          case measure => simp [intOf]; omega
        · have hje : j = z := by omega
          have hup := up_all (la := la) (n := z) (fun x hx => (HM.out x hx).2)
          rw [hje, hup] at HT
          clear hup hje
          obtain ⟨wo, hwo⟩ : ∃ wo, wo = wr := ⟨_, rfl⟩
          subst hwo
          go_wp2_with fail
          clear hlt2 hj
          go_loopw [9] (fun i wx => ∃ (j : Nat), j ≤ z ∧ i = .int .i64 j ∧ T1 w.heap.size [] wx a (cutL z r j) ∧ Chg (fun k => w.heap.size ≤ k) w wx) (fun i _ => z - (intOf i).toNat)
          case atStart => exact ⟨0, by omega, rfl, by rw [cut_zero]; exact HT.out, HG.out⟩
          case round =>
            obtain ⟨j, hj, rfl, ht, hG⟩ := hrel
            have HG := hid hG
            have hsz := hG.size
            have HT := hid ht
            clear ht hG
            by_cases hlt2 : j < z
            · by_cases hp : j % 2 = r % 2
              · have hc := cut_hit (n := z) hp
                have HC := hid hc
                have hmm : ((j : Int) % 2 == (r : Int) % 2) = true := by rw [beq_iff_eq]; omega
                clear hc hp
                go_wp2_with fail
                refine (drop_t1 w.heap.size [] _ a _ (j : Int) HT.out hsz (Lie.nil _) (wf_small (by omega))).mono ?_
                rintro e w4 ⟨rfl, t4, g4⟩
                have HT4 := hid t4
                have HG4 := hid g4
                clear t4 g4
                go_wp2_with fail
                go_roundw
                case rel => exact ⟨j + 1, by omega, by go_num, by rw [← HC.out]; exact HT4.out, HG.out.trans (HG4.out.weaken (fun _ _ h => h.1))⟩
                case measure => simp [intOf]; omega
              · have hc := cut_miss (n := z) hp
                have HC := hid hc
                have hmm : ((j : Int) % 2 == (r : Int) % 2) = false := by rw [beq_eq_false_iff_ne]; omega
                clear hc hp
                go_wp2_with fail
                go_roundw
                case rel => exact ⟨j + 1, by omega, by go_num, by rw [← HC.out]; exact HT.out, HG.out⟩
                case measure => simp [intOf]; omega
            · have hje : j = z := by omega
              rw [hje] at HT
              clear hje
              obtain ⟨wo, hwo⟩ : ∃ wo, wo = wr := ⟨_, rfl⟩
              subst hwo
              have hcl := cut_len z r z
              have HCP := hid (cut_pair z r z)
              have HCM := hid (fun x (hx : x ∈ cutL z r z) => cut_mem hx)
              obtain ⟨c, hc⟩ : ∃ c, c = cutL z r z := ⟨_, rfl⟩
              rw [← hc] at hcl HCP HCM HT
              clear hc
              go_wp2_with fail
              clear hlt2 hj
              refine (keys_t1 w.heap.size [] _ a c HT.out).mono ?_
              rintro e w4 ⟨g, rfl, hg, hB, hc4⟩
              have HB := hid hB
              have HT4 := hid (HT.out.chg hc4)
              have HG4 := hid (HG.out.trans (hc4.weaken (fun _ _ h => h.elim)))
              clear HT HG hB hc4
              go_wp2_with fail
              go_loopw [11] (fun i wx => ∃ (j : Nat), 1 ≤ j ∧ (j ≤ c.length ∨ j = 1) ∧ i = .int .i64 j ∧ Chg (fun _ => False) w4 wx) (fun i _ => c.length - (intOf i).toNat)
              case atStart => exact ⟨1, by omega, Or.inr rfl, rfl, Chg.refl _ _⟩
              case round =>
                obtain ⟨j, hj1, hj, rfl, hG⟩ := hrel
                by_cases hlt3 : j < c.length
                · have e1 : wr.cell? ⟨g, j - 1, none⟩ = some (.int .i64 c[j - 1]) := by
                    rw [(hG.blk HB.out (fun h => h)).cell]
                    simp [show j - 1 < c.length by omega]
                  have e2 : wr.cell? ⟨g, j, none⟩ = some (.int .i64 c[j]) := by
                    rw [(hG.blk HB.out (fun h => h)).cell]
                    simp [hlt3]
                  have hgt := List.pairwise_iff_getElem.1 HCP.out (j - 1) j (by omega) hlt3 (by omega)
                  obtain ⟨x, hx⟩ : ∃ x, x = c[j - 1] := ⟨_, rfl⟩
                  obtain ⟨y, hy⟩ : ∃ y, y = c[j] := ⟨_, rfl⟩
                  rw [← hx] at e1 hgt
                  rw [← hy] at e2 hgt
                  clear hx hy
                  obtain ⟨i, hi⟩ : ∃ i, i = j - 1 := ⟨_, rfl⟩
                  have hji : j = i + 1 := by omega
                  subst hji
                  have hii : i + 1 - 1 = i := by omega
                  rw [hii] at e1
                  clear hi hii hj hj1
                  go_wp2_with fail
                  go_quiet (fail)
                  have hxy : ¬ x ≤ y := by omega
                  go_wp2_with fail
                  go_roundw
                  case rel => exact ⟨i + 1 + 1, by omega, Or.inl (by omega), by go_num, hG.drewN _⟩
                  case measure => simp [intOf]; omega
                · go_wp2_with fail
                  have HT5 := hid (HT4.out.chg hG)
                  have HG5 := hid (HG4.out.trans (hG.weaken (fun _ _ h => h.elim)))
                  have hcz : ¬ ((z : Int) < (c.length : Nat)) := by omega
                  refine (len_t1 w.heap.size [] _ a c HT5.out).mono ?_
                  rintro e w6 ⟨rfl, rfl⟩
                  clear HT4 HG4 HB hG hj hlt3
                  go_wp2_with fail
                  go_roundw
                  case rel => exact ⟨r + 1, c, by omega, by go_num, HT5.out, HCM.out, by omega, HG5.out⟩
                  case measure => simp [intOf]; omega
    · go_wp2_with fail
      go_ret
      exact ⟨rfl, HG.out.below (Nat.le_refl _) (fun k hk h => by omega)⟩
end Go.Proofs.Ythecpiigabfboaa
