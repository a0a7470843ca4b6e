/-
  WordsOrder's walk.
-/
import Derived.Test.YtppcpemenebamaaDed
import Derived.ProofKit
namespace Go.Proofs.Ytppcpemenebamaa
open Go.ChangeShapes Go.WideShapes Go.ChangeAt Go.RowKit
set_option linter.unusedVariables false
set_option linter.unusedSimpArgs false

/-! Two lists without repeats that have the same texts. -/
theorem sub_perm (l : List ByteArray) : ∀ m : List ByteArray, l.Nodup → (∀ x ∈ l, x ∈ m) → ∃ r, m.Perm (l ++ r) := by
  induction l with
  | nil => intro m _ _; exact ⟨m, List.Perm.refl _⟩
  | cons x t ih =>
    intro m hn hs
    obtain ⟨hx, ht⟩ := List.nodup_cons.1 hn
    obtain ⟨r, hr⟩ := ih m ht fun y hy => hs y (by simp [hy])
    have hxm : x ∈ t ++ r := hr.mem_iff.1 (hs x (by simp))
    have hxr : x ∈ r := by
      rcases List.mem_append.1 hxm with h | h
      · exact absurd h hx
      · exact h
    obtain ⟨u, v, rfl⟩ := List.append_of_mem hxr
    refine ⟨u ++ v, hr.trans ?_⟩
    refine (List.Perm.append_left t List.perm_middle).trans ?_
    exact List.perm_middle
theorem same_perm {l m : List ByteArray} (hl : l.Nodup) (hm : m.Nodup) (h : ∀ x, x ∈ l ↔ x ∈ m) : l.Perm m := by
  obtain ⟨r, hr⟩ := sub_perm l m hl fun x hx => (h x).1 hx
  obtain ⟨t, ht⟩ := sub_perm m l hm fun x hx => (h x).2 hx
  have h1 := hr.length_eq
  have h2 := ht.length_eq
  rw [List.length_append] at h1 h2
  have hr0 : r = [] := List.eq_nil_of_length_eq_zero (by omega)
  subst hr0
  rw [List.append_nil] at hr
  exact hr.symm
theorem bytesOf_perm {l m : List ByteArray} (h : l.Perm m) : bytesOf l = bytesOf m := by
  induction h with
  | nil => rfl
  | cons x _ ih => simp [bytesOf, ih]
  | swap x y l => simp [bytesOf]; omega
  | trans _ _ ih1 ih2 => exact ih1.trans ih2

/-- Two tables of the call's own. -/
def T2 (base : Nat) (w : World) (a : Nat) (la : List ByteArray) (b : Nat) (lb : List ByteArray) : Prop :=
  ∃ F G, Tab w a F la ∧ Tab w b G lb ∧ (∀ k, F k → base ≤ k) ∧ (∀ k, G k → base ≤ k) ∧ ∀ k, F k → ¬ G k
section
variable {base : Nat} {w w' : World} {a b : Nat} {la lb : List ByteArray}
theorem T2.left (h : T2 base w a la b lb) : T1 base w a la := by obtain ⟨F, G, h1, h2, h3, h4, h5⟩ := h; exact ⟨F, h1, h3⟩
theorem T2.right (h : T2 base w a la b lb) : T1 base w b lb := by obtain ⟨F, G, h1, h2, h3, h4, h5⟩ := h; exact ⟨G, h2, h4⟩
theorem T2.swap (h : T2 base w a la b lb) : T2 base w b lb a la := by obtain ⟨F, G, h1, h2, h3, h4, h5⟩ := h; exact ⟨G, F, h2, h1, h4, h3, fun k hg hf => h5 k hf hg⟩
theorem T2.chg (h : T2 base w a la b lb) (hc : Chg (fun _ => False) w w') : T2 base w' a la b lb := by
  obtain ⟨F, G, h1, h2, h3, h4, h5⟩ := h
  exact ⟨F, G, h1.chg hc (fun _ _ h => h), h2.chg hc (fun _ _ h => h), h3, h4, h5⟩
end
theorem of_t2 (base : Nat) (w : World) (a b : Nat) (la lb : List ByteArray) (s : ByteArray) (h : T2 base w a la b lb) (hb : base ≤ w.heap.size) (hs : okS s) (hn : la.length ≤ 100000) :
    Calls Try.prog 10 #[.pointer (some ⟨a, 0, none⟩), .string s] w fun e w' => e = .returned (.int .i64 (numT la s)) ∧ T2 base w' a (addT la s) b lb ∧ Chg (fun k => base ≤ k) w w' := by
  obtain ⟨F, G, h1, h2, h3, h4, h5⟩ := h
  refine (of_any w a F la s h1 hs hn).mono ?_
  rintro e w' ⟨he, ht, hc⟩
  refine ⟨he, ⟨_, G, ht, h2.chg hc (fun k hg hf => h5 k hf hg), fun k hk => by rcases hk with hk | hk; exact h3 k hk; omega, h4, fun k hk hg => ?_⟩, hc.weaken (fun k _ hk => h3 k hk)⟩
  rcases hk with hk | hk
  · exact h5 k hk hg
  · have := h2.lt k hg
    omega

set_option maxRecDepth 100000 in
set_option maxHeartbeats 2000000 in
theorem order_any (A : Option Addr) (cap : Nat) (xs : List ByteArray) (w : World) (hr : Row w A (xs.map Value.string)) (hs : ∀ x ∈ xs, okS x) (hn : xs.length ≤ 100) :
    Calls Try.prog 6 #[.slice A xs.length cap] w fun e w' => e = .returned (.bool true) ∧ Below w.heap.size w w' := by
  have HS := hid hs
  have HR := hid hr
  clear hs hr
  go_enter Try.func6, Try.ntmps6
  go_wp2_with fail
  refine (alive_any _).mono ?_
  rintro e w1 ⟨rfl, g1⟩
  have k1 := g1.size
  go_wp2_with fail
  refine (new_any _).mono ?_
  rintro e w2 ⟨rfl, t2, g2⟩
  have k2 := t2.lt (w1.heap.size + 1) (by omega)
  have HT2 := hid t2
  clear t2
  go_wp2_with fail
  refine (new_any _).mono ?_
  rintro e w3 ⟨rfl, t3, g3⟩
  have k3 := t3.lt (w2.heap.size + 1) (by omega)
  have P3 : Hid (T2 w1.heap.size w3 (w1.heap.size + 1) [] (w2.heap.size + 1) []) := ⟨_, _, HT2.out.chg g3 (fun _ _ h => h), t3, fun k hk => hk.1, fun k hk => by omega, fun k hk hk2 => by omega⟩
  have G3 : Chg (fun k => w1.heap.size ≤ k) w w3 := ((g1.trans g2).trans g3).weaken (fun _ _ h => h.elim)
  clear g1 g2 g3 t3 HT2
  go_wp2_with fail
  go_loopw [5, 6] (fun last i wr => ∃ (k : Nat), k ≤ xs.length ∧ i = .int .i64 k ∧ last = .int .i64 ((ded (xs.take k)).length) ∧ T2 w1.heap.size wr (w1.heap.size + 1) (ded (xs.take k)) (w2.heap.size + 1) [] ∧ Chg (fun k => w1.heap.size ≤ k) w wr) (fun _ i _ => xs.length - (intOf i).toNat)
  case atStart => exact ⟨0, by omega, rfl, rfl, P3.out, G3⟩
  case round =>
    obtain ⟨k, hk, rfl, rfl, ht, hG⟩ := hrel
    have hsz := ht.left.lt
    have hlen := ded_length (xs.take k)
    have hlen2 := List.length_take_le k xs
    have HT := hid ht
    clear ht P3 G3
    by_cases hlt : k < xs.length
    · obtain ⟨b1, off, rfl, hb1, hcs⟩ := HR.out.at_ (k := k) (by simpa using hlt)
      have e0 := hG.cell (hcs k (.string xs[k]) (by rw [List.getElem?_map, List.getElem?_eq_getElem hlt]; rfl)) (by show ¬ w1.heap.size ≤ b1; omega)
      have hok := HS.out xs[k] (List.getElem_mem hlt)
      have hst := ded_take hlt
      obtain ⟨s, hs⟩ : ∃ s, s = xs[k] := ⟨_, rfl⟩
      rw [← hs] at e0 hok hst
      obtain ⟨m, hm⟩ : ∃ m, m = ded (xs.take k) := ⟨_, rfl⟩
      have hml : m.length ≤ 100 := by rw [hm]; omega
      rw [← hm]
      rw [← hm] at hst
      have HTm : Hid (T2 w1.heap.size wr (w1.heap.size + 1) m (w2.heap.size + 1) []) := by rw [hm]; exact HT.out
      have HOK := hid hok
      have HST := hid hst
      clear hs hcs hok hst hm HT hlen hlen2
      cases hpos : pos m s with
      | some i =>
        have hil := pos_lt hpos
        have hnum : numT m s = (i : Int) + 1 := by unfold numT; rw [hpos]
        have hadd : addT m s = m := addT_some hpos
        have HN := hid hnum
        have HADD := hid hadd
        clear hpos hnum hadd
        go_wp2_with fail
        refine (of_t2 w1.heap.size _ _ _ _ _ _ HTm.out (by omega) HOK.out (by omega)).mono ?_
        rintro e w4 ⟨rfl, t4, g4⟩
        rw [HN.out]
        have HT4 := hid t4
        clear t4
        go_wp2_with fail
        go_roundw
        case rel => exact ⟨k + 1, by omega, by go_num, by rw [HST.out, HADD.out], by rw [HST.out]; exact HT4.out, hG.trans g4⟩
        case measure => simp [intOf]; omega
      | none =>
        have hnum : numT m s = (m.length : Int) + 1 := by unfold numT; rw [hpos]
        have hadd : addT m s = m ++ [s] := addT_none hpos
        have HN := hid hnum
        have HADD := hid hadd
        clear hpos hnum hadd
        go_wp2_with fail
        refine (of_t2 w1.heap.size _ _ _ _ _ _ HTm.out (by omega) HOK.out (by omega)).mono ?_
        rintro e w4 ⟨rfl, t4, g4⟩
        rw [HN.out]
        have HT4 := hid t4
        clear t4
        go_wp2_with fail
        go_roundw
        case rel => exact ⟨k + 1, by omega, by go_num, by rw [HST.out, HADD.out, List.length_append]; go_num, by rw [HST.out]; exact HT4.out, hG.trans g4⟩
        case measure => simp [intOf]; omega
    · have hkn : k = xs.length := by omega
      have ht := HT.out
      rw [hkn, List.take_length] at ht
      obtain ⟨m, hm⟩ : ∃ m, m = ded xs := ⟨_, rfl⟩
      have hml : m.length ≤ 100 := by have := ded_length xs; rw [hm]; omega
      rw [← hm] at ht
      have hlast : (ded (xs.take k)).length = m.length := by rw [hkn, List.take_length, hm]
      rw [hlast]
      have HM := hid hm
      have HT5 := hid ht
      clear ht HT hkn hm hlast hlen hlen2
      go_wp2_with fail
      go_loopw [8] (fun i wx => ∃ (j : Nat), j ≤ xs.length ∧ i = .int .i64 ((j : Int) - 1) ∧ T2 w1.heap.size wx (w1.heap.size + 1) m (w2.heap.size + 1) (ded (xs.drop j).reverse) ∧ Chg (fun k => w1.heap.size ≤ k) w wx) (fun i _ => (intOf i + 1).toNat)
      case atStart => exact ⟨xs.length, by omega, rfl, by simpa [ded] using HT5.out, hG⟩
      case round =>
        obtain ⟨j, hj, rfl, ht, hG⟩ := hrel
        have hsz := ht.left.lt
        have HT6 := hid ht
        clear ht HT5
        have hlen := ded_length (xs.drop j).reverse
        rw [List.length_reverse, List.length_drop] at hlen
        cases j with
        | zero =>
          obtain ⟨lb, hlb⟩ : ∃ lb, lb = ded (xs.drop 0).reverse := ⟨_, rfl⟩
          have HT7 : Hid (T2 w1.heap.size wr (w1.heap.size + 1) m (w2.heap.size + 1) lb) := by rw [hlb]; exact HT6.out
          have hperm : lb.Perm m := by
            rw [hlb, HM.out]
            refine same_perm (ded_nodup _) (ded_nodup _) fun x => ?_
            rw [ded_mem, ded_mem, List.mem_reverse, List.drop_zero]
          have hll : lb.length = m.length := hperm.length_eq
          have hbb : bytesOf lb = bytesOf m := bytesOf_perm hperm
          have HP := hid hperm
          have HLL := hid hll
          have HBB := hid hbb
          have HNM : Hid m.Nodup := by rw [HM.out]; exact ded_nodup _
          clear hlb hperm hll hbb HT6 hlen
          go_wp2_with fail
          refine (len_t1 w1.heap.size _ _ _ HT7.out.left (by omega)).mono ?_
          rintro e w4 ⟨rfl, g4⟩
          have HT8 := hid (HT7.out.chg g4)
          have hG4 := hG.into g4 (fun _ _ h => h.elim)
          go_wp2_with fail
          refine (len_t1 w1.heap.size _ _ _ HT8.out.right (by rw [HLL.out]; omega)).mono ?_
          rw [HLL.out]
          rintro e w5 ⟨rfl, g5⟩
          have HT9 := hid (HT8.out.chg g5)
          have hG5 := hG4.into g5 (fun _ _ h => h.elim)
          go_wp2_with fail
          refine (bytes_t1 w1.heap.size _ _ _ HT9.out.left (by omega)).mono ?_
          rintro e w6 ⟨rfl, g6⟩
          have HT10 := hid (HT9.out.chg g6)
          have hG6 := hG5.into g6 (fun _ _ h => h.elim)
          go_wp2_with fail
          refine (bytes_t1 w1.heap.size _ _ _ HT10.out.right (by rw [HLL.out]; omega)).mono ?_
          rw [HBB.out]
          rintro e w7 ⟨rfl, g7⟩
          have HT11 := hid (HT10.out.chg g7)
          have hG7 := hG6.into g7 (fun _ _ h => h.elim)
          clear HT7 HT8 HT9 HT10 hG hG4 hG5 hG6 g4 g5 g6 g7
          go_wp2_with fail
          go_loopw [9] (fun i wx => ∃ (t : Nat), t ≤ m.length ∧ i = .int .i64 ((t : Int) + 1) ∧ w7 = wx) (fun i _ => m.length + 1 - (intOf i).toNat)
          case atStart => exact ⟨0, by omega, rfl, rfl⟩
          case round =>
            obtain ⟨t, ht, rfl, rfl⟩ := hrel
            by_cases htm : t < m.length
            · obtain ⟨s, hs⟩ : ∃ s, s = m[t] := ⟨_, rfl⟩
              have hsm : s ∈ lb := HP.out.mem_iff.2 (by rw [hs]; exact List.getElem_mem htm)
              obtain ⟨p, hp⟩ := pos_mem hsm
              obtain ⟨hpl, hpg⟩ : ∃ h : p < lb.length, lb[p] = s := ⟨pos_lt hp, pos_get hp⟩
              have hos : okS s := HT11.out.right.small s hsm
              have HOS := hid hos
              have HS2 := hid hs
              have HPP := hid hp
              have HPG := hid hpg
              have hpl2 : p < m.length := by have := HLL.out; omega
              clear hs hsm hp hpg hos
              go_wp2_with fail
              refine (text_ok_t1 w1.heap.size _ _ _ t HT11.out.left htm (by omega)).mono ?_
              rw [← HS2.out]
              rintro e w8 ⟨rfl, rfl⟩
              go_wp2_with fail
              refine (known_t1 w1.heap.size _ _ _ _ HT11.out.right HOS.out).mono ?_
              rw [HPP.out]
              rintro e w8 ⟨rfl, rfl⟩
              go_wp2_with fail
              refine (text_ok_t1 w1.heap.size _ _ _ p HT11.out.right hpl (by have := HLL.out; omega)).mono ?_
              rw [HPG.out]
              rintro e w8 ⟨rfl, rfl⟩
              go_wp2_with fail
              go_roundw
              case rel => exact ⟨t + 1, by omega, by go_num, trivial⟩
              case measure => simp [intOf]; omega
            · go_wp2_with fail
              go_ret
              exact ⟨rfl, hG7.below (Nat.le_refl _) (fun k hk h => by omega)⟩
        | succ j =>
          have hlj : j < xs.length := by omega
          obtain ⟨b1, off, rfl, hb1, hcs⟩ := HR.out.at_ (k := j) (by simpa using hlj)
          have e0 := hG.cell (hcs j (.string xs[j]) (by rw [List.getElem?_map, List.getElem?_eq_getElem hlj]; rfl)) (by show ¬ w1.heap.size ≤ b1; omega)
          have hok := HS.out xs[j] (List.getElem_mem hlj)
          have hst : ded (xs.drop j).reverse = addT (ded (xs.drop (j + 1)).reverse) xs[j] := by
            rw [List.drop_eq_getElem_cons hlj, List.reverse_cons, ded_snoc]
          obtain ⟨s, hs⟩ : ∃ s, s = xs[j] := ⟨_, rfl⟩
          rw [← hs] at e0 hok hst
          have HOK := hid hok
          have HST := hid hst
          clear hs hcs hok hst
          rw [show ((j + 1 : Nat) : Int) - 1 = (j : Int) by omega]
          go_wp2_with fail
          refine (of_t2 w1.heap.size _ _ _ _ _ _ HT6.out.swap (by omega) HOK.out (by omega)).mono ?_
          rintro e w4 ⟨rfl, t4, g4⟩
          have HT7 := hid t4
          clear t4
          go_wp2_with fail
          go_roundw
          case rel => exact ⟨j, by omega, rfl, by rw [HST.out]; exact HT7.out.swap, hG.trans g4⟩
          case measure => simp [intOf] <;> omega
end Go.Proofs.Ytppcpemenebamaa
