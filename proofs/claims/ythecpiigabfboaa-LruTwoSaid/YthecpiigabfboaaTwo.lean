/-
  LruTwo's walk.
-/
import Derived.Test.YthecpiigabfboaaAl
import Derived.Test.YthecpiigabfboaaLBJ
import Derived.ProofKit
namespace Go.Proofs.Ythecpiigabfboaa
open Go.ChangeShapes Go.WideShapes Go.ChangeAt Go.RowKit
open LB
set_option linter.unusedVariables false
set_option linter.unusedSimpArgs false

/-- Among those that are left of a list, the one at a place of the list. -/
theorem drop_at {l : List Int} {k : Int} {i : Nat} (h : i < l.length) (hne : l[i] ≠ k) : (dropL l k)[(dropL (l.take i) k).length]? = some l[i] := by
  have e : l = l.take i ++ l[i] :: l.drop (i + 1) := by rw [← List.drop_eq_getElem_cons h, List.take_append_drop]
  have e2 : dropL l k = dropL (l.take i) k ++ l[i] :: dropL (l.drop (i + 1)) k := by
    conv => lhs; rw [e]
    unfold dropL
    rw [List.filter_append, List.filter_cons_of_pos (by simpa using hne)]
  rw [e2, List.getElem?_append_right (Nat.le_refl _), Nat.sub_self]
  rfl
theorem drop_take_eq {l : List Int} {k : Int} {i : Nat} (h : i < l.length) (he : l[i] = k) : dropL (l.take (i + 1)) k = dropL (l.take i) k := by
  unfold dropL
  rw [List.take_succ_eq_append_getElem h, List.filter_append, List.filter_cons_of_neg (by simpa using he)]
  simp
theorem drop_take_ne {l : List Int} {k : Int} {i : Nat} (h : i < l.length) (he : l[i] ≠ k) : (dropL (l.take (i + 1)) k).length = (dropL (l.take i) k).length + 1 := by
  unfold dropL
  rw [List.take_succ_eq_append_getElem h, List.filter_append, List.filter_cons_of_pos (by simpa using he)]
  simp

set_option maxRecDepth 100000 in
set_option maxHeartbeats 2000000 in
theorem two_any (A : Option Addr) (cap : Nat) (zs : List Int) (k : Int) (w : World) (hr : Row w A (zs.map (Value.int .u8))) (hz : ∀ z ∈ zs, ok z) (hk : ok k) (hn : zs.length ≤ 60) :
    Calls Try.prog 3 #[.slice A zs.length cap, .int .u8 k] w fun e w' => e = .returned (.bool true) ∧ Below w.heap.size w w' := by
  have HZ := hid hz
  have HR := hid hr
  have HOK := hid hk
  clear hz hr hk
  go_enter Try.func3, Try.ntmps3
  go_wp2_with fail
  refine (alive_any _).mono ?_
  rintro e w1 ⟨rfl, g1⟩
  have k1 := g1.size
  go_wp2_with fail
  refine (new_t1 w.heap.size [] _ k1 (Lie.nil _)).mono ?_
  rintro e w2 ⟨rfl, t2, g2⟩
  have k2 := g2.size
  have l2 := t2.lt
  have HT2 := hid t2
  obtain ⟨a, ha⟩ : ∃ a, a = w1.heap.size + 2 := ⟨_, rfl⟩
  rw [← ha] at HT2 l2 ⊢
  have HA := hid ha
  clear t2 ha
  go_wp2_with fail
  refine (new_t2 w.heap.size [] _ a [] HT2.out (by omega) (Lie.nil _)).mono ?_
  rintro e w3 ⟨rfl, t3, g3⟩
  have k3 := g3.size
  have l3 := t3.right.lt
  have HT3 := hid t3
  obtain ⟨b, hb⟩ : ∃ b, b = w2.heap.size + 2 := ⟨_, rfl⟩
  rw [← hb] at HT3 l3 ⊢
  have G3 : Chg (fun k => w.heap.size ≤ k) w w3 := ((g1.trans g2).trans g3).weaken (fun _ _ h => h.elim)
  clear g1 g2 g3 t3 HT2 hb HA
  go_wp2_with fail
  go_loopw [7] (fun i wr => ∃ (j : Nat), j ≤ zs.length ∧ i = .int .i64 j ∧ T2 w.heap.size [] wr a (usesL (zs.take j)) b (usesL (zs.take j)) ∧ Chg (fun k => w.heap.size ≤ k) w wr) (fun i _ => zs.length - (intOf i).toNat)
  case atStart => exact ⟨0, by omega, rfl, HT3.out, G3⟩
  case round =>
    obtain ⟨j, hj, rfl, ht, hG⟩ := hrel
    have hsz := hG.size
    have HT := hid ht
    clear ht HT3 G3 k1 k2 k3 l2 l3
    by_cases hlt : j < zs.length
    · obtain ⟨b1, off, rfl, hb1, hcs⟩ := HR.out.at_ (k := j) (by simpa using hlt)
      have e0 := hG.cell (hcs j (.int .u8 zs[j]) (by rw [List.getElem?_map, List.getElem?_eq_getElem hlt]; rfl)) (by show ¬ w.heap.size ≤ b1; omega)
      have hok := HZ.out zs[j] (List.getElem_mem hlt)
      have hst := usesL_take hlt
      have hlen := usesL_len (zs.take j)
      have hlen2 := List.length_take_le j zs
      obtain ⟨s, hs⟩ : ∃ s, s = zs[j] := ⟨_, rfl⟩
      rw [← hs] at e0 hok hst
      obtain ⟨m, hm⟩ : ∃ m, m = usesL (zs.take j) := ⟨_, rfl⟩
      rw [← hm] at hst HT hlen
      have HOKS := hid hok
      have HST := hid hst
      have hml : m.length ≤ 100 := by omega
      have HBB : Hid (b1 < w.heap.size) := hb1
      clear hs hcs hok hst hm hlen hlen2 hb1
      go_wp2_with fail
      refine (use_t2 w.heap.size [] _ a m b m s HT.out hsz (Lie.nil _) HOKS.out (by omega)).mono ?_
      rintro e w4 ⟨rfl, t4, g4⟩
      have e1 := g4.cell e0 (by show ¬ (w.heap.size ≤ b1 ∧ _); have := HBB.out; omega)
      have hsz4 := g4.size
      have HT4 := hid t4.swap
      have HG4 := hid g4
      clear t4 g4 e0
      go_wp2_with fail
      refine (use_t2 w.heap.size [] _ b m a _ s HT4.out (by omega) (Lie.nil _) HOKS.out (by omega)).mono ?_
      rintro e w5 ⟨rfl, t5, g5⟩
      have HT5 := hid t5.swap
      have HG5 := hid g5
      clear t5 g5 e1
      go_wp2_with fail
      go_roundw
      case rel => exact ⟨j + 1, by omega, by go_num, by rw [HST.out]; exact HT5.out, (hG.trans (HG4.out.weaken (fun _ _ h => h.1))).trans (HG5.out.weaken (fun _ _ h => h.1))⟩
      case measure => simp [intOf]; omega
    · have hje : j = zs.length := by omega
      subst hje
      rw [List.take_length] at HT
      have hlen := usesL_len zs
      obtain ⟨m, hm⟩ : ∃ m, m = usesL zs := ⟨_, rfl⟩
      rw [← hm] at HT hlen
      have hml : m.length ≤ 60 := by omega
      clear hm hlen
      go_wp2_with fail
      refine (keys_t1 w.heap.size [] _ a m HT.out.left).mono ?_
      rintro e w4 ⟨g1, rfl, hg1, hB1, hc4⟩
      have hsz4 := hc4.size
      have HT4 := hid (HT.out.skip hg1 hc4)
      have HB1 := hid hB1
      have hlt1 := hB1.lt
      have HG4 := hid (hG.trans (hc4.weaken (fun _ _ h => h.elim)))
      clear hc4 hB1 HT hG
      go_wp2_with fail
      refine (use_t2 w.heap.size [g1] _ a m b m k HT4.out (by omega) (fun p hp => by rw [List.mem_singleton.1 hp]; exact hlt1) HOK.out (by omega)).mono ?_
      rintro e w5 ⟨rfl, t5, g5⟩
      have hsz5 := g5.size
      have HT5 := hid t5
      have HB15 := hid (g5.blk HB1.out (fun h => h.2 (by simp)))
      have HG5 := hid (HG4.out.trans (g5.weaken (fun _ _ h => h.1)))
      clear t5 g5 HT4 HG4 HB1
      go_wp2_with fail
      refine (keys_t1 w.heap.size [g1] _ a _ HT5.out.left).mono ?_
      rintro e w6 ⟨g2, rfl, hg2, hB2, hc6⟩
      have hsz6 := hc6.size
      have HT6 := hid (HT5.out.skip hg2 hc6)
      have HB2 := hid hB2
      have hlt2 := hB2.lt
      have HB16 := hid (hc6.blk HB15.out (fun h => h))
      have HG6 := hid (HG5.out.trans (hc6.weaken (fun _ _ h => h.elim)))
      have hnl : (useL m k).length = (dropL m k).length + 1 := rfl
      obtain ⟨n2, hn2⟩ : ∃ n2, n2 = (useL m k).length := ⟨_, rfl⟩
      rw [← hn2] at hnl ⊢
      have e0 : w6.cell? ⟨g2, 0, none⟩ = some (.int .u8 k) := by rw [hB2.cell]; rfl
      have HN2 := hid hn2
      have HNL := hid hnl
      have hpos : ((n2 : Int) == 0) = false := by rw [beq_eq_false_iff_ne]; omega
      have hpos2 : 0 < n2 := by omega
      clear hc6 hB2 HT5 HB15 HG5 hn2 hnl
      go_wp2_with fail
      refine (len_t1 w.heap.size [g2, g1] _ a _ HT6.out.left).mono ?_
      rintro e w7 ⟨rfl, rfl⟩
      rw [← HN2.out]
      go_wp2_with fail
      clear e0 hpos hpos2
      go_loopw [10, 11] (fun n i wx => ∃ (j : Nat), j ≤ m.length ∧ i = .int .i64 j ∧ n = .int .i64 ((1 + (dropL (m.take j) k).length : Nat) : Int) ∧ Chg (fun _ => False) w6 wx) (fun _ i _ => m.length - (intOf i).toNat)
      case atStart => exact ⟨0, by omega, rfl, rfl, Chg.refl _ _⟩
      case round =>
        obtain ⟨j, hj, rfl, rfl, hG⟩ := hrel
        have hB1 := hG.blk HB16.out (fun h => h)
        have hB2 := hG.blk HB2.out (fun h => h)
        by_cases hlt : j < m.length
        · have e1 : wr.cell? ⟨g1, j, none⟩ = some (.int .u8 m[j]) := by
            rw [hB1.cell]
            simp [hlt]
          obtain ⟨s, hs⟩ : ∃ s, s = m[j] := ⟨_, rfl⟩
          rw [← hs] at e1
          by_cases hsk : s = k
          · have hd := drop_take_eq hlt (hs ▸ hsk)
            have HD := hid hd
            obtain ⟨nn, hnn⟩ : ∃ nn, nn = 1 + (dropL (m.take j) k).length := ⟨_, rfl⟩
            rw [← hnn]
            have HNN := hid hnn
            clear hd hnn hB1 hB2 hs
            subst hsk
            go_wp2_with fail
            go_roundw
            case rel => exact ⟨j + 1, by omega, by go_num, by rw [HNN.out, HD.out], hG⟩
            case measure => simp [intOf]; omega
          · have hd := drop_take_ne hlt (hs ▸ hsk)
            have hat := drop_at hlt (hs ▸ hsk)
            rw [← hs] at hat
            have hdl : (dropL (m.take j) k).length < (dropL m k).length := (List.getElem?_eq_some_iff.1 hat).1
            have e2 : wr.cell? ⟨g2, 1 + (dropL (m.take j) k).length, none⟩ = some (.int .u8 s) := by
              rw [hB2.cell, List.getElem?_toArray, List.getElem?_map]
              unfold useL
              rw [Nat.add_comm, List.getElem?_cons_succ, hat]
              rfl
            have HD := hid hd
            obtain ⟨nn, hnn⟩ : ∃ nn, nn = 1 + (dropL (m.take j) k).length := ⟨_, rfl⟩
            rw [← hnn] at e2 ⊢
            have HNN := hid hnn
            have hn2 := HNL.out
            have hd2 : decide ((n2 : Int) ≤ (nn : Int)) = false := by rw [decide_eq_false_iff_not]; omega
            have hnl : nn < n2 := by omega
            have hlm := hml
            have hn3 : n2 ≤ 61 := by
              have := List.length_filter_le (fun x => decide (x ≠ k)) m
              unfold dropL at hn2
              omega
            clear hd hnn hB1 hB2 hs hat hdl hn2
            go_wp2_with fail
            go_quiet (fail)
            go_wp2_with fail
            go_roundw
            case rel => exact ⟨j + 1, by omega, by go_num, by rw [HD.out, show (1 + ((dropL (m.take j) k).length + 1) : Nat) = nn + 1 by rw [HNN.out]; omega]; go_num, hG.drewN _⟩
            case measure => simp [intOf]; omega
        · have hje : j = m.length := by omega
          subst hje
          rw [List.take_length]
          have hn2 : ((1 + (dropL m k).length : Nat) : Int) = (n2 : Int) := by rw [HNL.out]; omega
          rw [hn2]
          clear hn2 hB2 hlt
          have hsz6 := hG.size
          have HT7 := hid (HT6.out.chg hG)
          have HG7 := hid (HG6.out.trans (hG.weaken (fun _ _ h => h.elim)))
          have HB17 := hid hB1
          clear HT6 HG6 HB16 hB1 hG
          go_wp2_with fail
          refine (keys_t1 w.heap.size [g2, g1] _ b m HT7.out.right).mono ?_
          rintro e w8 ⟨g3, rfl, hg3, hB3, hc8⟩
          have HB3 := hid hB3
          have HB18 := hid (hc8.blk HB17.out (fun h => h))
          have HG8 := hid (HG7.out.trans (hc8.weaken (fun _ _ h => h.elim)))
          clear HT7 HB17 HG7 hB3 hc8
          go_wp2_with fail
          go_loopw [13] (fun i wx => ∃ (j : Nat), j ≤ m.length ∧ i = .int .i64 j ∧ Chg (fun _ => False) w8 wx) (fun i _ => m.length - (intOf i).toNat)
          case atStart => exact ⟨0, by omega, rfl, Chg.refl _ _⟩
          case round =>
            obtain ⟨j, hj, rfl, hG⟩ := hrel
            by_cases hlt : j < m.length
            · have e1 : wr.cell? ⟨g1, j, none⟩ = some (.int .u8 m[j]) := by
                rw [(hG.blk HB18.out (fun h => h)).cell]
                simp [hlt]
              have e3 : wr.cell? ⟨g3, j, none⟩ = some (.int .u8 m[j]) := by
                rw [(hG.blk HB3.out (fun h => h)).cell]
                simp [hlt]
              obtain ⟨s, hs⟩ : ∃ s, s = m[j] := ⟨_, rfl⟩
              rw [← hs] at e1 e3
              clear hs
              go_wp2_with fail
              go_quiet (fail)
              go_wp2_with fail
              go_roundw
              case rel => exact ⟨j + 1, by omega, by go_num, hG.drewN _⟩
              case measure => simp [intOf]; omega
            · go_wp2_with fail
              go_ret
              exact ⟨rfl, (HG8.out.trans (hG.weaken (fun _ _ h => h.elim))).below (Nat.le_refl _) (fun k hk h => by omega)⟩
end Go.Proofs.Ythecpiigabfboaa
