/-
  WordsPlay's walk.
-/
import Derived.Test.YtppcpemenebamaaFind
import Derived.ProofKit
namespace Go.Proofs.Ytppcpemenebamaa
open Go.ChangeShapes Go.WideShapes Go.ChangeAt Go.RowKit
set_option linter.unusedVariables false
set_option linter.unusedSimpArgs false

theorem own_row {w : World} {base n cap : Nat} {A : Option Addr} {xs : List Value} (ho : w.ownsRow base 9 1 (.slice A n cap) n xs) : Row w A xs := by
  rcases ho.2 with ⟨he, rfl⟩ | ⟨g, cap', cur, he, _, hgg, _, _, _, ht⟩
  · have hx : xs = [] := List.eq_nil_of_length_eq_zero (by simpa using ho.1)
    subst hx
    exact Row.nil_ _ _
  · simp at he
    obtain ⟨rfl, rfl⟩ := he
    refine fun i v hi => ⟨g, 0, rfl, (Array.getElem?_eq_some_iff.1 hgg).1, fun j u hj => ?_⟩
    rw [← ht, List.getElem?_take] at hj
    split at hj
    · rw [Nat.zero_add, cell_of_row w g j cur 9 (0, 0) hgg]
      simpa using hj
    · cases hj

/-- A table with the texts m, and beside it a slice of the call's own with the texts m2. -/
def PT (base : Nat) (w : World) (tb : Nat) (m : List ByteArray) (A : Option Addr) (cap : Nat) (m2 : List ByteArray) : Prop :=
  ∃ F, Tab w tb F m ∧ (∀ k, F k → base ≤ k) ∧ w.ownsRow base 9 1 (.slice A m2.length cap) m2.length (m2.map Value.string) ∧ (∀ g, (Value.slice A m2.length cap).ownBlock = some g → ¬ F g)
theorem PT.t1 {base : Nat} {w : World} {tb : Nat} {m m2 : List ByteArray} {A : Option Addr} {cap : Nat} (h : PT base w tb m A cap m2) : T1 base w tb m := by
  obtain ⟨F, hF, hb, _⟩ := h
  exact ⟨F, hF, hb⟩
theorem PT.row {base : Nat} {w : World} {tb : Nat} {m m2 : List ByteArray} {A : Option Addr} {cap : Nat} (h : PT base w tb m A cap m2) : Row w A (m2.map Value.string) := by
  obtain ⟨F, hF, hb, ho, _⟩ := h
  exact own_row ho
theorem PT.chg {base : Nat} {w w' : World} {tb : Nat} {m m2 : List ByteArray} {A : Option Addr} {cap : Nat} (h : PT base w tb m A cap m2) (hc : Chg (fun _ => False) w w') : PT base w' tb m A cap m2 := by
  obtain ⟨F, hF, hb, ho, hg⟩ := h
  exact ⟨F, hF.chg hc (fun _ _ h => h), hb, own_chg ho hc (fun _ _ h => h), hg⟩
theorem pt_of (base : Nat) (w : World) (tb : Nat) (m m2 : List ByteArray) (A : Option Addr) (cap : Nat) (s : ByteArray) (h : PT base w tb m A cap m2) (hb : base ≤ w.heap.size) (hs : okS s) (hn : m.length ≤ 100000) :
    Calls Try.prog 10 #[.pointer (some ⟨tb, 0, none⟩), .string s] w fun e w' => e = .returned (.int .i64 (numT m s)) ∧ PT base w' tb (addT m s) A cap m2 ∧ Chg (fun k => base ≤ k) w w' := by
  obtain ⟨F, hF, hf, ho, hg⟩ := h
  refine (of_any w tb F m s hF hs hn).mono ?_
  rintro e w' ⟨he, ht, hc⟩
  refine ⟨he, ⟨_, ht, fun k hk => by rcases hk with hk | hk; exact hf k hk; omega, own_chg ho hc hg, fun g hgg hk => ?_⟩, hc.weaken (fun k _ hk => hf k hk)⟩
  rcases hk with hk | hk
  · exact hg g hgg hk
  · have := (ho.lt g hgg).2
    omega

theorem bytesOf_take_le {l : List ByteArray} (h : ∀ s ∈ l, okS s) (j : Nat) : bytesOf (l.take j) ≤ l.length * 140737488351232 := by
  have h1 := bytesOf_le (l := l.take j) (fun s hs => h s (List.mem_of_mem_take hs))
  have h2 : (l.take j).length ≤ l.length := by rw [List.length_take]; omega
  exact Nat.le_trans h1 (Nat.mul_le_mul_right _ h2)
theorem bytesOf_small {l : List ByteArray} (h : ∀ s ∈ l, okS s) (hl : l.length ≤ 100) (j : Nat) : bytesOf (l.take j) ≤ 14073748835123200 := by
  have h1 := bytesOf_take_le h j
  omega
theorem bytesOf_take_succ {l : List ByteArray} {j : Nat} (h : j < l.length) : bytesOf (l.take (j + 1)) = bytesOf (l.take j) + l[j].size := by
  rw [List.take_succ_eq_append_getElem h, bytesOf_append]
  simp [bytesOf]

set_option maxRecDepth 100000 in
set_option maxHeartbeats 2000000 in
theorem play_any (A0 : Option Addr) (cap0 : Nat) (xs : List ByteArray) (sq : ByteArray) (n : Int) (w : World) (hr : Row w A0 (xs.map Value.string)) (hs : ∀ x ∈ xs, okS x) (hn : xs.length ≤ 100) (hq : okS sq)
    (hn0 : -9223372036854775808 ≤ n) (hn1 : n ≤ 9223372036854775807) :
    Calls Try.prog 4 #[.slice A0 xs.length cap0, .string sq, .int .i64 n] w fun e w' => e = .returned (.bool true) ∧ Below w.heap.size w w' := by
  obtain ⟨i0, hi, hz0, hz1, hz2⟩ := info_parts info9
  have HS := hid hs
  have HR := hid hr
  have HQ := hid hq
  clear hs hr hq
  go_enter Try.func4, Try.ntmps4
  go_wp2_with fail
  refine (alive_any _).mono ?_
  rintro e w1 ⟨rfl, g1⟩
  have k1 := g1.size
  go_wp2_with fail
  refine (new_any _).mono ?_
  rintro e w2 ⟨rfl, t2, g2⟩
  have G2 : Chg (fun k => w1.heap.size ≤ k) w w2 := (g1.trans g2).weaken (fun _ _ h => h.elim)
  have P2 : Hid (PT w1.heap.size w2 (w1.heap.size + 1) [] none 0 []) := ⟨_, t2, fun k hk => hk.1, World.ownsRow_nil _ _ _ _, by simp [Value.ownBlock]⟩
  clear g1 g2 t2
  go_wp2_with fail
  go_loopw [8, 9] (fun mv i wr => ∃ (k : Nat) (m : List ByteArray) (A : Option Addr) (cap : Nat), k ≤ xs.length ∧ i = .int .i64 k ∧ mv = .slice A m.length cap ∧ m.length ≤ k ∧ (∀ x ∈ m, okS x) ∧ PT w1.heap.size wr (w1.heap.size + 1) m A cap m ∧ Chg (fun k => w1.heap.size ≤ k) w wr) (fun _ i _ => xs.length - (intOf i).toNat)
  case atStart => exact ⟨0, [], none, 0, by omega, rfl, rfl, by simp, by simp, P2.out, G2⟩
  case round =>
    obtain ⟨k, m, A, cap, hk, rfl, rfl, hml, hok, hp, hG⟩ := hrel
    have hsz := hp.t1.lt
    have HP := hid hp
    have HOKM := hid hok
    clear P2 G2 hp hok
    by_cases hlt : k < xs.length
    · obtain ⟨b1, off, rfl, hb1, hcs⟩ := HR.out.at_ (k := k) (by simpa using hlt)
      have e0 := hG.cell (hcs k (.string xs[k]) (by rw [List.getElem?_map, List.getElem?_eq_getElem hlt]; rfl)) (by show ¬ w1.heap.size ≤ b1; omega)
      have hok := HS.out xs[k] (List.getElem_mem hlt)
      obtain ⟨s, hs⟩ : ∃ s, s = xs[k] := ⟨_, rfl⟩
      rw [← hs] at e0 hok
      have HOK := hid hok
      clear hs hcs hok
      cases hpos : pos m s with
      | some i =>
        have hil := pos_lt hpos
        have hf : findN m s = (i : Int) + 1 := by unfold findN; rw [hpos]
        have hnum : numT m s = (i : Int) + 1 := by unfold numT; rw [hpos]
        have hadd : addT m s = m := addT_some hpos
        have HF := hid hf
        have HN := hid hnum
        have HADD := hid hadd
        clear hpos hf hnum hadd
        go_wp2_with fail
        refine (find_any A cap m s _ HP.out.row (by omega)).mono ?_
        rintro e w3 ⟨rfl, rfl⟩
        rw [HF.out]
        go_wp2_with fail
        refine (pt_of w1.heap.size _ _ _ _ _ _ _ HP.out (by omega) HOK.out (by omega)).mono ?_
        rintro e w3 ⟨rfl, p3, g3⟩
        rw [HN.out]
        rw [HADD.out] at p3
        have HP3 := hid p3
        have hG3 := hG.trans g3
        clear p3 hG g3
        go_wp2_with fail
        refine (len_t1 w1.heap.size _ _ _ HP3.out.t1 (by omega)).mono ?_
        rintro e w4 ⟨rfl, g4⟩
        go_wp2_with fail
        go_roundw
        case rel => exact ⟨k + 1, m, A, cap, by omega, by go_num, rfl, by omega, HOKM.out, HP3.out.chg g4, hG3.into g4 (fun _ _ h => h.elim)⟩
        case measure => simp [intOf]; omega
      | none =>
        have hf : findN m s = 0 := by unfold findN; rw [hpos]
        have hnum : numT m s = (m.length : Int) + 1 := by unfold numT; rw [hpos]
        have hadd : addT m s = m ++ [s] := addT_none hpos
        have HF := hid hf
        have HN := hid hnum
        have HADD := hid hadd
        clear hpos hf hnum hadd
        go_wp2_with fail
        refine (find_any A cap m s _ HP.out.row (by omega)).mono ?_
        rintro e w3 ⟨rfl, rfl⟩
        rw [HF.out]
        obtain ⟨F, hF, hfb, hown, hgF⟩ := HP.out
        have HTab := hid hF
        have HFB := hid hfb
        have HGF := hid hgF
        clear hF hfb hgF
        go_wp2_with (first
          | (at_builtin
             refine wpList_append_own_at _ rfl (.tmp 37) (.tmp 42) 22 rfl w1.heap.size 9 i0 (.string ByteArray.empty) 1 16 Try.underlying22 hi hz0 hz1 hz2 rfl (by decide) (.slice A m.length cap) m.length (m.map Value.string) rfl (own_chg hown ((Chg.refl (fun _ => False) _).alloc _) (fun _ _ h => h)) ⟨wr.heap.size, 0, none⟩ 1 1 [.string s] rfl rfl (cell_one_new _ _ _) (by simp [Value.oneCell']) (by unfold maxLen; omega) (by omega) (by simp; omega) ?_
             intro v' w4 hown1 hgrow hnil hat
             obtain ⟨g', cap', rfl⟩ := ownsRow_succ hown1
             have hg1 : Chg (fun k => some k = (Value.slice A m.length cap).ownBlock) wr w4 := ((Chg.refl _ _).alloc _).trans (chg_of_grown hgrow)
             have hP4 : PT w1.heap.size w4 (w1.heap.size + 1) m (some ⟨g', 0, none⟩) cap' (m ++ [s]) := by
               have hF := HTab.out
               refine ⟨F, hF.chg hg1 (fun k hk e => HGF.out k e.symm hk), HFB.out, ?_, ?_⟩
               · rw [List.length_append, List.map_append]
                 exact hown1
               · intro g hgg hFg
                 simp only [Value.ownBlock, Option.some.injEq] at hgg
                 subst hgg
                 rcases hat with h | h
                 · exact HGF.out g' (h ▸ rfl) hFg
                 · have := hF.lt _ hFg
                   simp [Value.ownBlock] at h
                   omega
             have HP4 := hid hP4
             have hz4 := hP4.t1.lt
             have e4 := hg1.cell e0 (by intro e; have := (hown.lt b1 e.symm).1; omega)
             have hG4 := hG.into hg1 (fun k hk e => by have := (hown.lt k e.symm).1; omega)
             clear hP4 hG e0 hown hown1 hgrow hnil hat hg1))
        refine (pt_of w1.heap.size _ _ _ _ _ _ _ HP4.out (by omega) HOK.out (by omega)).mono ?_
        rintro e w5 ⟨rfl, p5, g5⟩
        rw [HN.out]
        rw [HADD.out] at p5
        have HP5 := hid p5
        have hG5 := hG4.trans g5
        have hl5 : (m ++ [s]).length = m.length + 1 := by simp
        have HL5 := hid hl5
        clear p5 hG4 g5 hl5
        go_wp2_with fail
        refine (len_t1 w1.heap.size _ _ _ HP5.out.t1 (by rw [HL5.out]; omega)).mono ?_
        rintro e w6 ⟨rfl, g6⟩
        rw [HL5.out]
        go_wp2_with fail
        go_roundw
        case rel => exact ⟨k + 1, m ++ [s], some ⟨g', 0, none⟩, cap', by omega, by go_num, by rw [HL5.out], by rw [HL5.out]; omega, (fun x hx => by rcases List.mem_append.1 hx with hx | hx; exact HOKM.out x hx; simp at hx; subst hx; exact HOK.out), HP5.out.chg g6, hG5.into g6 (fun _ _ h => h.elim)⟩
        case measure => simp [intOf]; omega
    · go_wp2_with fail
      go_loopw [11, 12] (fun by_ j wx => ∃ (t : Nat), t ≤ m.length ∧ j = .int .i64 t ∧ by_ = .int .i64 (bytesOf (m.take t)) ∧ wr = wx) (fun _ j _ => m.length - (intOf j).toNat)
      case atStart => exact ⟨0, by omega, rfl, rfl, rfl⟩
      case round =>
        obtain ⟨t, ht, rfl, rfl, rfl⟩ := hrel
        have hbl2 := bytesOf_small HOKM.out (by omega) t
        obtain ⟨B, hB⟩ : ∃ B, B = bytesOf (m.take t) := ⟨_, rfl⟩
        rw [← hB] at hbl2
        rw [← hB]
        have HBT := hid hB
        clear hB
        by_cases htl : t < m.length
        · obtain ⟨b1, off, rfl, hb1, hcs⟩ := HP.out.row.at_ (k := t) (by simpa using htl)
          have e0 := hcs t (.string m[t]) (by rw [List.getElem?_map, List.getElem?_eq_getElem htl]; rfl)
          have hok := HOKM.out m[t] (List.getElem_mem htl)
          have hbs := bytesOf_take_succ htl
          obtain ⟨s, hs⟩ : ∃ s, s = m[t] := ⟨_, rfl⟩
          rw [← hs] at e0 hok hbs
          unfold okS at hok
          rw [← HBT.out] at hbs
          have HBS := hid hbs
          clear hs hcs hbs
          go_wp2_with fail
          go_roundw
          case rel => exact ⟨t + 1, by omega, by go_num, by rw [HBS.out]; go_num, trivial⟩
          case measure => simp [intOf]; omega
        · have hB2 : B = bytesOf m := by rw [HBT.out, List.take_of_length_le (by omega)]
          have HB2 := hid hB2
          clear hB2 HBT
          have HT1 := hid HP.out.t1
          cases hpos : pos m sq with
          | some i =>
            have hf : findN m sq = (i : Int) + 1 := by unfold findN; rw [hpos]
            have HF := hid hf
            have HPOS := hid hpos
            clear hpos hf
            go_wp2_with fail
            refine (known_t1 w1.heap.size _ _ _ _ HT1.out HQ.out).mono ?_
            rw [HPOS.out]
            rintro e w3 ⟨rfl, rfl⟩
            go_wp2_with fail
            by_cases hlo : n < 1
            · refine (text_no_t1 w1.heap.size _ _ _ n HT1.out (by omega) (by omega)).mono ?_
              rintro e w3 ⟨rfl, rfl⟩
              go_wp2_with fail
              refine (find_any A cap m sq _ HP.out.row (by omega)).mono ?_
              rintro e w3 ⟨rfl, rfl⟩
              rw [HF.out]
              go_wp2_with fail
              refine (len_t1 w1.heap.size _ _ _ HT1.out (by omega)).mono ?_
              rintro e w4 ⟨rfl, g4⟩
              have HP4 := hid (HP.out.chg g4)
              have hG4 := hG.into g4 (fun _ _ h => h.elim)
              go_wp2_with fail
              refine (bytes_t1 w1.heap.size _ _ _ HP4.out.t1 (by omega)).mono ?_
              rintro e w5 ⟨rfl, g5⟩
              rw [← HB2.out]
              have hG5 := hG4.into g5 (fun _ _ h => h.elim)
              go_wp2_with fail
              go_ret
              exact ⟨rfl, hG5.below (Nat.le_refl _) (fun k hk h => by omega)⟩
            · by_cases hhi : (m.length : Int) < n
              · refine (text_no_t1 w1.heap.size _ _ _ n HT1.out (by omega) (by omega)).mono ?_
                rintro e w3 ⟨rfl, rfl⟩
                go_wp2_with fail
                refine (find_any A cap m sq _ HP.out.row (by omega)).mono ?_
                rintro e w3 ⟨rfl, rfl⟩
                rw [HF.out]
                go_wp2_with fail
                refine (len_t1 w1.heap.size _ _ _ HT1.out (by omega)).mono ?_
                rintro e w4 ⟨rfl, g4⟩
                have HP4 := hid (HP.out.chg g4)
                have hG4 := hG.into g4 (fun _ _ h => h.elim)
                go_wp2_with fail
                refine (bytes_t1 w1.heap.size _ _ _ HP4.out.t1 (by omega)).mono ?_
                rintro e w5 ⟨rfl, g5⟩
                rw [← HB2.out]
                have hG5 := hG4.into g5 (fun _ _ h => h.elim)
                go_wp2_with fail
                go_ret
                exact ⟨rfl, hG5.below (Nat.le_refl _) (fun k hk h => by omega)⟩
              · obtain ⟨j, rfl⟩ : ∃ j : Nat, n = (j : Int) + 1 := ⟨(n - 1).toNat, by omega⟩
                have hjm : j < m.length := by omega
                clear hn0 hn1 hlo hhi
                obtain ⟨b1, off, rfl, hb1, hcs⟩ := HP.out.row.at_ (k := j) (by simpa using hjm)
                have e0 := hcs j (.string m[j]) (by rw [List.getElem?_map, List.getElem?_eq_getElem hjm]; rfl)
                refine (text_ok_t1 w1.heap.size _ _ _ j HT1.out hjm (by omega)).mono ?_
                rintro e w3 ⟨rfl, rfl⟩
                obtain ⟨x, hx⟩ : ∃ x, x = m[j] := ⟨_, rfl⟩
                rw [← hx] at e0
                rw [← hx]
                clear hx hcs
                go_wp2_with fail
                refine (find_any _ cap m sq _ HP.out.row (by omega)).mono ?_
                rintro e w3 ⟨rfl, rfl⟩
                rw [HF.out]
                go_wp2_with fail
                refine (len_t1 w1.heap.size _ _ _ HT1.out (by omega)).mono ?_
                rintro e w4 ⟨rfl, g4⟩
                have HP4 := hid (HP.out.chg g4)
                have hG4 := hG.into g4 (fun _ _ h => h.elim)
                go_wp2_with fail
                refine (bytes_t1 w1.heap.size _ _ _ HP4.out.t1 (by omega)).mono ?_
                rintro e w5 ⟨rfl, g5⟩
                rw [← HB2.out]
                have hG5 := hG4.into g5 (fun _ _ h => h.elim)
                have e5 := g5.cell (g4.cell e0 (fun h => h)) (fun h => h)
                go_wp2_with fail
                go_ret
                exact ⟨rfl, hG5.below (Nat.le_refl _) (fun k hk h => by omega)⟩
          | none =>
            have hf : findN m sq = 0 := by unfold findN; rw [hpos]
            have HF := hid hf
            have HPOS := hid hpos
            clear hpos hf
            go_wp2_with fail
            refine (known_t1 w1.heap.size _ _ _ _ HT1.out HQ.out).mono ?_
            rw [HPOS.out]
            rintro e w3 ⟨rfl, rfl⟩
            go_wp2_with fail
            by_cases hlo : n < 1
            · refine (text_no_t1 w1.heap.size _ _ _ n HT1.out (by omega) (by omega)).mono ?_
              rintro e w3 ⟨rfl, rfl⟩
              go_wp2_with fail
              refine (find_any A cap m sq _ HP.out.row (by omega)).mono ?_
              rintro e w3 ⟨rfl, rfl⟩
              rw [HF.out]
              go_wp2_with fail
              refine (len_t1 w1.heap.size _ _ _ HT1.out (by omega)).mono ?_
              rintro e w4 ⟨rfl, g4⟩
              have HP4 := hid (HP.out.chg g4)
              have hG4 := hG.into g4 (fun _ _ h => h.elim)
              go_wp2_with fail
              refine (bytes_t1 w1.heap.size _ _ _ HP4.out.t1 (by omega)).mono ?_
              rintro e w5 ⟨rfl, g5⟩
              rw [← HB2.out]
              have hG5 := hG4.into g5 (fun _ _ h => h.elim)
              go_wp2_with fail
              go_ret
              exact ⟨rfl, hG5.below (Nat.le_refl _) (fun k hk h => by omega)⟩
            · by_cases hhi : (m.length : Int) < n
              · refine (text_no_t1 w1.heap.size _ _ _ n HT1.out (by omega) (by omega)).mono ?_
                rintro e w3 ⟨rfl, rfl⟩
                go_wp2_with fail
                refine (find_any A cap m sq _ HP.out.row (by omega)).mono ?_
                rintro e w3 ⟨rfl, rfl⟩
                rw [HF.out]
                go_wp2_with fail
                refine (len_t1 w1.heap.size _ _ _ HT1.out (by omega)).mono ?_
                rintro e w4 ⟨rfl, g4⟩
                have HP4 := hid (HP.out.chg g4)
                have hG4 := hG.into g4 (fun _ _ h => h.elim)
                go_wp2_with fail
                refine (bytes_t1 w1.heap.size _ _ _ HP4.out.t1 (by omega)).mono ?_
                rintro e w5 ⟨rfl, g5⟩
                rw [← HB2.out]
                have hG5 := hG4.into g5 (fun _ _ h => h.elim)
                go_wp2_with fail
                go_ret
                exact ⟨rfl, hG5.below (Nat.le_refl _) (fun k hk h => by omega)⟩
              · obtain ⟨j, rfl⟩ : ∃ j : Nat, n = (j : Int) + 1 := ⟨(n - 1).toNat, by omega⟩
                have hjm : j < m.length := by omega
                clear hn0 hn1 hlo hhi
                obtain ⟨b1, off, rfl, hb1, hcs⟩ := HP.out.row.at_ (k := j) (by simpa using hjm)
                have e0 := hcs j (.string m[j]) (by rw [List.getElem?_map, List.getElem?_eq_getElem hjm]; rfl)
                refine (text_ok_t1 w1.heap.size _ _ _ j HT1.out hjm (by omega)).mono ?_
                rintro e w3 ⟨rfl, rfl⟩
                obtain ⟨x, hx⟩ : ∃ x, x = m[j] := ⟨_, rfl⟩
                rw [← hx] at e0
                rw [← hx]
                clear hx hcs
                go_wp2_with fail
                refine (find_any _ cap m sq _ HP.out.row (by omega)).mono ?_
                rintro e w3 ⟨rfl, rfl⟩
                rw [HF.out]
                go_wp2_with fail
                refine (len_t1 w1.heap.size _ _ _ HT1.out (by omega)).mono ?_
                rintro e w4 ⟨rfl, g4⟩
                have HP4 := hid (HP.out.chg g4)
                have hG4 := hG.into g4 (fun _ _ h => h.elim)
                go_wp2_with fail
                refine (bytes_t1 w1.heap.size _ _ _ HP4.out.t1 (by omega)).mono ?_
                rintro e w5 ⟨rfl, g5⟩
                rw [← HB2.out]
                have hG5 := hG4.into g5 (fun _ _ h => h.elim)
                have e5 := g5.cell (g4.cell e0 (fun h => h)) (fun h => h)
                go_wp2_with fail
                go_ret
                exact ⟨rfl, hG5.below (Nat.le_refl _) (fun k hk h => by omega)⟩
end Go.Proofs.Ytppcpemenebamaa
