/-
  LruPlays' walk.
-/
import Derived.Test.YthecpiigabfboaaAl
import Derived.Test.YthecpiigabfboaaRef
import Derived.OpenShut
import Derived.LoopTactic
import Derived.Deep.RegionHeld3
import Derived.Deep.DeepCutAuto
namespace Go.Proofs.Ythecpiigabfboaa
open Go.ChangeShapes Go.WideShapes Go.ChangeAt Go.RowKit Go.Maps
open LI
set_option linter.unusedVariables false
set_option linter.unusedSimpArgs false

/-- What a list becomes. -/
def actL (l : List Int) (x : Int) : List Int := if 0 ≤ x then useL l x else dropL l (-1 - x)
def actsL (l : List Int) : List Int := l.foldl actL []
theorem actL_len (l : List Int) (x : Int) : (actL l x).length ≤ l.length + 1 := by
  unfold actL
  split
  · exact useL_len l x
  · have := dropL_len l (-1 - x)
    omega
theorem actsL_len (l : List Int) : (actsL l).length ≤ l.length := by
  have key : ∀ (l m : List Int), (l.foldl actL m).length ≤ m.length + l.length := by
    intro l
    induction l with
    | nil => intro m; simp
    | cons x r ih =>
      intro m
      have h1 := ih (actL m x)
      have h2 := actL_len m x
      simp only [List.foldl_cons, List.length_cons]
      omega
  simpa [actsL] using key l []
theorem actsL_take {l : List Int} {k : Nat} (h : k < l.length) : actsL (l.take (k + 1)) = actL (actsL (l.take k)) l[k] := by
  unfold actsL
  rw [List.take_succ_eq_append_getElem h, List.foldl_append]
  rfl

theorem IsL.mono {w w' : World} {v : Value} {zs : List Int} (h : IsL w v zs) (hc : Chg (fun _ => False) w w') : IsL w' v zs := h.chg hc (fun _ _ h => h)

/-- A slice that lies ahead of base, or in blocks of P. -/
def InL (base : Nat) (P : List Nat) (v : Value) : Prop := ∀ b off l c, v = .slice (some ⟨b, off, none⟩) l c → ¬ Sx base P b

set_option maxRecDepth 100000 in
/-- The call's closure: does it keep? -/
theorem keep_any (w : World) (c : Nat) (v : Value) (zs : List Int) (k : Int) (hc : w.cell? ⟨c, 0, none⟩ = some v) (h : IsL w v zs) (hn : zs.length ≤ 1000) :
    Calls Try.prog 28 #[.int .i64 k, .pointer (some ⟨c, 0, none⟩)] w fun e w' => e = .returned (.bool (decide (k ∈ zs))) ∧ Chg (fun _ => False) w w' := by
  go_enter Try.func28, Try.ntmps28
  go_wp2_with fail
  refine (has_ref _ _ zs k h hn).mono ?_
  rintro e w1 ⟨rfl, g1⟩
  go_wp2_with fail
  go_ret
  exact ⟨rfl, g1⟩

theorem IsL.keep {base : Nat} {P : List Nat} {w w' : World} {v : Value} {zs : List Int} (h : IsL w v zs) (hi : InL base P v) (hc : Chg (Sx base P) w w') : IsL w' v zs := by
  obtain ⟨A, cap, rfl, hr⟩ := h
  refine ⟨A, cap, rfl, fun i u hu => ?_⟩
  obtain ⟨b, off, rfl, hb, hcs⟩ := hr i u hu
  exact ⟨b, off, rfl, Nat.lt_of_lt_of_le hb hc.size, fun j x hx => hc.cell (hcs j x hx) (hi b off _ _ rfl)⟩
theorem own_new {base : Nat} {P : List Nat} {w w' : World} {a : Nat} {la : List Int} {u : Value} {zs : List Int} (ht : T1 base P w a la) (hP : Lie P w) (hc : Chg (fun _ => False) w w') (ho : OwnL w.heap.size w' u zs) :
    ∃ P', T1 base P' w' a la ∧ InL base P' u ∧ Lie P' w' ∧ IsL w' u zs := by
  rcases ho.2 with ⟨rfl, h0⟩ | ⟨g, cap, cur, rfl, hg, _⟩
  · exact ⟨P, ht.chg hc, (fun b off l c h => by simp at h), hP.mono hc.size, ho.isL⟩
  · refine ⟨g :: P, ht.skip hg hc, (fun b off l c h hs => ?_), (fun p hp => ?_), ho.isL⟩
    · simp at h
      exact hs.2 (by rw [← h.1.1]; simp)
    · rcases List.mem_cons.1 hp with rfl | hp
      · exact own_lt ho
      · exact hP.mono hc.size p hp
theorem keys_isl {w : World} {g : Nat} {la : List Int} (hb : Blk w g 3 (la.map enc).toArray) : IsL w (.slice (some ⟨g, 0, none⟩) la.length la.length) la := by
  refine ⟨_, _, rfl, fun i u hu => ⟨g, 0, rfl, hb.lt, fun j x hx => ?_⟩⟩
  rw [hb.cell, Nat.zero_add]
  simpa using hx

/-- Does the law's closure keep? -/
def kpY (ys : List Int) : Int → Bool := fun k => decide (k ∈ ys)

set_option maxRecDepth 100000 in
set_option maxHeartbeats 4000000 in
theorem plays_any (A A2 : Option Addr) (cap cap2 : Nat) (xs ys : List Int) (q : Int) (w : World) (hr : Row w A (xs.map (Value.int .i64))) (hr2 : Row w A2 (ys.map (Value.int .i64))) (hs : ∀ x ∈ xs, ok x) (hq : ok q) (hn : xs.length ≤ 100) (hn2 : ys.length ≤ 100) :
    Calls Try.prog 6 #[.slice A xs.length cap, .slice A2 ys.length cap2, .int .i64 q] w fun e w' => e = .returned (.bool true) ∧ Below w.heap.size w w' := by
  have HS := hid hs
  have HR := hid hr
  have HY : Hid (IsL w (.slice A2 ys.length cap2) ys) := ⟨_, _, rfl, hr2⟩
  have HQ := hid hq
  clear hs hr hr2 hq
  go_enter Try.func6, Try.ntmps6
  go_wp2_with fail
  refine (alive_any _).mono ?_
  rintro e w1 ⟨rfl, g1⟩
  have k1 := g1.size
  rw [World.size_alloc] at k1
  have c1 : w1.cell? ⟨w.heap.size, 0, none⟩ = some (.slice A2 ys.length cap2) := g1.cell ((Blk.new w 34 #[.slice A2 ys.length cap2]).cell 0) (fun h => h)
  have G1 : Chg (fun _ => False) w w1 := ((Chg.refl (fun _ => False) w).alloc _).trans g1
  clear g1
  go_wp2_with fail
  refine (new_t1 w1.heap.size [] _ (Nat.le_refl _) (Lie.nil _)).mono ?_
  rintro e w2 ⟨rfl, t2, g2⟩
  have HT2 := hid t2
  obtain ⟨a, ha⟩ : ∃ a, a = w1.heap.size + 2 := ⟨_, rfl⟩
  rw [← ha] at HT2 ⊢
  have G2 := hid (g2.weaken (S' := fun k => w1.heap.size ≤ k) (fun _ _ h => h.elim))
  clear g2 t2 ha
  have C1 := hid c1
  clear c1
  go_wp2_with fail
  go_loopw [8, 9] (fun v i wr => ∃ (j : Nat) (P : List Nat), j ≤ xs.length ∧ i = .int .i64 j ∧ T1 w1.heap.size P wr a (actsL (xs.take j)) ∧ Lie P wr ∧ IsL wr v (actsL (xs.take j)) ∧ InL w1.heap.size P v ∧ Chg (fun k => w1.heap.size ≤ k) w1 wr) (fun _ i _ => xs.length - (intOf i).toNat)
  case atStart => exact ⟨0, [], by omega, rfl, HT2.out, Lie.nil _, ⟨_, _, rfl, Row.nil_ _ _⟩, (fun b off l c h => by simp at h), G2.out⟩
  case round =>
    obtain ⟨j, P, hj, rfl, ht, hP, hi, hin, hG⟩ := hrel
    have hsz := hG.size
    have HT := hid ht
    have HP := hid hP
    have HI := hid hi
    have HN := hid hin
    have HG := hid hG
    clear ht hP hi hin hG HT2 G2
    by_cases hlt : j < xs.length
    · obtain ⟨b1, off, rfl, hb1, hcs⟩ := HR.out.at_ (k := j) (by simpa using hlt)
      have hc00 := G1.cell (hcs j (.int .i64 xs[j]) (by rw [List.getElem?_map, List.getElem?_eq_getElem hlt]; rfl)) (fun h => h)
      have e0 := HG.out.cell hc00 (by show ¬ w1.heap.size ≤ b1; omega)
      have hok := HS.out xs[j] (List.getElem_mem hlt)
      have hst := actsL_take hlt
      have hlen := actsL_len (xs.take j)
      have hlen2 := List.length_take_le j xs
      obtain ⟨x, hx⟩ : ∃ x, x = xs[j] := ⟨_, rfl⟩
      rw [← hx] at e0 hok hst
      obtain ⟨m, hm⟩ : ∃ m, m = actsL (xs.take j) := ⟨_, rfl⟩
      rw [← hm] at hst HT HI hlen
      have HOK := hid hok
      have HST := hid hst
      have HBB : Hid (b1 < w.heap.size) := hb1
      have hml : m.length ≤ 100 := by omega
      clear hx hcs hc00 hok hst hm hlen hlen2 hb1
      by_cases hx0 : 0 ≤ x
      · go_wp2_with fail
        refine (use_t1 w1.heap.size P _ a m x HT.out hsz HP.out HOK.out (by omega)).mono ?_
        rintro e w4 ⟨rfl, t4, g4⟩
        have hsz4 := g4.size
        have e4 := g4.cell e0 (by show ¬ (w1.heap.size ≤ b1 ∧ _); have := HBB.out; omega)
        have HI4 := hid (HI.out.keep HN.out g4)
        have HT4 := hid t4
        have HP4 := hid (HP.out.mono hsz4)
        have HG4 := hid (HG.out.trans (g4.weaken (fun _ _ h => h.1)))
        clear t4 g4 e0 HI HT HP HG HN
        go_wp2_with fail
        refine (use_ref _ _ m x HI4.out (by omega)).mono ?_
        rintro e w5 ⟨v, rfl, hO, g5⟩
        obtain ⟨P5, t5, n5, p5, i5⟩ := own_new HT4.out HP4.out g5 hO
        obtain ⟨A5, cap5, rfl, -⟩ := id i5
        have HI5 := hid i5
        have HT5 := hid t5
        have HP5 := hid p5
        have HN5 := hid n5
        have HG5 := hid (HG4.out.trans (g5.weaken (fun _ _ h => h.elim)))
        clear i5 t5 p5 n5 g5 hO HI4 HT4 HP4 HG4
        obtain ⟨m', hm'⟩ : ∃ m', m' = useL m x := ⟨_, rfl⟩
        rw [← hm'] at HI5 HT5 HN5 ⊢
        have hml5 : m'.length ≤ 1000 := by rw [hm']; have := useL_len m x; omega
        have HST5 : Hid (actsL (xs.take (j + 1)) = m') := hid (by rw [hm', HST.out]; unfold actL; rw [if_pos hx0])
        clear hm' HST
        go_wp2_with fail
        refine (keys_t1 w1.heap.size P5 _ a m' HT5.out).mono ?_
        rintro e w6 ⟨g, rfl, hg, hB, g6⟩
        have HB6 := hid hB
        have HI6 := hid (HI5.out.mono g6)
        have HT6 := hid (HT5.out.chg g6)
        have HP6 := hid (HP5.out.mono g6.size)
        have HG6 := hid (HG5.out.trans (g6.weaken (fun _ _ h => h.elim)))
        clear g6 hB hg HI5 HT5 HP5 HG5
        go_wp2_with fail
        refine (same_ref _ _ _ m' (keys_isl HB6.out) HI6.out hml5).mono ?_
        rintro e w7 ⟨rfl, g7⟩
        have HI7 := hid (HI6.out.mono g7)
        have HT7 := hid (HT6.out.chg g7)
        have HP7 := hid (HP6.out.mono g7.size)
        have HG7 := hid (HG6.out.trans (g7.weaken (fun _ _ h => h.elim)))
        clear g7 HB6 HI6 HT6 HP6 HG6
        go_wp2_with fail
        refine (len_t1 w1.heap.size P5 _ a m' HT7.out).mono ?_
        rintro e w8 ⟨rfl, rfl⟩
        go_wp2_with fail
        refine (has_t1 w1.heap.size P5 _ a m' q HT7.out HQ.out).mono ?_
        rintro e w8 ⟨rfl, rfl⟩
        go_wp2_with fail
        refine (has_ref _ _ m' q HI7.out hml5).mono ?_
        rintro e w8 ⟨rfl, g8⟩
        have HI8 := hid (HI7.out.mono g8)
        have HT8 := hid (HT7.out.chg g8)
        have HP8 := hid (HP7.out.mono g8.size)
        have HG8 := hid (HG7.out.trans (g8.weaken (fun _ _ h => h.elim)))
        clear g8 HI7 HT7 HP7 HG7
        go_wp2_with fail
        go_roundw
        case rel => exact ⟨j + 1, P5, by omega, by go_num, by rw [HST5.out]; exact HT8.out, HP8.out, by rw [HST5.out]; exact HI8.out, HN5.out, HG8.out⟩
        case measure => simp [intOf]; omega
      · obtain ⟨y, hy⟩ : ∃ y, y = -1 - x := ⟨_, rfl⟩
        have hw : IntKind.i64.wrap (-1 - x) = y := by
          have hb := bounds_i64 HOK.out
          rw [IntKind.wrap_i64]
          omega
        have hoky : ok y := by
          have hb := bounds_i64 HOK.out
          unfold ok
          simp [Lit.wf, IntKind.min, IntKind.max, IntKind.bits, IntKind.signed]
          omega
        have HOKY := hid hoky
        have HYE := hid hy
        clear hoky hy
        go_wp2_with fail
        refine (drop_t1 w1.heap.size P _ a m y HT.out hsz HP.out HOKY.out).mono ?_
        rintro e w4 ⟨rfl, t4, g4⟩
        have hsz4 := g4.size
        have HI4 := hid (HI.out.keep HN.out g4)
        have HT4 := hid t4
        have HP4 := hid (HP.out.mono hsz4)
        have HG4 := hid (HG.out.trans (g4.weaken (fun _ _ h => h.1)))
        clear t4 g4 e0 hw HI HT HP HG
        go_wp2_with fail
        refine (has_ref _ _ m y HI4.out (by omega)).mono ?_
        rintro e w5 ⟨rfl, g5⟩
        have HI4 := hid (HI4.out.mono g5)
        have HT4 := hid (HT4.out.chg g5)
        have HP4 := hid (HP4.out.mono g5.size)
        have HG4 := hid (HG4.out.trans (g5.weaken (fun _ _ h => h.elim)))
        clear g5 HN
        go_wp2_with fail
        refine (without_any _ _ m y HI4.out (by omega)).mono ?_
        rintro e w6 ⟨v, rfl, hO, g5⟩
        obtain ⟨P5, t5, n5, p5, i5⟩ := own_new HT4.out HP4.out g5 hO
        obtain ⟨A5, cap5, rfl, -⟩ := id i5
        have HI5 := hid i5
        have HT5 := hid t5
        have HP5 := hid p5
        have HN5 := hid n5
        have HG5 := hid (HG4.out.trans (g5.weaken (fun _ _ h => h.elim)))
        clear i5 t5 p5 n5 g5 hO HI4 HT4 HP4 HG4
        obtain ⟨m', hm'⟩ : ∃ m', m' = dropL m y := ⟨_, rfl⟩
        rw [← hm'] at HI5 HT5 HN5 ⊢
        have hml5 : m'.length ≤ 1000 := by rw [hm']; have := dropL_len m y; omega
        have HST5 : Hid (actsL (xs.take (j + 1)) = m') := hid (by rw [hm', HST.out]; unfold actL; rw [if_neg (by omega), ← HYE.out])
        clear hm' HST
        go_wp2_with fail
        refine (keys_t1 w1.heap.size P5 _ a m' HT5.out).mono ?_
        rintro e w6 ⟨g, rfl, hg, hB, g6⟩
        have HB6 := hid hB
        have HI6 := hid (HI5.out.mono g6)
        have HT6 := hid (HT5.out.chg g6)
        have HP6 := hid (HP5.out.mono g6.size)
        have HG6 := hid (HG5.out.trans (g6.weaken (fun _ _ h => h.elim)))
        clear g6 hB hg HI5 HT5 HP5 HG5
        go_wp2_with fail
        refine (same_ref _ _ _ m' (keys_isl HB6.out) HI6.out hml5).mono ?_
        rintro e w7 ⟨rfl, g7⟩
        have HI7 := hid (HI6.out.mono g7)
        have HT7 := hid (HT6.out.chg g7)
        have HP7 := hid (HP6.out.mono g7.size)
        have HG7 := hid (HG6.out.trans (g7.weaken (fun _ _ h => h.elim)))
        clear g7 HB6 HI6 HT6 HP6 HG6
        go_wp2_with fail
        refine (len_t1 w1.heap.size P5 _ a m' HT7.out).mono ?_
        rintro e w8 ⟨rfl, rfl⟩
        go_wp2_with fail
        refine (has_t1 w1.heap.size P5 _ a m' q HT7.out HQ.out).mono ?_
        rintro e w8 ⟨rfl, rfl⟩
        go_wp2_with fail
        refine (has_ref _ _ m' q HI7.out hml5).mono ?_
        rintro e w8 ⟨rfl, g8⟩
        have HI8 := hid (HI7.out.mono g8)
        have HT8 := hid (HT7.out.chg g8)
        have HP8 := hid (HP7.out.mono g8.size)
        have HG8 := hid (HG7.out.trans (g8.weaken (fun _ _ h => h.elim)))
        clear g8 HI7 HT7 HP7 HG7
        go_wp2_with fail
        go_roundw
        case rel => exact ⟨j + 1, P5, by omega, by go_num, by rw [HST5.out]; exact HT8.out, HP8.out, by rw [HST5.out]; exact HI8.out, HN5.out, HG8.out⟩
        case measure => simp [intOf]; omega
    · have hje : j = xs.length := by omega
      rw [hje, List.take_length] at HT HI
      have hlen := actsL_len xs
      obtain ⟨m, hm⟩ : ∃ m, m = actsL xs := ⟨_, rfl⟩
      rw [← hm] at HT HI hlen
      have hml : m.length ≤ 100 := by omega
      obtain ⟨A5, cap5, rfl, -⟩ := id HI.out
      clear hje hm hlen
      go_wp2_with fail
      refine (last_t1 w1.heap.size P _ a m HT.out).mono ?_
      rintro e w4 ⟨rfl, g4⟩
      have HI4 := hid (HI.out.mono g4)
      have HT4 := hid (HT.out.chg g4)
      have HP4 := hid (HP.out.mono g4.size)
      have HG4 := hid (HG.out.trans (g4.weaken (fun _ _ h => h.elim)))
      clear g4 HT HI HP HG hlt hj
      rcases List.eq_nil_or_concat m with hm0 | ⟨u, x, hm0⟩
      · rw [show m.getLast? = none by rw [hm0]; rfl]
        have hz : m.length = 0 := by rw [hm0]; rfl
        rw [show lastV none = .tuple #[.int .i64 0, .bool false] from rfl]
        have HZ := hid hm0
        clear hm0
        go_wp2_with fail
        clear hz
        obtain ⟨FF, hL, -⟩ := id HT4.out
        have c4 := HG4.out.cell C1.out (by show ¬ w1.heap.size ≤ w.heap.size; omega)
        have HY4 := hid ((HY.out.mono G1).chg HG4.out (fun k hk h => by omega))
        have HC4 := hid c4
        clear c4
        go_wp2_with fail
        refine (lastbut_any _ a FF m hL 28 #[.pointer (some ⟨w.heap.size, 0, none⟩)] (fun _ _ => True) (kpY ys) (fun _ => False) ⟨enters_of Try.func28 (by kernel_rfl) rfl, fun k hk => hk.elim, fun _ _ _ _ _ => trivial, fun pre x W hx _ hW => (keep_any W w.heap.size _ ys x (hW.cell HC4.out (fun h => h)) (HY4.out.mono hW) (by omega)).mono ?_⟩ trivial).mono ?_
        · rintro e w' ⟨he, hc⟩
          exact ⟨he, trivial, hc⟩
        rintro e w5 ⟨rfl, -, g5⟩
        have HI5 := hid (HI4.out.mono g5)
        have HY5 := hid (HY4.out.mono g5)
        have HC5 := hid (g5.cell HC4.out (fun h => h))
        have HG5 := hid (HG4.out.trans (g5.weaken (fun _ _ h => h.elim)))
        obtain ⟨r, hr⟩ : ∃ r, r = scanR (kpY ys) m.reverse := ⟨_, rfl⟩
        rw [← hr]
        have HRR := hid hr
        unfold lastV
        clear g5 hr hL HT4 HP4 HI4 HY4 HC4 HG4
        go_wp2_with fail
        have hr0 : r = none := HRR.out.trans (by rw [HZ.out]; rfl)
        subst hr0
        go_loopw [15] (fun i wx => i = .int .i64 (-1) ∧ Chg (fun _ => False) w5 wx) (fun i _ => 0)
        case atStart => exact ⟨rfl, Chg.refl _ _⟩
        case round =>
          obtain ⟨rfl, hG⟩ := hrel
          go_wp2_with fail
          go_ret
          exact ⟨rfl, (G1.into (HG5.out.trans (hG.weaken (fun _ _ h => h.elim))) (fun k hk h => by omega)).below (Nat.le_refl _) (fun k hk h => h)⟩
      · rw [List.concat_eq_append] at hm0
        rw [show m.getLast? = some x by rw [hm0, List.getLast?_concat]]
        rw [show lastV (some x) = .tuple #[.int .i64 x, .bool true] from rfl]
        have hz : 0 < m.length := by rw [hm0]; simp
        have hrow := HI4.out
        obtain ⟨A6, cap6, he, hrow⟩ := hrow
        simp only [Value.slice.injEq, true_and] at he
        obtain ⟨rfl, rfl⟩ := he
        obtain ⟨b1, off, rfl, hb1, hcs⟩ := hrow.at_ (k := m.length - 1) (by simp; omega)
        have e0 := hcs (m.length - 1) (.int .i64 x) (by rw [List.getElem?_map, hm0]; simp)
        clear hcs hrow hm0
        have HB1 := hid hb1
        clear hb1
        go_wp2_with fail
        clear e0
        obtain ⟨FF, hL, -⟩ := id HT4.out
        have c4 := HG4.out.cell C1.out (by show ¬ w1.heap.size ≤ w.heap.size; omega)
        have HY4 := hid ((HY.out.mono G1).chg HG4.out (fun k hk h => by omega))
        have HC4 := hid c4
        clear c4
        go_wp2_with fail
        refine (lastbut_any _ a FF m hL 28 #[.pointer (some ⟨w.heap.size, 0, none⟩)] (fun _ _ => True) (kpY ys) (fun _ => False) ⟨enters_of Try.func28 (by kernel_rfl) rfl, fun k hk => hk.elim, fun _ _ _ _ _ => trivial, fun pre x W hx _ hW => (keep_any W w.heap.size _ ys x (hW.cell HC4.out (fun h => h)) (HY4.out.mono hW) (by omega)).mono ?_⟩ trivial).mono ?_
        · rintro e w' ⟨he, hc⟩
          exact ⟨he, trivial, hc⟩
        rintro e w5 ⟨rfl, -, g5⟩
        have HI5 := hid (HI4.out.mono g5)
        have HY5 := hid (HY4.out.mono g5)
        have HC5 := hid (g5.cell HC4.out (fun h => h))
        have HG5 := hid (HG4.out.trans (g5.weaken (fun _ _ h => h.elim)))
        obtain ⟨r, hr⟩ : ∃ r, r = scanR (kpY ys) m.reverse := ⟨_, rfl⟩
        rw [← hr]
        have HRR := hid hr
        unfold lastV
        clear g5 hr hL HT4 HP4 HI4 HY4 HC4 HG4
        go_wp2_with fail
        go_loopw [15] (fun i wx => ∃ (j : Nat), j ≤ m.length ∧ i = .int .i64 ((j : Int) - 1) ∧ scanR (kpY ys) m.reverse = scanR (kpY ys) (m.take j).reverse ∧ Chg (fun _ => False) w5 wx) (fun i _ => (intOf i + 1).toNat)
        case atStart => exact ⟨m.length, Nat.le_refl _, rfl, by rw [List.take_length], Chg.refl _ _⟩
        case round =>
          obtain ⟨j, hj, rfl, hsc, hG⟩ := hrel
          have HSC := hid hsc
          have HI6 := hid (HI5.out.mono hG)
          have HY6 := hid (HY5.out.mono hG)
          have HC6 := hid (hG.cell HC5.out (fun h => h))
          clear hsc
          cases j with
          | zero =>
            have hr0 : r = none := HRR.out.trans (HSC.out.trans rfl)
            subst hr0
            rw [show ((0 : Nat) : Int) - 1 = -1 from rfl]
            go_wp2_with fail
            go_ret
            exact ⟨rfl, (G1.into (HG5.out.trans (hG.weaken (fun _ _ h => h.elim))) (fun k hk h => by omega)).below (Nat.le_refl _) (fun k hk h => h)⟩
          | succ i =>
            rw [show ((i + 1 : Nat) : Int) - 1 = (i : Int) by omega]
            have hil : i < m.length := by omega
            have hrow := HI6.out
            obtain ⟨A6, cap6, he, hrow⟩ := hrow
            simp only [Value.slice.injEq, true_and] at he
            obtain ⟨rfl, rfl⟩ := he
            obtain ⟨b2, off2, hA, hb2, hcs⟩ := hrow.at_ (k := i) (by simpa using hil)
            simp only [Option.some.injEq, Addr.mk.injEq, and_true] at hA
            obtain ⟨rfl, rfl⟩ := hA
            have e0 := hcs i (.int .i64 m[i]) (by rw [List.getElem?_map, List.getElem?_eq_getElem hil]; rfl)
            have c0 := HC6.out
            have hts : (m.take (i + 1)).reverse = m[i] :: (m.take i).reverse := by
              rw [List.take_succ_eq_append_getElem hil, List.reverse_append]
              rfl
            obtain ⟨x, hx⟩ : ∃ x, x = m[i] := ⟨_, rfl⟩
            rw [← hx] at e0 hts
            have HTS := hid hts
            clear hcs hrow hx hts
            go_upto_region 26 with fail
            go_cut [136] (fun v wx => v = .bool (!decide (x ∈ ys)) ∧ Chg (fun _ => False) wr wx)
            case first =>
              go_region_with (go_at_call 22; refine (has_ref _ _ ys x (by first | exact HY6.out | exact HY6.out.mono (Chg.refl _ _).drew) (by omega)).mono ?_; rintro e w9 ⟨rfl, g9⟩)
              all_goals (go_wp2_with fail; go_meet; exact ⟨rfl, by first | exact ((Chg.refl _ _).drew).trans g9 | exact g9.drew⟩)
            case rest =>
              obtain ⟨rfl, hc⟩ := hcut
              have e1 := hc.cell e0 (fun h => h)
              have hG6 := hG.trans hc
              have HG6 := hid hG6
              clear hc hG6 hG e0 c0 HI6 HY6 HC6
              by_cases hxy : x ∈ ys
              · have hd : decide (x ∈ ys) = true := decide_eq_true hxy
                have hsc2 : scanR (kpY ys) m.reverse = scanR (kpY ys) (m.take i).reverse := by
                  rw [HSC.out, HTS.out, scanR, if_pos (show kpY ys x = true from hd)]
                have HSC2 := hid hsc2
                clear hsc2 hxy
                rw [hd]
                clear hd
                go_wp2_with fail
                go_roundw
                case rel => exact ⟨i, by omega, rfl, HSC2.out, HG6.out⟩
                case measure => simp [intOf]
              · have hd : decide (x ∈ ys) = false := decide_eq_false hxy
                have hr0 : r = some x := HRR.out.trans (by rw [HSC.out, HTS.out, scanR, if_neg (by show ¬ kpY ys x = true; unfold kpY; rw [hd]; simp)])
                subst hr0
                clear hxy
                rw [hd]
                clear hd
                go_wp2_with fail
                go_ret
                exact ⟨rfl, (G1.into (HG5.out.trans (HG6.out.weaken (fun _ _ h => h.elim))) (fun k hk h => by omega)).below (Nat.le_refl _) (fun k hk h => h)⟩
end Go.Proofs.Ythecpiigabfboaa
