/-
  EngineRows' walk.
-/
import Derived.Test.YtfkedhclhmbpfaaRwq
import Derived.Test.YtfkedhclhmbpfaaAl
import Derived.Test.YtfkedhclhmbpfaaPp
import Derived.LoopTactic
import Derived.BigQuiet
namespace Go.Proofs.Ytfkedhclhmbpfaa
open Go.RowKit Go.Maps
set_option linter.unusedVariables false
set_option linter.unusedSimpArgs false

theorem rowRules_succ (j : Nat) : rowRules (j + 1) = rowRules j ++ [⟨0, [(j : Int) + 1]⟩] := by
  unfold rowRules
  rw [List.range_succ, List.map_append]
  rfl
theorem zero_text : valueM 0 = ⟨#[48]⟩ := by decide +kernel
/-- A loop's round: the list of rules as it grows. -/
structure RwsR (w1 : World) (B : Nat) (rs : List Rule) (wr : World) (v : Value) (qs : List (Rule × Nat)) : Prop where
  row : RowQ B wr v qs
  chg : Chg (fun k => B ≤ k) w1 wr
  big : B ≤ wr.heap.size
  rs : qs.map (fun q => q.1) = rs

/-- A rule more. -/
theorem RwsR.step {w1 wr w2 : World} {B : Nat} {rs rs' : List Rule} {v v' : Value} {qs : List (Rule × Nat)} (h : RwsR w1 B rs wr v qs) {kd d : Int} (hrs : rs' = rs ++ [⟨kd, [d]⟩]) (hd : ok d) (hk : ok kd)
    (hgrow : ((wr.alloc (.cells #[.int .i64 d] 3)).alloc (.cells #[.int .i64 kd, .slice (some ⟨wr.heap.size, 0, none⟩) 1 1] 43)).grownBy w2 v.ownBlock)
    (hown : w2.ownsRow B 43 2 v' (qs.length + 1) (rulV qs ++ [.int .i64 kd, .slice (some ⟨wr.heap.size, 0, none⟩) 1 1])) : RwsR w1 B rs' w2 v' (qs ++ [(⟨kd, [d]⟩, wr.heap.size)]) := by
  have hb := h.big
  have c2 : Chg (fun k => v.ownBlock = some k) wr w2 := (((Chg.refl _ _).alloc _).alloc _).trans ((chg_of_grown hgrow).weaken (fun k _ e => e.symm))
  have c1 : Chg (fun k => v.ownBlock = some k) (wr.alloc (.cells #[.int .i64 d] 3)) w2 := ((Chg.refl _ _).alloc _).trans ((chg_of_grown hgrow).weaken (fun k _ e => e.symm))
  have b2 : Blk w2 wr.heap.size 3 #[.int .i64 d] := c1.blk (Blk.new wr 3 #[.int .i64 d]) (fun e => by have := (h.row.own.lt _ e).2; omega)
  refine ⟨h.row.snoc c2 hown (.inr ⟨d, rfl, hd, hb, b2⟩) hk, h.chg.trans (c2.weaken (fun k _ e => (h.row.own.lt k e).1)), Nat.le_trans hb c2.size, ?_⟩
  rw [List.map_append, h.rs, hrs]
  rfl

/-- What Numbers tells, of which some is known. -/
theorem nums_is {st : St} {r x y : Int} (hr : st.rev = r) (hs : st.steps = x) (hx : wrap64 x = x) (hn : (st.nc : Int) = y) : ∃ a b c d e f, numsV st = .agg #[.int .i64 r, .int .i64 x, .int .i64 a, .int .i64 b, .int .i64 y, .int .i64 c, .int .i64 d, .int .i64 e, .int .i64 f] := by
  unfold numsV
  rw [hr, hs, hx, hn]
  exact ⟨_, _, _, _, _, _, rfl⟩

/-- Numbers, laid in a block of their own. -/
theorem Liv.numb {A : Option Addr} {rs : List Rule} {cap B : Nat} {P : Nat → Prop} {L : Lay} {w w' : World} {st : St} {cs : Array Value} {y : Nat} (h : Liv A rs cap B P L w st) (hP : Lie P w) (hw : w.alloc (.cells cs 39) = w') (hy : y = w.heap.size) :
    Blk w' y 39 cs ∧ Liv A rs cap B (fun k => P k ∨ k = y) L w' st ∧ Chg (fun _ => False) w w' ∧ Lie (fun k => P k ∨ k = y) w' := by
  subst hw
  subst hy
  have hb := Blk.new w 39 cs
  have hc : Chg (fun _ => False) w (w.alloc (.cells cs 39)) := (Chg.refl _ _).alloc _
  refine ⟨hb, (h.more (fun k hk => ?_)).mono hc, hc, fun k hk => ?_⟩
  · rcases hk with hk | hk
    · exact .inl hk
    · exact .inr (by omega)
  · rcases hk with hk | hk
    · have := hP k hk
      have := hc.size
      omega
    · subst hk
      exact hb.lt

set_option maxRecDepth 100000 in
set_option maxHeartbeats 8000000 in
theorem rows_any (n at_ m : Int) (w : World) (hn : (Lit.int .u8 n).wf = true) (ha : (Lit.int .u8 at_).wf = true) (hm : (Lit.int .u8 m).wf = true) :
    Calls Try.prog 5 #[.int .u8 n, .int .u8 at_, .int .u8 m] w fun e w' => e = .returned (.bool true) ∧ Below w.heap.size w w' := by
  have bn := bounds_u8 hn
  have ba := bounds_u8 ha
  have bm := bounds_u8 hm
  obtain ⟨i0, hi0, hz0, hz1, hz2⟩ := info_parts info43
  clear hn ha hm
  go_enter Try.func5, Try.ntmps5
  go_wp2_with fail
  refine (alive_any _).mono ?_
  rintro e w1 ⟨rfl, g1⟩
  have HG1 := hid g1
  clear g1
  obtain ⟨k, hk, hk0, hk1⟩ : ∃ k : Nat, 2 + n % 6 = (k : Int) ∧ 2 ≤ k ∧ k ≤ 7 := ⟨(2 + n % 6).toNat, by omega, by omega, by omega⟩
  go_wp2_with fail
  go_loopw [8, 9] (fun v i wr => ∃ (j : Nat) (qs : List (Rule × Nat)), j ≤ k ∧ i = .int .i64 j ∧ RwsR w1 w1.heap.size (rowRules j) wr v qs) (fun _ i _ => k - (intOf i).toNat)
  case atStart => exact ⟨0, [], Nat.zero_le _, rfl, ⟨⟨World.ownsRow_nil w1 w1.heap.size 43 2, (fun q hq => by cases hq), (fun q hq => by cases hq)⟩, Chg.refl _ _, Nat.le_refl _, rfl⟩⟩
  case round =>
    obtain ⟨j, qs, hj, rfl, hT⟩ := hrel
    have HT := hid hT
    have hql : qs.length = j := by
      have := congrArg List.length hT.rs
      rw [List.length_map, rowRules_len] at this
      exact this
    clear hT
    by_cases hlt : j < k
    · have HS1 := hid (rowRules_succ j)
      have HS2 : Hid (ok ((j : Int) + 1)) := hid (WalkArith.wf_i64 (by omega))
      have HS3 : Hid (ok 0) := hid (by decide)
      go_wp2_with (first
        | (at_builtin
           refine wpList_append_own_at _ rfl (.tmp 35) (.tmp 40) 22 rfl w1.heap.size 43 i0 (.agg #[.int .i64 0, .slice none 0 0]) 2 32 Try.underlying22 hi0 hz0 hz1 hz2 rfl (by decide) u8 qs.length (rulV qs) rfl (own_chg HT.out.row.own (((Chg.refl (fun _ => False) _).alloc _).alloc _) (fun _ _ h => h)) ⟨wr.heap.size + 1, 0, none⟩ 1 1 [.int .i64 0, .slice (some ⟨wr.heap.size, 0, none⟩) 1 1] rfl rfl (newsQ _ _ _ _ _ (by simp)) (by simp [Value.oneCell']) (by unfold maxLen; omega) (by omega) (by have := HT.out.big; simp; omega) ?_
           intro v' w2 hown1 hgrow hnil hat
           have hrow := HT.out.step HS1.out HS2.out HS3.out hgrow hown1
           have HR2 := hid hrow
           clear hown1 hgrow hnil hat hrow))
      go_roundw
      case rel => exact ⟨j + 1, _, by omega, by go_num, HR2.out⟩
      case measure => simp [intOf]; omega
    · have hjk : j = k := by omega
      subst hjk
      obtain ⟨A, cap, hv, hR⟩ := HT.out.row.rules (by omega)
      rw [HT.out.rs] at hR
      rw [hql] at hv
      subst hv
      have HC := hid HT.out.chg
      have HBG := HT.out.big
      obtain ⟨mid, hmid, hm0, hm1⟩ : ∃ mid : Nat, 1 + at_ % ((j : Int) - 1) = (mid : Int) ∧ 1 ≤ mid ∧ mid < j := by
        have h1 := Int.emod_nonneg at_ (show (j : Int) - 1 ≠ 0 by omega)
        have h2 := Int.emod_lt_of_pos at_ (show 0 < (j : Int) - 1 by omega)
        exact ⟨(1 + at_ % ((j : Int) - 1)).toNat, by omega, by omega, by omega⟩
      obtain ⟨v, hv, hv0, hv1⟩ : ∃ v, 200 + m % 50 = v ∧ 200 ≤ v ∧ v ≤ 249 := ⟨_, rfl, by omega, by omega⟩
      obtain ⟨s1, s2, s3, t3, e3, s4, s5, m1, m2, n1, n2, m3, n3, m4, m5, n4, n5⟩ := rows_scene hk1 hm0 hm1 hv0 hv1
      rw [zero_text] at m1
      have M1 := hid m1
      have M2 := hid m2
      have M3 := hid m3
      have M4 := hid m4
      have M5 := hid m5
      have hn := liv_new (cap := cap) (B := wr.heap.size) (P := fun _ => False) hR (Nat.le_refl _) (fun _ h => h.elim) (n := 1048576) (by omega) (by omega)
      simp only [rvOf, rowRules_len] at hn
      have HN := hid hn
      clear HT hR hn m1 m2 m3 m4 m5
      go_wp2_with fail
      refine HN.out.mono ?_
      rintro e w3 ⟨L, rfl, h3, g3⟩
      have HL3 := hid h3
      have HC3 := hid (HC.out.trans (g3.weaken (fun _ _ h => h.elim)))
      have z3 := g3.size
      clear h3 g3 HN HC
      go_wp2_with fail
      have hokj : ok (j : Int) := WalkArith.wf_i64 (by omega)
      have hokm : ok (mid : Int) := WalkArith.wf_i64 (by omega)
      have HOJ := hid hokj
      have HOM := hid hokm
      clear hokj hokm
      refine (liv_set HL3.out z3 (fun _ h => h.elim) HOJ.out (s := ⟨#[48]⟩) (by decide) M1.out).mono ?_
      rintro e w4 ⟨rfl, h4, g4⟩
      have HL4 := hid h4
      have HC4 := hid (HC3.out.trans (g4.weaken (fun k _ h => Nat.le_trans HBG h.1)))
      have z4 := Nat.le_trans z3 g4.size
      clear h4 g4
      go_wp2_with fail
      refine (liv_ask HL4.out z4 (fun _ h => h.elim) (k := 0) (by decide) M2.out).mono ?_
      rintro e w5 ⟨rfl, _, h5, g5⟩
      have HL5 := hid h5
      have HC5 := hid (HC4.out.trans (g5.weaken (fun k _ h => Nat.le_trans HBG h.1)))
      have z5 := Nat.le_trans z4 g5.size
      clear h5 g5
      obtain ⟨a1, a2, a3, a4, a5, a6, hv2⟩ := nums_is (st := s2) rfl n1 (by unfold wrap64; omega) (congrArg (Nat.cast : Nat → Int) n2)
      have hn2 := liv_nums HL5.out
      rw [hv2] at hn2
      have HN2 := hid hn2
      clear hn2 hv2
      go_wp2_with fail
      refine HN2.out.mono ?_
      rintro e w6 ⟨rfl, h6, g6⟩
      have HL6 := hid h6
      have HC6 := hid (HC5.out.trans (g6.weaken (fun k _ h => h.elim)))
      have z6 := Nat.le_trans z5 g6.size
      clear h6 g6 HN2
      go_upto_region 13 with fail
      obtain ⟨w7, hw7⟩ : ∃ w7, w6.alloc (Obj.cells #[Value.int IntKind.i64 s2.rev, Value.int IntKind.i64 j, Value.int IntKind.i64 a1, Value.int IntKind.i64 a2, Value.int IntKind.i64 j, Value.int IntKind.i64 a3, Value.int IntKind.i64 a4, Value.int IntKind.i64 a5, Value.int IntKind.i64 a6] 39) = w7 := ⟨_, rfl⟩
      obtain ⟨y1, hy1⟩ : ∃ y, y = w6.heap.size := ⟨_, rfl⟩
      obtain ⟨b7, l7, c7, p7⟩ := HL6.out.numb (fun _ h => h.elim) hw7 hy1
      rw [hw7, ← hy1]
      have HB7 := hid b7
      have HL7 := hid l7
      have HP7 := hid p7
      have HC7 := hid (HC6.out.trans (c7.weaken (fun k _ h => h.elim)))
      have z7 := Nat.le_trans z6 c7.size
      clear hw7 hy1 b7 l7 c7 p7
      go_wp2_with fail
      refine (liv_ask HL7.out z7 HP7.out (k := 0) (by decide) M3.out).mono ?_
      rintro e w8 ⟨rfl, _, h8, g8⟩
      have HL8 := hid h8
      have HP8 := hid (HP7.out.mono g8.size)
      have HB8 := hid (g8.blk HB7.out (fun h => h.2 (.inr rfl)))
      have HC8 := hid (HC7.out.trans (g8.weaken (fun k _ h => Nat.le_trans HBG h.1)))
      have z8 := Nat.le_trans z7 g8.size
      clear h8 g8
      obtain ⟨d1, d2, d3, d4, d5, d6, hv3⟩ := nums_is (st := s3) (y := s3.nc) rfl n3 (by unfold wrap64; omega) rfl
      have hn3 := liv_nums HL8.out
      rw [hv3] at hn3
      have HN3 := hid hn3
      clear hn3 hv3
      go_wp2_with fail
      refine HN3.out.mono ?_
      rintro e w9 ⟨rfl, h9, g9⟩
      have HL9 := hid h9
      have HP9 := hid (HP8.out.mono g9.size)
      have HB9 := hid (g9.blk HB8.out (fun h => h))
      have HC9 := hid (HC8.out.trans (g9.weaken (fun k _ h => h.elim)))
      have z9 := Nat.le_trans z8 g9.size
      clear h9 g9 HN3
      go_upto_region 15 with fail
      obtain ⟨w10, hw10⟩ : ∃ w10, w9.alloc (Obj.cells #[Value.int IntKind.i64 s3.rev, Value.int IntKind.i64 j, Value.int IntKind.i64 d1, Value.int IntKind.i64 d2, Value.int IntKind.i64 s3.nc, Value.int IntKind.i64 d3, Value.int IntKind.i64 d4, Value.int IntKind.i64 d5, Value.int IntKind.i64 d6] 39) = w10 := ⟨_, rfl⟩
      obtain ⟨y2, hy2⟩ : ∃ y, y = w9.heap.size := ⟨_, rfl⟩
      obtain ⟨b10, l10, c10, p10⟩ := HL9.out.numb HP9.out hw10 hy2
      rw [hw10, ← hy2]
      have HB10 := hid b10
      have HA10 := hid (c10.blk HB9.out (fun h => h))
      have HL10 := hid l10
      have HP10 := hid p10
      have HC10 := hid (HC9.out.trans (c10.weaken (fun k _ h => h.elim)))
      have z10 := Nat.le_trans z9 c10.size
      clear hw10 hy2 b10 l10 c10 p10 HL3 HL4 HL5 HL6 HL7 HL8 HL9 HC3 HC4 HC5 HC6 HC7 HC8 HC9 HB7 HB8 HB9 HP7 HP8 HP9
      go_wp2_with fail
      go_loopw [16, 17] (fun s i wr => ∃ i' : Nat, i' ≤ j ∧ i = .int .i64 i' ∧ s = .int .i64 (tri i') ∧ wr = w10) (fun _ i _ => j - (intOf i).toNat)
      case atStart => exact ⟨0, by omega, rfl, rfl, rfl⟩
      case round =>
        obtain ⟨i', hi', rfl, rfl, rfl⟩ := hrel
        have ht1 := tri_mono hi'
        have ht2 := tri_small hk1
        have ht3 := tri_pos i'
        by_cases hlt2 : i' < j
        · go_wp2_with fail
          go_roundw
          case rel => exact ⟨i' + 1, by omega, by go_num, rfl, trivial⟩
          case measure => simp [intOf]; omega
        · have hij : j = i' := by omega
          subst hij
          clear hlt2 hi'
          go_wp2_with fail
          refine (value_is (tri j) _ (by omega)).mono ?_
          rintro e w11 ⟨rfl, g11⟩
          have q1 : w11.cell? ⟨y1, 1, none⟩ = some (.int .i64 j) := by rw [(g11.blk HA10.out (fun h => h)).cell]; rfl
          have q2 : w11.cell? ⟨y1, 4, none⟩ = some (.int .i64 j) := by rw [(g11.blk HA10.out (fun h => h)).cell]; rfl
          have q3 : w11.cell? ⟨y2, 1, none⟩ = some (.int .i64 j) := by rw [(g11.blk HB10.out (fun h => h)).cell]; rfl
          have HL11 := hid (HL10.out.mono g11)
          have HP11 := hid (HP10.out.mono g11.size)
          have HC11 := hid (HC10.out.trans (g11.weaken (fun k _ h => h.elim)))
          have z11 := Nat.le_trans z10 g11.size
          have hjz : ((j : Int) - 1 == 0) = false := by simp; omega
          have hjp : 0 < (j : Int) - 1 := by omega
          clear g11
          go_wp2_with fail
          refine (value_is v _ (by omega)).mono ?_
          rintro e w12 ⟨rfl, g12⟩
          have HL12 := hid (HL11.out.mono g12)
          have HP12 := hid (HP11.out.mono g12.size)
          have HC12 := hid (HC11.out.trans (g12.weaken (fun k _ h => h.elim)))
          have z12 := Nat.le_trans z11 g12.size
          clear g12 q1 q2 q3
          go_wp2_with fail
          refine (liv_set HL12.out z12 HP12.out HOM.out (by have := valueM_size v; omega) M4.out).mono ?_
          rintro e w13 ⟨rfl, h13, g13⟩
          have HL13 := hid h13
          have HP13 := hid (HP12.out.mono g13.size)
          have HC13 := hid (HC12.out.trans (g13.weaken (fun k _ h => Nat.le_trans HBG h.1)))
          have z13 := Nat.le_trans z12 g13.size
          clear h13 g13
          go_wp2_with fail
          refine (liv_ask HL13.out z13 HP13.out (k := 0) (by decide) M5.out).mono ?_
          rintro e w14 ⟨rfl, _, h14, g14⟩
          have HL14 := hid h14
          have HP14 := hid (HP13.out.mono g14.size)
          have HC14 := hid (HC13.out.trans (g14.weaken (fun k _ h => Nat.le_trans HBG h.1)))
          have z14 := Nat.le_trans z13 g14.size
          clear h14 g14
          obtain ⟨f1, f2, f3, f4, f5, f6, hv5⟩ := nums_is (st := s5) (y := (j : Int) - 1) rfl n4 (by unfold wrap64; omega) (by rw [n5]; omega)
          have hn5 := liv_nums HL14.out
          rw [hv5] at hn5
          have HN5 := hid hn5
          clear hn5 hv5
          go_wp2_with fail
          refine HN5.out.mono ?_
          rintro e w15 ⟨rfl, h15, g15⟩
          have HL15 := hid h15
          have HP15 := hid (HP14.out.mono g15.size)
          have HC15 := hid (HC14.out.trans (g15.weaken (fun k _ h => h.elim)))
          have z15 := Nat.le_trans z14 g15.size
          clear h15 g15 HN5
          go_upto_region 26 with fail
          obtain ⟨w16, hw16⟩ : ∃ w16, w15.alloc (Obj.cells #[Value.int IntKind.i64 s5.rev, Value.int IntKind.i64 (j + mid), Value.int IntKind.i64 f1, Value.int IntKind.i64 f2, Value.int IntKind.i64 (j - 1), Value.int IntKind.i64 f3, Value.int IntKind.i64 f4, Value.int IntKind.i64 f5, Value.int IntKind.i64 f6] 39) = w16 := ⟨_, rfl⟩
          obtain ⟨y3, hy3⟩ : ∃ y, y = w15.heap.size := ⟨_, rfl⟩
          obtain ⟨b16, l16, c16, p16⟩ := HL15.out.numb HP15.out hw16 hy3
          rw [hw16, ← hy3]
          have HB16 := hid b16
          have HC16 := hid (HC15.out.trans (c16.weaken (fun k _ h => h.elim)))
          clear hw16 hy3 b16 l16 c16 p16 HL10 HL11 HL12 HL13 HL14 HL15 HC10 HC11 HC12 HC13 HC14 HC15 HP10 HP11 HP12 HP13 HP14 HP15
          go_wp2_with fail
          go_loopw [22, 23] (fun s i wr => ∃ i' : Nat, i' ≤ mid ∧ i = .int .i64 i' ∧ s = .int .i64 (tri i') ∧ wr = w16) (fun _ i _ => mid - (intOf i).toNat)
          case atStart => exact ⟨0, by omega, rfl, rfl, rfl⟩
          case round =>
            obtain ⟨i', hi', rfl, rfl, rfl⟩ := hrel
            have hu1 := tri_mono hi'
            have hu2 := tri_mono (show mid ≤ j by omega)
            have hu3 := tri_pos i'
            by_cases hlt2 : i' < mid
            · go_wp2_with fail
              go_roundw
              case rel => exact ⟨i' + 1, by omega, by go_num, rfl, trivial⟩
              case measure => simp [intOf]; omega
            · have hij : mid = i' := by omega
              subst hij
              clear hlt2 hi'
              have hsum : tri mid + 200 + m % 50 = tri mid + v := by omega
              go_wp2_with fail
              refine (value_is (tri mid + v) _ (by omega)).mono ?_
              rintro e w17 ⟨rfl, g17⟩
              have q1 : w17.cell? ⟨y3, 1, none⟩ = some (.int .i64 (j + mid)) := by rw [(g17.blk HB16.out (fun h => h)).cell]; rfl
              have q2 : w17.cell? ⟨y3, 4, none⟩ = some (.int .i64 (j - 1)) := by rw [(g17.blk HB16.out (fun h => h)).cell]; rfl
              have HC17 := hid (HC16.out.trans (g17.weaken (fun k _ h => h.elim)))
              clear g17
              go_wp2_with fail
              go_ret
              have hb := HG1.out.size
              exact ⟨rfl, (HG1.out.below (Nat.le_refl _) (fun _ _ h => h)).trans (HC17.out.below hb (fun k hk h => by omega))⟩
end Go.Proofs.Ytfkedhclhmbpfaa
