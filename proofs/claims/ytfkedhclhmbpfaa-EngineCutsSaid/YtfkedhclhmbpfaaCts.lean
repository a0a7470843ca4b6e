/-
  EngineCuts' walk.
-/
import Derived.Test.YtfkedhclhmbpfaaRws
import Derived.Test.YtfkedhclhmbpfaaPq
namespace Go.Proofs.Ytfkedhclhmbpfaa
open Go.RowKit Go.Maps
set_option linter.unusedVariables false
set_option linter.unusedSimpArgs false

/-- The rules up to key j + 1. -/
def cutUp (j : Nat) : List Rule := ⟨0, []⟩ :: ⟨2, [0]⟩ :: cutTail j
theorem cutUp_succ (j : Nat) : cutUp (j + 1) = cutUp j ++ [⟨0, [(j : Int) + 1]⟩] := by
  unfold cutUp cutTail
  rw [List.range_succ, List.map_append]
  rfl
theorem cutUp_len (j : Nat) : (cutUp j).length = j + 2 := by unfold cutUp cutTail; simp
def cutTo (i : Nat) : List Rule := cutUp (i - 2)
theorem cutTo_succ {i : Nat} (h : 2 ≤ i) : cutTo (i + 1) = cutTo i ++ [⟨0, [(i : Int) - 1]⟩] := by
  unfold cutTo
  rw [show i + 1 - 2 = (i - 2) + 1 by omega, cutUp_succ]
  congr 4
  omega
theorem cutTo_len {i : Nat} (h : 2 ≤ i) : (cutTo i).length = i := by
  unfold cutTo
  rw [cutUp_len]
  omega
theorem cutTo_end {z : Nat} (h : 1 ≤ z) : cutTo (z + 1) = cutRules z := by
  unfold cutTo cutUp cutRules
  rw [show z + 1 - 2 = z - 1 by omega]
theorem info5 : (Try.prog.info? 43).map (fun i => (i.zero, i.size, i.bytes)) = some (some (.agg #[.int .i64 0, .slice none 0 0]), 2, 32) := info43

set_option maxRecDepth 100000 in
set_option maxHeartbeats 8000000 in
theorem cuts_any (n m k : Int) (w : World) (hn : (Lit.int .u8 n).wf = true) (hm : (Lit.int .u8 m).wf = true) (hk : (Lit.int .u8 k).wf = true) :
    Calls Try.prog 4 #[.int .u8 n, .int .u8 m, .int .u8 k] w fun e w' => e = .returned (.bool true) ∧ Below w.heap.size w w' := by
  have bn := bounds_u8 hn
  have bm := bounds_u8 hm
  have bk := bounds_u8 hk
  obtain ⟨i0, hi0, hz0, hz1, hz2⟩ := info_parts info43
  clear hn hm hk
  go_enter Try.func4, Try.ntmps4
  go_wp2_with fail
  refine (alive_any _).mono ?_
  rintro e w1 ⟨rfl, g1⟩
  have HG1 := hid g1
  clear g1
  obtain ⟨z, hz, hz3, hz4⟩ : ∃ z : Nat, 2 + k % 5 = (z : Int) ∧ 2 ≤ z ∧ z ≤ 6 := ⟨(2 + k % 5).toNat, by omega, by omega, by omega⟩
  go_upto_region 5 with fail
  obtain ⟨w2, hw2⟩ : ∃ w2, (w1.alloc (Obj.cells #[Value.int IntKind.i64 0] 3)).alloc (Obj.cells #[Value.int IntKind.i64 0, Value.slice none 0 0, Value.int IntKind.i64 2, Value.slice (some ⟨w1.heap.size, 0, none⟩) 1 1] 43) = w2 := ⟨_, rfl⟩
  have h0 : RwsR w1 w1.heap.size (cutUp 0) w2 (.slice (some ⟨w1.heap.size + 1, 0, none⟩) 2 2) [(⟨0, []⟩, 0), (⟨2, [0]⟩, w1.heap.size)] := by
    rw [← hw2]
    have b1 : Blk ((w1.alloc (Obj.cells #[Value.int IntKind.i64 0] 3)).alloc (Obj.cells #[Value.int IntKind.i64 0, Value.slice none 0 0, Value.int IntKind.i64 2, Value.slice (some ⟨w1.heap.size, 0, none⟩) 1 1] 43)) w1.heap.size 3 #[.int .i64 0] := (Blk.new w1 3 _).alloc _
    have b2 := Blk.new (w1.alloc (Obj.cells #[Value.int IntKind.i64 0] 3)) 43 #[Value.int IntKind.i64 0, Value.slice none 0 0, Value.int IntKind.i64 2, Value.slice (some ⟨w1.heap.size, 0, none⟩) 1 1]
    rw [World.size_alloc] at b2
    refine ⟨⟨⟨rfl, .inr ⟨w1.heap.size + 1, 2, _, rfl, by omega, b2, Nat.le_refl _, by unfold maxLen; omega, rfl, rfl⟩⟩, fun q hq => ?_, fun q hq => ?_⟩, ((Chg.refl _ _).alloc _).alloc _, by simp; omega, rfl⟩
    · rcases List.mem_cons.1 hq with rfl | hq
      · exact .inl rfl
      · rw [List.mem_singleton] at hq
        subst hq
        exact .inr ⟨0, rfl, by decide, Nat.le_refl _, b1⟩
    · rcases List.mem_cons.1 hq with rfl | hq
      · exact (by decide : ok 0)
      · rw [List.mem_singleton] at hq
        subst hq
        exact (by decide : ok 2)
  rw [hw2]
  have H0 := hid h0
  clear hw2 h0
  go_wp2_with fail
  go_loopw [8, 9] (fun v i wr => ∃ (j : Nat) (qs : List (Rule × Nat)), Hid (2 ≤ j ∧ j ≤ z + 1) ∧ i = .int .i64 j ∧ RwsR w1 w1.heap.size (cutTo j) wr v qs) (fun _ i _ => z + 1 - (intOf i).toNat)
  case atStart => exact ⟨2, _, hid (by omega), rfl, H0.out⟩
  case round =>
    obtain ⟨j, qs, hj, rfl, hT⟩ := hrel
    have HT := hid hT
    have hql : qs.length = j := by
      have := congrArg List.length hT.rs
      rw [List.length_map, cutTo_len hj.out.1] at this
      exact this
    clear hT
    by_cases hlt : j ≤ z
    · have HS1 := hid (cutTo_succ hj.out.1)
      have HS2 : Hid (ok ((j : Int) - 1)) := hid (WalkArith.wf_i64 (by have := hj.out; omega))
      have HS3 : Hid (ok 0) := hid (by decide)
      go_wp2_with (first
        | (at_builtin
           refine wpList_append_own_at _ rfl (.tmp 33) (.tmp 38) 22 rfl w1.heap.size 43 i0 (.agg #[.int .i64 0, .slice none 0 0]) 2 32 Try.underlying22 hi0 hz0 hz1 hz2 rfl (by decide) u8 qs.length (rulV qs) rfl (own_chg HT.out.row.own (((Chg.refl (fun _ => False) _).alloc _).alloc _) (fun _ _ h => h)) ⟨wr.heap.size + 1, 0, none⟩ 1 1 [.int .i64 0, .slice (some ⟨wr.heap.size, 0, none⟩) 1 1] rfl rfl (newsQ _ _ _ _ _ (by simp)) (by simp [Value.oneCell']) (by unfold maxLen; omega) (by omega) (by have := HT.out.big; simp; omega) ?_
           intro v' w2 hown1 hgrow hnil hat
           have hrow := HT.out.step HS1.out HS2.out HS3.out hgrow hown1
           have HR2 := hid hrow
           clear hown1 hgrow hnil hat hrow))
      go_roundw
      case rel => exact ⟨j + 1, _, hid (by have := hj.out; omega), by go_num, HR2.out⟩
      case measure => simp [intOf]; omega
    · have hjk : j = z + 1 := by have := hj.out; omega
      subst hjk
      obtain ⟨A, cap, hv, hR⟩ := HT.out.row.rules (by omega)
      rw [HT.out.rs, cutTo_end (by omega)] at hR
      rw [hql] at hv
      subst hv
      have HC := hid HT.out.chg
      have HBG := HT.out.big
      obtain ⟨s1, s2, s4, s5, ta, tb, m1, m2, n2, r2, m4, m5, p1, p2, p3⟩ := cuts_scene hz3 hz4 bn.1 bn.2 bm.1 bm.2
      have M1 := hid m1
      have M2 := hid m2
      have M4 := hid m4
      have M5 := hid m5
      have HP1 := hid p1
      have HP2 := hid p2
      have HP3 := hid p3
      have hlen : (cutRules z).length = z + 1 := cutRules_len (by omega)
      have hn := liv_new (cap := cap) (B := wr.heap.size) (P := fun _ => False) hR (Nat.le_refl _) (fun _ h => h.elim) (n := 1048576) (by omega) (by omega)
      simp only [rvOf, hlen] at hn
      have HN := hid hn
      have HOZ : Hid (ok (z : Int)) := hid (WalkArith.wf_i64 (by omega))
      clear HT hR hn m1 m2 m4 m5 p1 p2 p3 hlen hql hj hlt H0
      go_wp2_with fail
      refine HN.out.mono ?_
      rintro e w3 ⟨L, rfl, h3, g3⟩
      have HL3 := hid h3
      have HC3 := hid (HC.out.trans (g3.weaken (fun _ _ h => h.elim)))
      have z3 := g3.size
      clear h3 g3 HN HC
      go_wp2_with fail
      refine (value_is n _ (by omega)).mono ?_
      rintro e w4 ⟨rfl, g4⟩
      have HL4 := hid (HL3.out.mono g4)
      have HC4 := hid (HC3.out.trans (g4.weaken (fun _ _ h => h.elim)))
      have z4 := Nat.le_trans z3 g4.size
      clear g4
      go_wp2_with fail
      refine (liv_set HL4.out z4 (fun _ h => h.elim) (k := 0) (by decide) (by have := valueM_size n; omega) M1.out).mono ?_
      rintro e w5 ⟨rfl, h5, g5⟩
      have HL5 := hid h5
      have HC5 := hid (HC4.out.trans (g5.weaken (fun k _ h => Nat.le_trans HBG h.1)))
      have z5 := Nat.le_trans z4 g5.size
      clear h5 g5
      go_wp2_with fail
      refine (liv_ask HL5.out z5 (fun _ h => h.elim) HOZ.out M2.out).mono ?_
      rintro e w6 ⟨rfl, _, h6, g6⟩
      have HL6 := hid h6
      have HC6 := hid (HC5.out.trans (g6.weaken (fun k _ h => Nat.le_trans HBG h.1)))
      have z6 := Nat.le_trans z5 g6.size
      clear h6 g6
      obtain ⟨a1, a2, a3, a4, a5, a6, hv2⟩ := nums_is (st := s2) (y := s2.nc) r2 n2 (by unfold wrap64; omega) rfl
      have hn2 := liv_nums HL6.out
      rw [hv2] at hn2
      have HN2 := hid hn2
      clear hn2 hv2
      go_wp2_with fail
      refine HN2.out.mono ?_
      rintro e w7 ⟨rfl, h7, g7⟩
      have HL7 := hid h7
      have HC7 := hid (HC6.out.trans (g7.weaken (fun k _ h => h.elim)))
      have z7 := Nat.le_trans z6 g7.size
      clear h7 g7 HN2
      go_upto_region 13 with fail
      obtain ⟨w8, hw8⟩ : ∃ w8, w7.alloc (Obj.cells #[Value.int IntKind.i64 1, Value.int IntKind.i64 z, Value.int IntKind.i64 a1, Value.int IntKind.i64 a2, Value.int IntKind.i64 s2.nc, Value.int IntKind.i64 a3, Value.int IntKind.i64 a4, Value.int IntKind.i64 a5, Value.int IntKind.i64 a6] 39) = w8 := ⟨_, rfl⟩
      obtain ⟨y1, hy1⟩ : ∃ y, y = w7.heap.size := ⟨_, rfl⟩
      obtain ⟨b8, l8, c8, p8⟩ := HL7.out.numb (fun _ h => h.elim) hw8 hy1
      rw [hw8, ← hy1]
      have HB8 := hid b8
      have HL8 := hid l8
      have HQ8 := hid p8
      have HC8 := hid (HC7.out.trans (c8.weaken (fun k _ h => h.elim)))
      have z8 := Nat.le_trans z7 c8.size
      clear hw8 hy1 b8 l8 c8 p8
      go_wp2_with fail
      refine (value_is m _ (by omega)).mono ?_
      rintro e w9 ⟨rfl, g9⟩
      have HL9 := hid (HL8.out.mono g9)
      have HQ9 := hid (HQ8.out.mono g9.size)
      have HB9 := hid (g9.blk HB8.out (fun h => h))
      have HC9 := hid (HC8.out.trans (g9.weaken (fun _ _ h => h.elim)))
      have z9 := Nat.le_trans z8 g9.size
      clear g9
      go_wp2_with fail
      refine (liv_set HL9.out z9 HQ9.out (k := 0) (by decide) (by have := valueM_size m; omega) M4.out).mono ?_
      rintro e w10 ⟨rfl, h10, g10⟩
      have HL10 := hid h10
      have HQ10 := hid (HQ9.out.mono g10.size)
      have HB10 := hid (g10.blk HB9.out (fun h => h.2 (.inr rfl)))
      have HC10 := hid (HC9.out.trans (g10.weaken (fun k _ h => Nat.le_trans HBG h.1)))
      have z10 := Nat.le_trans z9 g10.size
      clear h10 g10
      go_wp2_with fail
      refine (liv_ask HL10.out z10 HQ10.out HOZ.out M5.out).mono ?_
      rintro e w11 ⟨rfl, _, h11, g11⟩
      have HL11 := hid h11
      have HQ11 := hid (HQ10.out.mono g11.size)
      have HB11 := hid (g11.blk HB10.out (fun h => h.2 (.inr rfl)))
      have HC11 := hid (HC10.out.trans (g11.weaken (fun k _ h => Nat.le_trans HBG h.1)))
      have z11 := Nat.le_trans z10 g11.size
      clear h11 g11 HL3 HL4 HL5 HL6 HL7 HL8 HL9 HL10 HC3 HC4 HC5 HC6 HC7 HC8 HC9 HC10 HB8 HB9 HB10
      have hend : ∀ (w' : World), Chg (fun k => w1.heap.size ≤ k) w1 w' → Below w.heap.size w w' := fun w' hc => by
        have hb := HG1.out.size
        exact (HG1.out.below (Nat.le_refl _) (fun _ _ h => h)).trans (hc.below hb (fun k hk h => by omega))
      have HEND := hid hend
      clear hend
      by_cases hnm : n = m
      · obtain ⟨rfl, q5, r5⟩ := HP1.out hnm
        subst hnm
        obtain ⟨f1, f2, f3, f4, f5, f6, hv5⟩ := nums_is (st := s5) (y := s5.nc) r5 q5 (by unfold wrap64; omega) rfl
        have hn5 := liv_nums HL11.out
        rw [hv5] at hn5
        have HN5 := hid hn5
        clear hn5 hv5
        go_wp2_with fail
        refine HN5.out.mono ?_
        rintro e w12 ⟨rfl, h12, g12⟩
        have b12 := g12.blk HB11.out (fun h => h)
        have HC12 := hid (HC11.out.trans (g12.weaken (fun k _ h => h.elim)))
        have HL12 := hid h12
        have HQ12 := hid (HQ11.out.mono g12.size)
        have HB12 := hid b12
        clear h12 g12 HN5 b12
        go_upto_region 16 with fail
        obtain ⟨w13, hw13⟩ : ∃ w13, w12.alloc (Obj.cells #[Value.int IntKind.i64 1, Value.int IntKind.i64 z, Value.int IntKind.i64 f1, Value.int IntKind.i64 f2, Value.int IntKind.i64 s5.nc, Value.int IntKind.i64 f3, Value.int IntKind.i64 f4, Value.int IntKind.i64 f5, Value.int IntKind.i64 f6] 39) = w13 := ⟨_, rfl⟩
        obtain ⟨y2, hy2⟩ : ∃ y, y = w12.heap.size := ⟨_, rfl⟩
        obtain ⟨b13, l13, c13, p13⟩ := HL12.out.numb HQ12.out hw13 hy2
        rw [hw13, ← hy2]
        have b14 := c13.blk HB12.out (fun h => h)
        have t0 : w13.cell? ⟨y1, 0, none⟩ = some (.int .i64 1) := by rw [b14.cell]; rfl
        have t1 : w13.cell? ⟨y1, 1, none⟩ = some (.int .i64 z) := by rw [b14.cell]; rfl
        have t2 : w13.cell? ⟨y2, 0, none⟩ = some (.int .i64 1) := by rw [b13.cell]; rfl
        have t3 : w13.cell? ⟨y2, 1, none⟩ = some (.int .i64 z) := by rw [b13.cell]; rfl
        have HC13 := hid (HC12.out.trans (c13.weaken (fun k _ h => h.elim)))
        clear hw13 hy2 b13 l13 c13 p13 b14
        go_wp2_with fail
        go_ret
        exact ⟨rfl, HEND.out _ HC13.out⟩
      · have hnb : (n == m) = false := by simpa using hnm
        by_cases hp : n % 2 = m % 2
        · obtain ⟨rfl, q5, r5⟩ := HP2.out hnm hp
          have hpb : (n % 2 == m % 2) = true := by rw [hp]; simp
          clear hnm hp
          obtain ⟨f1, f2, f3, f4, f5, f6, hv5⟩ := nums_is (st := s5) (y := s5.nc) r5 q5 (by unfold wrap64; omega) rfl
          have hn5 := liv_nums HL11.out
          rw [hv5] at hn5
          have HN5 := hid hn5
          clear hn5 hv5
          go_wp2_with fail
          refine HN5.out.mono ?_
          rintro e w12 ⟨rfl, h12, g12⟩
          have b12 := g12.blk HB11.out (fun h => h)
          have HC12 := hid (HC11.out.trans (g12.weaken (fun k _ h => h.elim)))
          have HL12 := hid h12
          have HQ12 := hid (HQ11.out.mono g12.size)
          have HB12 := hid b12
          clear h12 g12 HN5 b12
          go_upto_region 16 with fail
          obtain ⟨w13, hw13⟩ : ∃ w13, w12.alloc (Obj.cells #[Value.int IntKind.i64 2, Value.int IntKind.i64 (z + 1), Value.int IntKind.i64 f1, Value.int IntKind.i64 f2, Value.int IntKind.i64 s5.nc, Value.int IntKind.i64 f3, Value.int IntKind.i64 f4, Value.int IntKind.i64 f5, Value.int IntKind.i64 f6] 39) = w13 := ⟨_, rfl⟩
          obtain ⟨y2, hy2⟩ : ∃ y, y = w12.heap.size := ⟨_, rfl⟩
          obtain ⟨b13, l13, c13, p13⟩ := HL12.out.numb HQ12.out hw13 hy2
          rw [hw13, ← hy2]
          have b14 := c13.blk HB12.out (fun h => h)
          have t0 : w13.cell? ⟨y1, 0, none⟩ = some (.int .i64 1) := by rw [b14.cell]; rfl
          have t1 : w13.cell? ⟨y1, 1, none⟩ = some (.int .i64 z) := by rw [b14.cell]; rfl
          have t2 : w13.cell? ⟨y2, 0, none⟩ = some (.int .i64 2) := by rw [b13.cell]; rfl
          have t3 : w13.cell? ⟨y2, 1, none⟩ = some (.int .i64 (z + 1)) := by rw [b13.cell]; rfl
          have HC13 := hid (HC12.out.trans (c13.weaken (fun k _ h => h.elim)))
          clear hw13 hy2 b13 l13 c13 p13 b14
          go_wp2_with fail
          go_ret
          exact ⟨rfl, HEND.out _ HC13.out⟩
        · obtain ⟨hne, q5, r5⟩ := HP3.out hnm hp
          have hpb : (n % 2 == m % 2) = false := by simpa using hp
          have hnt := ba_ne hne
          clear hnm hp hne
          obtain ⟨f1, f2, f3, f4, f5, f6, hv5⟩ := nums_is (st := s5) (y := s5.nc) r5 q5 (by unfold wrap64; omega) rfl
          have hn5 := liv_nums HL11.out
          rw [hv5] at hn5
          have HN5 := hid hn5
          clear hn5 hv5
          go_wp2_with fail
          refine HN5.out.mono ?_
          rintro e w12 ⟨rfl, h12, g12⟩
          have b12 := g12.blk HB11.out (fun h => h)
          have HC12 := hid (HC11.out.trans (g12.weaken (fun k _ h => h.elim)))
          have HL12 := hid h12
          have HQ12 := hid (HQ11.out.mono g12.size)
          have HB12 := hid b12
          clear h12 g12 HN5 b12
          go_upto_region 16 with fail
          obtain ⟨w13, hw13⟩ : ∃ w13, w12.alloc (Obj.cells #[Value.int IntKind.i64 2, Value.int IntKind.i64 (z + z), Value.int IntKind.i64 f1, Value.int IntKind.i64 f2, Value.int IntKind.i64 s5.nc, Value.int IntKind.i64 f3, Value.int IntKind.i64 f4, Value.int IntKind.i64 f5, Value.int IntKind.i64 f6] 39) = w13 := ⟨_, rfl⟩
          obtain ⟨y2, hy2⟩ : ∃ y, y = w12.heap.size := ⟨_, rfl⟩
          obtain ⟨b13, l13, c13, p13⟩ := HL12.out.numb HQ12.out hw13 hy2
          rw [hw13, ← hy2]
          have b14 := c13.blk HB12.out (fun h => h)
          have t0 : w13.cell? ⟨y1, 0, none⟩ = some (.int .i64 1) := by rw [b14.cell]; rfl
          have t1 : w13.cell? ⟨y1, 1, none⟩ = some (.int .i64 z) := by rw [b14.cell]; rfl
          have t2 : w13.cell? ⟨y2, 0, none⟩ = some (.int .i64 2) := by rw [b13.cell]; rfl
          have t3 : w13.cell? ⟨y2, 1, none⟩ = some (.int .i64 (z + z)) := by rw [b13.cell]; rfl
          have HC13 := hid (HC12.out.trans (c13.weaken (fun k _ h => h.elim)))
          clear hw13 hy2 b13 l13 c13 p13 b14
          go_wp2_with fail
          go_ret
          exact ⟨rfl, HEND.out _ HC13.out⟩
end Go.Proofs.Ytfkedhclhmbpfaa
