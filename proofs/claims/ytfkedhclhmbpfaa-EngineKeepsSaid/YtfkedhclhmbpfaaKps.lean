/-
  EngineKeeps' walk.
-/
import Derived.Test.YtfkedhclhmbpfaaBgs
namespace Go.Proofs.Ytfkedhclhmbpfaa
open Go.RowKit Go.Maps
set_option linter.unusedVariables false
set_option linter.unusedSimpArgs false

/-- What holds in a round of EngineKeeps. -/
structure KpsR (A : Option Addr) (rs : List Rule) (cap B : Nat) (Ul : List Int) (L M : Lay) (P : Nat → Prop) (w1 w : World) (j : Nat) (e z : St) : Prop where
  kee : KeepI rs Ul j e z
  pair : Pair A rs cap B P L M w e z
  chg : Chg (fun k => B ≤ k) w1 w
  big : B ≤ w.heap.size

theorem field5 (W : World) (a b c d e g i : Int) : (Instr.field 39 (.agg #[.int .i64 a, .int .i64 b, .int .i64 c, .int .i64 d, .int .i64 e, .int .i64 0, .int .i64 g, .int .i64 0, .int .i64 i]) 5).run Try.prog W = .ok (.int .i64 0) W := by kernel_rfl
theorem field7 (W : World) (a b c d e g i : Int) : (Instr.field 39 (.agg #[.int .i64 a, .int .i64 b, .int .i64 c, .int .i64 d, .int .i64 e, .int .i64 0, .int .i64 g, .int .i64 0, .int .i64 i]) 7).run Try.prog W = .ok (.int .i64 0) W := by kernel_rfl

set_option maxRecDepth 100000 in
set_option maxHeartbeats 8000000 in
theorem keeps_any (A A2 : Option Addr) (rs : List Rule) (acts : List Act) (cap cap2 : Nat) (k : Int) (w : World) (h : RuleRow w A rs) (ha : ActRow w A2 acts) (hl : rs.length ≤ 9223372036854775807) (hl2 : acts.length ≤ 9223372036854775807) (hll : ∀ r ∈ rs, r.l.length ≤ 9223372036854775807) (hok : ∀ r ∈ rs, ok r.kind ∧ ∀ d ∈ r.l, ok d) (hao : ∀ a ∈ acts, ok a.kind ∧ ok a.k ∧ (Lit.int .u8 a.n).wf = true) (hk : ok k) :
    Calls Try.prog 3 #[.slice A rs.length cap, .slice A2 acts.length cap2, .int .i64 k] w fun e w' => e = .returned (.bool true) ∧ Below w.heap.size w w' := by
  have HH := hid h
  have HA := hid ha
  have HOK := hid hok
  have HAO := hid hao
  have HKO := hid hk
  have bk := bounds_i64 hk
  have HLL := hid hll
  clear h ha hok hll hao hk
  go_enter Try.func3, Try.ntmps3
  go_wp2_with fail
  refine (alive_any _).mono ?_
  rintro e w1 ⟨rfl, g1⟩
  have HG1 := hid g1
  have hb := HG1.out.size
  clear g1
  go_wp2_with fail
  refine (far_any A A2 rs cap acts.length cap2 w1 (HH.out.chg HG1.out (fun _ _ h => h)) hl hl2 HLL.out (fun r hr => (HOK.out r hr).1)).mono ?_
  rintro e w2 ⟨rfl, rfl⟩
  have hend0 : Below w.heap.size w w1 := HG1.out.below (Nat.le_refl _) (fun _ _ h => h)
  have HEND0 := hid hend0
  clear hend0
  cases hf : farM rs acts.length with
  | true =>
    go_wp2_with fail
    go_ret
    exact ⟨rfl, HEND0.out⟩
  | false =>
    by_cases hk0 : k < 0
    · go_wp2_with fail
      go_ret
      exact ⟨rfl, HEND0.out⟩
    · by_cases hk1 : (rs.length : Int) ≤ k
      · go_wp2_with fail
        go_ret
        exact ⟨rfl, HEND0.out⟩
      · have HR := hid ((HH.out.chg HG1.out (fun _ _ h => h)).rules hf HOK.out)
        have HH1 := hid (HH.out.chg HG1.out (fun _ _ h => h))
        have HA1 := hid (HA.out.chg HG1.out (fun _ _ h => h))
        obtain ⟨hnear1, hnear2, hnear3⟩ := near_of hf
        have HN := hid hnear3
        obtain ⟨Ul, hUl⟩ : ∃ Ul, Ul = ulOf rs (k :: acts.map fun a => a.k) := ⟨_, rfl⟩
        have HK : Hid (Keys rs Ul) := hid (by rw [hUl]; exact ulOf_keys _ _)
        have HF : Hid (Ul.length ≤ 40000) := hid (by rw [hUl]; exact ulOf_less hf (by simp; omega))
        have HM : Hid (∀ a ∈ acts, a.k ∈ Ul) := hid (by rw [hUl]; exact fun a ha => ulOf_mem (List.mem_cons_of_mem _ (List.mem_map.2 ⟨a, ha, rfl⟩)))
        have HKU : Hid (k ∈ Ul) := hid (by rw [hUl]; exact ulOf_mem List.mem_cons_self)
        have d0 : decide (k < 0) = false := by simpa using hk0
        have d1 : decide ((rs.length : Int) ≤ k) = false := by simpa using hk1
        have HKB : Hid (0 ≤ k ∧ k < rs.length) := hid (by omega)
        clear hUl hf HH HA hnear3 hk0 hk1
        go_wp2_with fail
        refine (liv_new (cap := cap) (B := w1.heap.size) (P := fun _ => False) HR.out (Nat.le_refl _) (fun _ h => h.elim) (n := 1048576) (by omega) (by omega)).mono ?_
        rintro e w3 ⟨L, rfl, h3, g3⟩
        have HL3 := hid h3
        have HG3 := hid g3
        clear h3 g3
        go_wp2_with fail
        refine (pair_new (cap := cap) (B := w1.heap.size) (P := fun _ => False) (HR.out.chg (HG3.out.weaken (fun _ _ h => h.elim)) (fun k hk => .inl hk)) HL3.out HG3.out.size (fun _ h => h.elim) (n := 0) (by omega) (by omega)).mono ?_
        rintro e w4 ⟨M, rfl, h4, g4⟩
        have HT : Hid (KpsR A rs cap w1.heap.size Ul L M (fun _ => False) w1 w4 0 (newM 1048576) (newM 0)) := hid ⟨keep_new HF.out, h4, (HG3.out.trans g4).weaken (fun _ _ h => h.elim), (HG3.out.trans g4).size⟩
        clear h4 g4 HL3 HG3
        go_wp2_with fail
        go_loopw [11] (fun i wr => ∃ (j : Nat) (a b : St), j ≤ acts.length ∧ i = .int .i64 j ∧ KpsR A rs cap w1.heap.size Ul L M (fun _ => False) w1 wr j a b) (fun i _ => acts.length - (intOf i).toNat)
        case atStart => exact ⟨0, _, _, Nat.zero_le _, rfl, HT.out⟩
        case round =>
          obtain ⟨j, sa, sb, hj, rfl, hT⟩ := hrel
          have HT := hid hT
          clear hT
          by_cases hlt : j < acts.length
          · have hmem : acts[j] ∈ acts := List.getElem_mem hlt
            obtain ⟨b, off, rfl, c0, c1, c2⟩ := HA1.out j acts[j] (List.getElem?_eq_getElem hlt)
            have hka := HM.out _ hmem
            have hoa := HAO.out _ hmem
            obtain ⟨a, hae⟩ : ∃ a, a = acts[j] := ⟨_, rfl⟩
            rw [← hae] at c0 c1 c2 hka hoa
            have hbl : b < w1.heap.size := lt_of_cell c0
            have c0 := HT.out.chg.cell c0 (by show ¬ w1.heap.size ≤ b; omega)
            have c1 := HT.out.chg.cell c1 (by show ¬ w1.heap.size ≤ b; omega)
            have c2 := HT.out.chg.cell c2 (by show ¬ w1.heap.size ≤ b; omega)
            obtain ⟨kd, kk, n⟩ := a
            dsimp only at c0 c1 c2 hka hoa
            have bnn := bounds_u8 hoa.2.2
            have HKA := hid hka
            have HOA := hid hoa
            clear hae hmem hka hoa
            go_upto_block 1 with fail
            go_cut [] (fun wx => ∃ (a b : St), KpsR A rs cap w1.heap.size Ul L M (fun _ => False) w1 wx (j + 1) a b)
            case first =>
              go_upto_region 11 with fail
              obtain ⟨w5, hw5⟩ : ∃ w5, wr.alloc (Obj.cells #[Value.int IntKind.i64 kd, Value.int IntKind.i64 kk, Value.int IntKind.u8 n] 33) = w5 := ⟨_, rfl⟩
              obtain ⟨y, hy⟩ : ∃ y, y = wr.heap.size := ⟨_, rfl⟩
              have b5 : Blk w5 y 33 #[Value.int IntKind.i64 kd, Value.int IntKind.i64 kk, Value.int IntKind.u8 n] := by rw [← hw5, hy]; exact Blk.new wr 33 _
              obtain ⟨l5, g5, p5⟩ := HT.out.pair.block (fun _ h => h.elim) hw5 hy
              rw [hw5, ← hy]
              have e0 : w5.cell? ⟨y, 0, none⟩ = some (.int .i64 kd) := by rw [b5.cell]; rfl
              have e1 : w5.cell? ⟨y, 1, none⟩ = some (.int .i64 kk) := by rw [b5.cell]; rfl
              have e2 : w5.cell? ⟨y, 2, none⟩ = some (.int .u8 n) := by rw [b5.cell]; rfl
              have HL5 := hid l5
              have HP5 := hid p5
              have HC5 := hid (HT.out.chg.trans (g5.weaken (fun _ _ h => h.elim)))
              have z5 := Nat.le_trans HT.out.big g5.size
              clear hw5 hy b5 g5 l5 p5 c0 c1 c2
              by_cases k0 : kd = 0
              · have k0b : (kd == 0) = true := by rw [k0]; rfl
                have k1b : (kd == 1) = false := by rw [k0]; rfl
                obtain ⟨a', b', m1, m2, hkp⟩ := keep_set HT.out.kee (by omega) kk bnn.1 bnn.2
                have M1 := hid m1
                have M2 := hid m2
                have HB := hid hkp
                clear m1 m2 hkp k0
                have hwr : IntKind.i64.wrap n = n := by rw [IntKind.wrap_i64]; omega
                go_upto_region 12 with fail
                go_region_held3 (fun w' : World => w'.cell? ⟨y, 0, none⟩ = some (.int .i64 kd) ∧ w'.cell? ⟨y, 1, none⟩ = some (.int .i64 kk) ∧ w'.cell? ⟨y, 2, none⟩ = some (.int .u8 n)) (first | exact ⟨e0, e1, e2⟩ | exact ⟨q4, q5, q6⟩ | exact ⟨q9, q7, q8⟩)
                  (first
                  | (go_at_call 13; refine (value_is n _ ?_).mono ?_; (· omega); rintro e w6 ⟨rfl, g6'⟩; have g6 := Chg.undrew2 g6'; clear g6'; have q4 := g6.cell e0 (fun h => h); have q5 := g6.cell e1 (fun h => h); have q6 := g6.cell e2 (fun h => h))
                  | (go_at_call 12; refine (pair_set (a' := a') (HL5.out.mono g6) ?_ ?_ HOA.out.2.1 ?_ M1.out).mono ?_; (· exact Nat.le_trans z5 g6.size); (· exact HP5.out.mono g6.size); (· have := valueM_size n; omega); rintro e w7 ⟨rfl, hl7, g7⟩; have q9 := g7.cell q4 (fun h => h.2 (.inr rfl)); have q7 := g7.cell q5 (fun h => h.2 (.inr rfl)); have q8 := g7.cell q6 (fun h => h.2 (.inr rfl))))
                have HL7 := hid hl7
                have HC7 := hid ((HC5.out.trans (g6.weaken (fun _ _ h => False.elim h))).trans (g7.weaken (fun k _ h => h.1)))
                have HP7 := hid ((HP5.out.mono g6.size).mono g7.size)
                have z7 := Nat.le_trans (Nat.le_trans z5 g6.size) g7.size
                clear hl7 g6 g7 q4 q5 q6 e0 e1 e2
                go_upto_region 13 with fail
                go_region_held3 (fun w' : World => w'.cell? ⟨y, 0, none⟩ = some (.int .i64 kd) ∧ w'.cell? ⟨y, 1, none⟩ = some (.int .i64 kk) ∧ w'.cell? ⟨y, 2, none⟩ = some (.int .u8 n)) (first | exact ⟨q9, q7, q8⟩ | exact ⟨q4, q5, q6⟩ | exact ⟨q10, q11, q12⟩)
                  (first
                  | (go_at_call 13; refine (value_is n _ ?_).mono ?_; (· omega); rintro e w8 ⟨rfl, g8'⟩; have g8 := Chg.undrew2 g8'; clear g8'; have q4 := g8.cell q9 (fun h => h); have q5 := g8.cell q7 (fun h => h); have q6 := g8.cell q8 (fun h => h))
                  | (go_at_call 12; refine (pair_set (a' := b') (HL7.out.swap.mono g8) ?_ ?_ HOA.out.2.1 ?_ M2.out).mono ?_; (· exact Nat.le_trans z7 g8.size); (· exact HP7.out.mono g8.size); (· have := valueM_size n; omega); rintro e w9 ⟨rfl, hl9, g9⟩; have q10 := g9.cell q4 (fun h => h.2 (.inr rfl)); have q11 := g9.cell q5 (fun h => h.2 (.inr rfl)); have q12 := g9.cell q6 (fun h => h.2 (.inr rfl))))
                have HL9 := hid (hl9.swap)
                have HC9 := hid ((HC7.out.trans (g8.weaken (fun _ _ h => False.elim h))).trans (g9.weaken (fun k _ h => h.1)))
                have z9 := Nat.le_trans (Nat.le_trans z7 g8.size) g9.size
                clear hl9 g8 g9 q4 q5 q6 q7 q8 q9 q11 q12
                go_wp2_with fail
                go_meet
                exact ⟨a', b', HB.out, HL9.out.more (fun _ h => h.elim), HC9.out, z9⟩
              · have k0b : (kd == 0) = false := by simpa using k0
                by_cases k1 : kd = 1
                · have k1b : (kd == 1) = true := by rw [k1]; rfl
                  obtain ⟨a', b', s, er, m1, m2, hkp⟩ := keep_ask HK.out (fun r hr => (HN.out r hr).1) hnear1 HT.out.kee HKA.out
                  have M1 := hid m1
                  have M2 := hid m2
                  have HB := hid hkp
                  clear m1 m2 k0 k1 hkp
                  go_wp2_with fail
                  refine (pair_ask HL5.out z5 HP5.out HOA.out.2.1 M1.out).mono ?_
                  rintro e w6 ⟨rfl, _, h6, g6⟩
                  have q1 := g6.cell e1 (fun h => h.2 (.inr rfl))
                  have HL6 := hid h6.swap
                  have HC6 := hid (HC5.out.trans (g6.weaken (fun k _ h => h.1)))
                  have HP6 := hid (HP5.out.mono g6.size)
                  have z6 := Nat.le_trans z5 g6.size
                  clear h6 g6
                  go_wp2_with fail
                  refine (pair_ask HL6.out z6 HP6.out HOA.out.2.1 M2.out).mono ?_
                  rintro e w7 ⟨rfl, _, h7, g7⟩
                  have HL7 := hid h7.swap
                  have HC7 := hid (HC6.out.trans (g7.weaken (fun k _ h => h.1)))
                  have z7 := Nat.le_trans z6 g7.size
                  clear h7 g7
                  go_wp2_with fail
                  go_meet
                  exact ⟨a', b', HB.out, HL7.out.more (fun _ h => h.elim), HC7.out, z7⟩
                · have k1b : (kd == 1) = false := by simpa using k1
                  clear k1 k0
                  go_wp2_with fail
                  go_meet
                  exact ⟨_, _, HT.out.kee.mono (Nat.le_succ j), HL5.out.more (fun _ h => h.elim), HC5.out, z5⟩
            case rest =>
              obtain ⟨a', b', hm⟩ := hcut
              have HM5 := hid hm
              clear hm
              go_wp2_with fail
              go_roundw
              case rel => exact ⟨j + 1, a', b', by omega, by go_num, HM5.out⟩
              case measure => simp [intOf]; omega
          · have hkb := HKB.out
            obtain ⟨s1, s, er, m1, hcase⟩ := keep_end HK.out (fun r hr => (HN.out r hr).1) hnear1 (by omega) HT.out.kee HKU.out hkb.1
            have M1 := hid m1
            have hz : sb.used.length = 0 ∧ sb.charged = 0 := by
              obtain ⟨n1, n2, n3, n4⟩ := HT.out.kee.fz.nums
              have := HT.out.kee.bz
              omega
            have HZ := hid hz
            have HC := hid HT.out.chg
            have HCASE := hid hcase
            have z4 := HT.out.big
            clear m1 hcase hz hkb
            go_wp2_with fail
            refine (pair_ask HT.out.pair z4 (fun _ h => h.elim) HKO.out M1.out).mono ?_
            rintro e w5 ⟨rfl, _, h5, g5⟩
            have HL5 := hid h5
            have HC5 := hid (HC.out.trans (g5.weaken (fun k _ h => h.1)))
            have z5 := Nat.le_trans z4 g5.size
            clear h5 g5
            rcases HCASE.out with her | ⟨rfl, s2, s3, s4, u, x, m2, m3, m4, q1, q2, q3, q4, q5, q6, q7, q8⟩
            · have herb : (er == 0) = false := by simpa using her
              clear HCASE her
              go_wp2_with fail
              go_ret
              exact ⟨rfl, HEND0.out.trans (HC5.out.below hb (fun k hk h => by omega))⟩
            · have M2 := hid m2
              have M3 := hid m3
              have M4 := hid m4
              have Q8 := hid q8
              obtain ⟨S, hS⟩ : ∃ S, S = wrap64 s1.steps := ⟨_, rfl⟩
              obtain ⟨C, hC⟩ : ∃ C, C = wrap64 s1.checks := ⟨_, rfl⟩
              obtain ⟨H1, hH1⟩ : ∃ H, H = s1.hits := ⟨_, rfl⟩
              obtain ⟨H2, hH2⟩ : ∃ H, H = s2.hits := ⟨_, rfl⟩
              have nv1 : numsV s1 = .agg #[.int .i64 s1.rev, .int .i64 S, .int .i64 C, .int .i64 H1, .int .i64 s1.nc, .int .i64 s1.used.length, .int .i64 s1.budget, .int .i64 s1.charged, .int .i64 s1.high] := by
                unfold numsV
                rw [hS, hC, hH1, show wrap64 s1.hits = s1.hits by unfold wrap64; omega]
              have nv2 : numsV s2 = .agg #[.int .i64 s2.rev, .int .i64 S, .int .i64 C, .int .i64 H2, .int .i64 s2.nc, .int .i64 s2.used.length, .int .i64 s2.budget, .int .i64 s2.charged, .int .i64 s2.high] := by
                unfold numsV
                rw [hS, hC, hH2, q1, q2, show wrap64 s2.hits = s2.hits by unfold wrap64; omega]
              have d2 : decide (H1 + 1 < H2) = false := by simp; omega
              have bH : 0 ≤ H1 ∧ H1 ≤ 20000000000 := by omega
              have NV2 := hid nv2
              have hn1 := pair_nums HL5.out
              rw [nv1] at hn1
              have HN1 := hid hn1
              have HS1 : Hid (S = wrap64 s2.steps) := hid (by rw [hS, q1])
              clear HCASE m2 m3 m4 q8 nv1 nv2 hn1 hS hC hH1 hH2 q1 q2 q3 q4 q5 q6
              go_wp2_with fail
              refine HN1.out.mono ?_
              rintro e w6 ⟨rfl, h6, g6⟩
              have HL6 := hid h6
              have HC6 := hid (HC5.out.trans (g6.weaken (fun k _ h => h.elim)))
              have z6 := Nat.le_trans z5 g6.size
              clear h6 g6 HN1
              go_upto_region 23 with fail
              obtain ⟨w7, hw7⟩ : ∃ w7, w6.alloc (Obj.cells #[.int .i64 s1.rev, .int .i64 S, .int .i64 C, .int .i64 H1, .int .i64 s1.nc, .int .i64 s1.used.length, .int .i64 s1.budget, .int .i64 s1.charged, .int .i64 s1.high] 39) = w7 := ⟨_, rfl⟩
              obtain ⟨y1, hy1⟩ : ∃ y, y = w6.heap.size := ⟨_, rfl⟩
              have b7 : Blk w7 y1 39 #[.int .i64 s1.rev, .int .i64 S, .int .i64 C, .int .i64 H1, .int .i64 s1.nc, .int .i64 s1.used.length, .int .i64 s1.budget, .int .i64 s1.charged, .int .i64 s1.high] := by rw [← hw7, hy1]; exact Blk.new w6 39 _
              obtain ⟨l7, g7, p7⟩ := HL6.out.block (fun _ h => h.elim) hw7 hy1
              rw [hw7, ← hy1]
              have HB7 := hid b7
              have HL7 := hid l7
              have HP7 := hid p7
              have HC7 := hid (HC6.out.trans (g7.weaken (fun k _ h => h.elim)))
              have z7 := Nat.le_trans z6 g7.size
              clear hw7 hy1 b7 l7 g7 p7
              go_wp2_with fail
              refine (pair_ask HL7.out z7 HP7.out HKO.out M2.out).mono ?_
              rintro e w8 ⟨rfl, _, h8, g8⟩
              have HL8 := hid h8
              have HB8 := hid (g8.blk HB7.out (fun h => h.2 (.inr rfl)))
              have HP8 := hid (HP7.out.mono g8.size)
              have HC8 := hid (HC7.out.trans (g8.weaken (fun k _ h => h.1)))
              have z8 := Nat.le_trans z7 g8.size
              clear h8 g8
              have hn2 := pair_nums HL8.out
              rw [NV2.out] at hn2
              have HN2 := hid hn2
              clear hn2 NV2
              go_wp2_with fail
              refine HN2.out.mono ?_
              rintro e w9 ⟨rfl, h9, g9⟩
              have HL9 := hid h9
              have HB9 := hid (g9.blk HB8.out (fun h => h))
              have HP9 := hid (HP8.out.mono g9.size)
              have HC9 := hid (HC8.out.trans (g9.weaken (fun k _ h => h.elim)))
              have z9 := Nat.le_trans z8 g9.size
              clear h9 g9 HN2
              go_upto_region 25 with fail
              obtain ⟨w10, hw10⟩ : ∃ w10, w9.alloc (Obj.cells #[.int .i64 s2.rev, .int .i64 S, .int .i64 C, .int .i64 H2, .int .i64 s2.nc, .int .i64 s2.used.length, .int .i64 s2.budget, .int .i64 s2.charged, .int .i64 s2.high] 39) = w10 := ⟨_, rfl⟩
              obtain ⟨y2, hy2⟩ : ∃ y, y = w9.heap.size := ⟨_, rfl⟩
              have b10 : Blk w10 y2 39 #[.int .i64 s2.rev, .int .i64 S, .int .i64 C, .int .i64 H2, .int .i64 s2.nc, .int .i64 s2.used.length, .int .i64 s2.budget, .int .i64 s2.charged, .int .i64 s2.high] := by rw [← hw10, hy2]; exact Blk.new w9 39 _
              obtain ⟨l10, g10, p10⟩ := HL9.out.block HP9.out hw10 hy2
              rw [hw10, ← hy2]
              have c10 := g10.blk HB9.out (fun h => h)
              have t1 : w10.cell? ⟨y1, 1, none⟩ = some (.int .i64 S) := by rw [c10.cell]; rfl
              have t2 : w10.cell? ⟨y1, 2, none⟩ = some (.int .i64 C) := by rw [c10.cell]; rfl
              have t3 : w10.cell? ⟨y1, 3, none⟩ = some (.int .i64 H1) := by rw [c10.cell]; rfl
              have v1 : w10.cell? ⟨y2, 1, none⟩ = some (.int .i64 S) := by rw [b10.cell]; rfl
              have v2 : w10.cell? ⟨y2, 2, none⟩ = some (.int .i64 C) := by rw [b10.cell]; rfl
              have v3 : w10.cell? ⟨y2, 3, none⟩ = some (.int .i64 H2) := by rw [b10.cell]; rfl
              have HB10 := hid b10
              have HL10 := hid l10
              have HP10 := hid p10
              have HC10 := hid (HC9.out.trans (g10.weaken (fun k _ h => h.elim)))
              have z10 := Nat.le_trans z9 g10.size
              clear hw10 hy2 b10 l10 g10 p10 c10 HL5 HL6 HL7 HL8 HL9 HC5 HC6 HC7 HC8 HC9 HB7 HB8 HB9 HP7 HP8 HP9
              go_wp2_with fail
              refine (pair_set HL10.out z10 HP10.out (k := -77) (by decide) (s := ⟨#[120]⟩) (by decide) M3.out).mono ?_
              rintro e w11 ⟨rfl, h11, g11⟩
              have HL11 := hid h11
              have HB11 := hid (g11.blk HB10.out (fun h => h.2 (.inr rfl)))
              have HP11 := hid (HP10.out.mono g11.size)
              have HC11 := hid (HC10.out.trans (g11.weaken (fun k _ h => h.1)))
              have z11 := Nat.le_trans z10 g11.size
              clear h11 g11 t1 t2 t3 v1 v2 v3 d2
              go_wp2_with fail
              refine (pair_ask HL11.out z11 HP11.out HKO.out M4.out).mono ?_
              rintro e w12 ⟨rfl, _, h12, g12⟩
              have HL12 := hid h12
              have HB12 := hid (g12.blk HB11.out (fun h => h.2 (.inr rfl)))
              have HP12 := hid (HP11.out.mono g12.size)
              have HC12 := hid (HC11.out.trans (g12.weaken (fun k _ h => h.1)))
              have z12 := Nat.le_trans z11 g12.size
              clear h12 g12
              have hn4 := pair_nums HL12.out
              obtain ⟨S4, hS4⟩ : ∃ S, S = wrap64 s4.steps := ⟨_, rfl⟩
              unfold numsV at hn4
              rw [← hS4] at hn4
              have HN4 := hid hn4
              have HS4 := hid hS4
              clear hn4 hS4
              go_wp2_with fail
              refine HN4.out.mono ?_
              rintro e w13 ⟨rfl, h13, g13⟩
              have HL13 := hid h13
              have HB13 := hid (g13.blk HB12.out (fun h => h))
              have HP13 := hid (HP12.out.mono g13.size)
              have HC13 := hid (HC12.out.trans (g13.weaken (fun k _ h => h.elim)))
              have z13 := Nat.le_trans z12 g13.size
              clear h13 g13 HN4
              go_upto_region 30 with fail
              obtain ⟨w14, hw14⟩ : ∃ w14, w13.alloc (Obj.cells #[.int .i64 s4.rev, .int .i64 S4, .int .i64 (wrap64 s4.checks), .int .i64 (wrap64 s4.hits), .int .i64 s4.nc, .int .i64 s4.used.length, .int .i64 s4.budget, .int .i64 s4.charged, .int .i64 s4.high] 39) = w14 := ⟨_, rfl⟩
              obtain ⟨y3, hy3⟩ : ∃ y, y = w13.heap.size := ⟨_, rfl⟩
              have b14 : Blk w14 y3 39 #[.int .i64 s4.rev, .int .i64 S4, .int .i64 (wrap64 s4.checks), .int .i64 (wrap64 s4.hits), .int .i64 s4.nc, .int .i64 s4.used.length, .int .i64 s4.budget, .int .i64 s4.charged, .int .i64 s4.high] := by rw [← hw14, hy3]; exact Blk.new w13 39 _
              obtain ⟨l14, g14, p14⟩ := HL13.out.block HP13.out hw14 hy3
              rw [hw14, ← hy3]
              have HB14 := hid b14
              have HA14 := hid (g14.blk HB13.out (fun h => h))
              have HL14 := hid l14.swap
              have HC14 := hid (HC13.out.trans (g14.weaken (fun k _ h => h.elim)))
              have HH14 := hid (HH1.out.chg HC14.out (fun k hk h => by omega))
              have HEND := hid (HEND0.out.trans (HC14.out.below hb (fun k hk h => by omega)))
              clear hw14 hy3 b14 l14 g14 p14 HL10 HL11 HL12 HL13 HC10 HC11 HC12 HC13 HB10 HB11 HB12 HB13 HP10 HP11 HP12 HP13 z4 z5 z6 z7 z8 z9 z10 z11 z12 z13
              go_wp2_with fail
              go_loopw [26] (fun i wr => ∃ i' : Nat, i' ≤ rs.length ∧ i = .int .i64 i' ∧ Hid (∀ r ∈ rs.take i', ∀ d ∈ r.l, d ≠ -77) ∧ wr = w14) (fun i _ => rs.length - (intOf i).toNat)
              case atStart => exact ⟨0, by omega, rfl, hid (fun r hr => by simp at hr), rfl⟩
              case round =>
                obtain ⟨i', hi', rfl, hno, rfl⟩ := hrel
                by_cases hil : i' < rs.length
                · obtain ⟨b, off, A', cap', hA, -, f2, f3⟩ := HH14.out i' rs[i'] (List.getElem?_eq_getElem hil)
                  subst hA
                  have hln := HLL.out _ (List.getElem_mem hil)
                  have hokr := (HOK.out _ (List.getElem_mem hil)).2
                  have hno2 : (∀ d ∈ (rs[i']).l, d ≠ -77) → ∀ r ∈ rs.take (i' + 1), ∀ d ∈ r.l, d ≠ -77 := by
                    intro h r hr
                    rw [List.take_succ_eq_append_getElem hil] at hr
                    rcases List.mem_append.1 hr with hr | hr
                    · exact hno.out r hr
                    · rw [List.mem_singleton.1 hr]
                      exact h
                  have HNO2 := hid hno2
                  obtain ⟨r, hr⟩ : ∃ r, r = rs[i'] := ⟨_, rfl⟩
                  rw [← hr] at f2 f3 hln hokr HNO2
                  have HF3 := hid f3
                  have HOKR := hid hokr
                  clear hr hno2 f3 hno hokr
                  obtain ⟨kd, l⟩ := r
                  dsimp only at f2 HF3 hln HOKR HNO2
                  go_wp2_with fail
                  go_loopw [27] (fun jv wr2 => ∃ j' : Nat, j' ≤ l.length ∧ jv = .int .i64 j' ∧ Hid (∀ d ∈ l.take j', d ≠ -77) ∧ wr2 = wr) (fun jv _ => l.length - (intOf jv).toNat)
                  case atStart => exact ⟨0, by omega, rfl, hid (fun d hd => by simp at hd), rfl⟩
                  case round =>
                    obtain ⟨j', hj', rfl, hnd, rfl⟩ := hrel
                    by_cases hjl : j' < l.length
                    · obtain ⟨b', off', rfl, f5⟩ := HF3.out j' l[j'] (List.getElem?_eq_getElem hjl)
                      have f4 := f5 j' l[j'] (List.getElem?_eq_getElem hjl)
                      clear f5
                      have hnd2 : l[j'] ≠ -77 → ∀ d ∈ l.take (j' + 1), d ≠ -77 := by
                        intro h d hd
                        rw [List.take_succ_eq_append_getElem hjl] at hd
                        rcases List.mem_append.1 hd with hd | hd
                        · exact hnd.out d hd
                        · rw [List.mem_singleton.1 hd]
                          exact h
                      have HND2 := hid hnd2
                      obtain ⟨d, hd⟩ : ∃ d, d = l[j'] := ⟨_, rfl⟩
                      rw [← hd] at f4 HND2
                      clear hd hnd2 hnd
                      by_cases h77 : d = -77
                      · have h77b : (d == -77) = true := by rw [h77]; rfl
                        clear h77
                        go_wp2_with fail
                        go_ret
                        exact ⟨rfl, HEND.out⟩
                      · have h77b : (d == -77) = false := by simpa using h77
                        have HN77 := hid (HND2.out h77)
                        clear h77
                        go_wp2_with fail
                        go_roundw
                        case rel => exact ⟨j' + 1, by omega, by go_num, HN77, trivial⟩
                        case measure => simp [intOf]; omega
                    · have hje : j' = l.length := by omega
                      have HALL := hid (HNO2.out (by have := hnd.out; rw [hje, List.take_length] at this; exact this))
                      clear hnd hje
                      go_wp2_with fail
                      go_roundw
                      case rel => exact ⟨i' + 1, by omega, by go_num, HALL, trivial⟩
                      case measure => simp [intOf]; omega
                · have hie : i' = rs.length := by omega
                  have hall := hno.out
                  rw [hie, List.take_length] at hall
                  obtain ⟨hu, hx, p1, p2⟩ := Q8.out hall
                  subst hu
                  subst hx
                  have hS4 : S4 = S := by rw [HS4.out, HS1.out, p1]
                  subst hS4
                  obtain ⟨R2, hR2⟩ : ∃ R, R = s2.rev := ⟨_, rfl⟩
                  have bR : 0 ≤ R2 ∧ R2 ≤ 1000 := by omega
                  have t0 : wr.cell? ⟨y3, 0, none⟩ = some (.int .i64 (R2 + 1)) := by rw [HB14.out.cell, hR2, ← p2]; rfl
                  have t1 : wr.cell? ⟨y3, 1, none⟩ = some (.int .i64 S4) := by rw [HB14.out.cell]; rfl
                  have v0 : wr.cell? ⟨y2, 0, none⟩ = some (.int .i64 R2) := by rw [HA14.out.cell, hR2]; rfl
                  have v1 : wr.cell? ⟨y2, 1, none⟩ = some (.int .i64 S4) := by rw [HA14.out.cell]; rfl
                  have hnz := pair_nums HL14.out
                  unfold numsV at hnz
                  rw [HZ.out.1, HZ.out.2] at hnz
                  have HNZ := hid hnz
                  have hf5 := field5
                  have hf7 := field7
                  clear hnz hno hall hie p1 p2 hR2 q7 bH
                  go_wp2_with fail
                  refine HNZ.out.mono ?_
                  rintro e w15 ⟨rfl, h15, g15⟩
                  have HC15 := hid (HC14.out.trans (g15.weaken (fun k _ h => h.elim)))
                  have hnz := pair_nums h15
                  unfold numsV at hnz
                  rw [HZ.out.1, HZ.out.2] at hnz
                  have HNZ2 := hid hnz
                  clear hnz h15 g15 HNZ t0 t1 v0 v1
                  go_wp2_with fail
                  refine HNZ2.out.mono ?_
                  rintro e w16 ⟨rfl, h16, g16⟩
                  have HC16 := hid (HC15.out.trans (g16.weaken (fun k _ h => h.elim)))
                  clear h16 g16 HNZ2
                  go_wp2_with fail
                  go_ret
                  exact ⟨rfl, HEND0.out.trans (HC16.out.below hb (fun k hk h => by omega))⟩
end Go.Proofs.Ytfkedhclhmbpfaa
