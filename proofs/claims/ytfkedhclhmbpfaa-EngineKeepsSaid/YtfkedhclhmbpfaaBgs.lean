/-
  EngineBudgets' walk.
-/
import Derived.Test.YtfkedhclhmbpfaaPar
import Derived.Test.YtfkedhclhmbpfaaPv
import Derived.Test.YtfkedhclhmbpfaaNil
import Derived.Test.YtfkedhclhmbpfaaOpn
import Derived.LoopTactic
import Derived.BigQuiet
import Derived.Deep.RegionHeld3
import Derived.Deep.DeepCutAuto
import Derived.Deep.CutBlock
namespace Go.Proofs.Ytfkedhclhmbpfaa
open Go.RowKit Go.Maps
set_option linter.unusedVariables false
set_option linter.unusedSimpArgs false

theorem Chg.undrew2 {S : Nat → Prop} {w w' : World} (h : Chg S w.drew w') : Chg S w w' := ⟨h.os, h.tape, h.output, h.size, h.block⟩
theorem ulOf_less {rs : List Rule} {ks : List Int} {m : Nat} (h : farM rs m = false) (hk : ks.length ≤ 1000) : (ulOf rs ks).length ≤ 40000 := by
  obtain ⟨h1, _, h2⟩ := near_of h
  have key : ∀ l : List Rule, (∀ r ∈ l, r.l.length ≤ 4) → (l.flatMap (fun r => r.l)).length ≤ 4 * l.length := by
    intro l
    induction l with
    | nil => intro _; exact Nat.le_refl _
    | cons x r ih =>
      intro hl
      have h1 := ih (fun y hy => hl y (List.mem_cons_of_mem _ hy))
      have h2 := hl x List.mem_cons_self
      rw [List.flatMap_cons, List.length_append, List.length_cons]
      omega
  have := key rs (fun r hr => (h2 r hr).1)
  unfold ulOf
  rw [List.length_append]
  omega

/-- What holds in a round of EngineBudgets. -/
structure BgsR (A : Option Addr) (rs : List Rule) (cap B : Nat) (Ul : List Int) (L M : Lay) (P : Nat → Prop) (w1 w : World) (j : Nat) (a b : St) (cyc : Bool) : Prop where
  bud : BudI rs Ul j a b cyc
  pair : Pair A rs cap B P L M w a b
  chg : Chg (fun k => B ≤ k) w1 w
  big : B ≤ w.heap.size

set_option maxRecDepth 100000 in
set_option maxHeartbeats 8000000 in
theorem budgets_any (A A2 : Option Addr) (rs : List Rule) (acts : List Act) (cap cap2 : Nat) (bud : Int) (w : World) (h : RuleRow w A rs) (ha : ActRow w A2 acts) (hl : rs.length ≤ 9223372036854775807) (hl2 : acts.length ≤ 9223372036854775807) (hll : ∀ r ∈ rs, r.l.length ≤ 9223372036854775807) (hok : ∀ r ∈ rs, ok r.kind ∧ ∀ d ∈ r.l, ok d) (hao : ∀ a ∈ acts, ok a.kind ∧ ok a.k ∧ (Lit.int .u8 a.n).wf = true) (hn : (Lit.int .u8 bud).wf = true) :
    Calls Try.prog 8 #[.slice A rs.length cap, .int .u8 bud, .slice A2 acts.length cap2] w fun e w' => e = .returned (.bool true) ∧ Below w.heap.size w w' := by
  have HH := hid h
  have HA := hid ha
  have HOK := hid hok
  have HAO := hid hao
  have bn := bounds_u8 hn
  have HLL := hid hll
  clear h ha hok hn hll hao
  go_enter Try.func8, Try.ntmps8
  go_wp2_with fail
  refine (alive_any _).mono ?_
  rintro e w1 ⟨rfl, g1⟩
  have HG1 := hid g1
  clear g1
  go_wp2_with fail
  refine (far_any A A2 rs cap acts.length cap2 w1 (HH.out.chg HG1.out (fun _ _ h => h)) hl hl2 HLL.out (fun r hr => (HOK.out r hr).1)).mono ?_
  rintro e w2 ⟨rfl, rfl⟩
  cases hf : farM rs acts.length with
  | true =>
    go_wp2_with fail
    go_ret
    exact ⟨rfl, HG1.out.below (Nat.le_refl _) (fun _ _ h => h)⟩
  | false =>
    have HR := hid ((HH.out.chg HG1.out (fun _ _ h => h)).rules hf HOK.out)
    have HA1 := hid (HA.out.chg HG1.out (fun _ _ h => h))
    obtain ⟨hnear1, hnear2, hnear3⟩ := near_of hf
    have HN := hid hnear3
    obtain ⟨Ul, hUl⟩ : ∃ Ul, Ul = ulOf rs (acts.map fun a => a.k) := ⟨_, rfl⟩
    have HK : Hid (Keys rs Ul) := hid (by rw [hUl]; exact ulOf_keys _ _)
    have HF : Hid (Ul.length ≤ 40000) := hid (by rw [hUl]; exact ulOf_less hf (by simp; omega))
    have HM : Hid (∀ a ∈ acts, a.k ∈ Ul) := hid (by rw [hUl]; exact fun a ha => ulOf_mem (List.mem_map.2 ⟨a, ha, rfl⟩))
    clear hUl hf HH HA HLL hnear3
    go_wp2_with fail
    refine (liv_new (cap := cap) (B := w1.heap.size) (P := fun _ => False) HR.out (Nat.le_refl _) (fun _ h => h.elim) (n := 1048576) (by omega) (by omega)).mono ?_
    rintro e w3 ⟨L, rfl, h3, g3⟩
    have HL3 := hid h3
    have HG3 := hid g3
    clear h3 g3
    go_wp2_with fail
    refine (pair_new (cap := cap) (B := w1.heap.size) (P := fun _ => False) (HR.out.chg (HG3.out.weaken (fun _ _ h => h.elim)) (fun k hk => .inl hk)) HL3.out HG3.out.size (fun _ h => h.elim) (n := bud) (by omega) (by omega)).mono ?_
    rintro e w4 ⟨M, rfl, h4, g4⟩
    have HT : Hid (BgsR A rs cap w1.heap.size Ul L M (fun _ => False) w1 w4 0 (newM 1048576) (newM bud) false) := hid ⟨bud_new HF.out (by omega), h4, (HG3.out.trans g4).weaken (fun _ _ h => h.elim), (HG3.out.trans g4).size⟩
    clear h4 g4 HL3 HG3
    go_wp2_with fail
    go_loopw [11, 12] (fun v i wr => ∃ (j : Nat) (a b : St) (cyc : Bool), j ≤ acts.length ∧ i = .int .i64 j ∧ v = .bool cyc ∧ BgsR A rs cap w1.heap.size Ul L M (fun _ => False) w1 wr j a b cyc) (fun _ i _ => acts.length - (intOf i).toNat)
    case atStart => exact ⟨0, _, _, false, Nat.zero_le _, rfl, rfl, HT.out⟩
    case round =>
      obtain ⟨j, sa, sb, cyc, hj, rfl, rfl, hT⟩ := hrel
      have HT := hid hT
      clear hT
      by_cases hlt : j < acts.length
      · have hmem : acts[j] ∈ acts := List.getElem_mem hlt
        obtain ⟨b, off, rfl, c0, c1, c2⟩ := HA1.out j acts[j] (List.getElem?_eq_getElem hlt)
        have hka := HM.out _ hmem
        have hoa := HAO.out _ hmem
        obtain ⟨a, hae⟩ : ∃ a, a = acts[j] := ⟨_, rfl⟩
        rw [← hae] at c0 c1 c2 hka hoa
        have hbl : b < w1.heap.size := lt_of_cell c0
        have c0 := HT.out.chg.cell c0 (by show ¬ w1.heap.size ≤ b; omega)
        have c1 := HT.out.chg.cell c1 (by show ¬ w1.heap.size ≤ b; omega)
        have c2 := HT.out.chg.cell c2 (by show ¬ w1.heap.size ≤ b; omega)
        obtain ⟨kd, kk, n⟩ := a
        dsimp only at c0 c1 c2 hka hoa
        have bnn := bounds_u8 hoa.2.2
        have HKA := hid hka
        have HOA := hid hoa
        clear hae hmem hka hoa
        go_upto_block 1 with fail
        go_cut [11] (fun v11 wx => ∃ (a b : St) (cyc' : Bool), v11 = .bool cyc' ∧ BgsR A rs cap w1.heap.size Ul L M (fun _ => False) w1 wx (j + 1) a b cyc')
        case first =>
          go_upto_block 2 with fail
          obtain ⟨w5, hw5⟩ : ∃ w5, wr.alloc (Obj.cells #[Value.int IntKind.i64 kd, Value.int IntKind.i64 kk, Value.int IntKind.u8 n] 33) = w5 := ⟨_, rfl⟩
          obtain ⟨y, hy⟩ : ∃ y, y = wr.heap.size := ⟨_, rfl⟩
          have b5 : Blk w5 y 33 #[Value.int IntKind.i64 kd, Value.int IntKind.i64 kk, Value.int IntKind.u8 n] := by rw [← hw5, hy]; exact Blk.new wr 33 _
          obtain ⟨l5, g5, p5⟩ := HT.out.pair.block (fun _ h => h.elim) hw5 hy
          rw [hw5, ← hy]
          have e0 : w5.cell? ⟨y, 0, none⟩ = some (.int .i64 kd) := by rw [b5.cell]; rfl
          have e1 : w5.cell? ⟨y, 1, none⟩ = some (.int .i64 kk) := by rw [b5.cell]; rfl
          have e2 : w5.cell? ⟨y, 2, none⟩ = some (.int .u8 n) := by rw [b5.cell]; rfl
          have HL5 := hid l5
          have HP5 := hid p5
          have HC5 := hid (HT.out.chg.trans (g5.weaken (fun _ _ h => h.elim)))
          have z5 := Nat.le_trans HT.out.big g5.size
          clear hw5 hy b5 g5 l5 p5 c0 c1 c2
          by_cases k0 : kd = 0
          · have k0b : (kd == 0) = true := by rw [k0]; rfl
            obtain ⟨a', b', m1, m2, hb⟩ := bud_set HT.out.bud (by omega) kk (valueM n)
            have M1 := hid m1
            have M2 := hid m2
            have HB := hid hb
            clear m1 m2 hb k0
            have hwr : IntKind.i64.wrap n = n := by rw [IntKind.wrap_i64]; omega
            go_upto_region 14 with fail
            go_region_held3 (fun w' : World => w'.cell? ⟨y, 1, none⟩ = some (.int .i64 kk) ∧ w'.cell? ⟨y, 2, none⟩ = some (.int .u8 n)) (first | exact ⟨e1, e2⟩ | exact ⟨q5, q6⟩ | exact ⟨q7, q8⟩)
              (first
              | (go_at_call 13; refine (value_is n _ ?_).mono ?_; (· omega); rintro e w6 ⟨rfl, g6'⟩; have g6 := Chg.undrew2 g6'; clear g6'; have q5 := g6.cell e1 (fun h => h); have q6 := g6.cell e2 (fun h => h))
              | (go_at_call 12; refine (pair_set (a' := a') (HL5.out.mono g6) ?_ ?_ HOA.out.2.1 ?_ M1.out).mono ?_; (· exact Nat.le_trans z5 g6.size); (· exact HP5.out.mono g6.size); (· have := valueM_size n; omega); rintro e w7 ⟨rfl, hl7, g7⟩; have q7 := g7.cell q5 (fun h => h.2 (.inr rfl)); have q8 := g7.cell q6 (fun h => h.2 (.inr rfl))))
            have HL7 := hid hl7
            have HC7 := hid ((HC5.out.trans (g6.weaken (fun _ _ h => False.elim h))).trans (g7.weaken (fun k _ h => h.1)))
            have HP7 := hid ((HP5.out.mono g6.size).mono g7.size)
            have z7 := Nat.le_trans (Nat.le_trans z5 g6.size) g7.size
            clear hl7 g6 g7 q5 q6 e0 e1 e2
            go_upto_region 15 with fail
            go_region_held3 (fun w' : World => w'.cell? ⟨y, 1, none⟩ = some (.int .i64 kk) ∧ w'.cell? ⟨y, 2, none⟩ = some (.int .u8 n)) (first | exact ⟨q7, q8⟩ | exact ⟨q5, q6⟩ | exact ⟨q9, q10⟩)
              (first
              | (go_at_call 13; refine (value_is n _ ?_).mono ?_; (· omega); rintro e w8 ⟨rfl, g8'⟩; have g8 := Chg.undrew2 g8'; clear g8'; have q5 := g8.cell q7 (fun h => h); have q6 := g8.cell q8 (fun h => h))
              | (go_at_call 12; refine (pair_set (a' := b') (HL7.out.swap.mono g8) ?_ ?_ HOA.out.2.1 ?_ M2.out).mono ?_; (· exact Nat.le_trans z7 g8.size); (· exact HP7.out.mono g8.size); (· have := valueM_size n; omega); rintro e w9 ⟨rfl, hl9, g9⟩; have q9 := g9.cell q5 (fun h => h.2 (.inr rfl)); have q10 := g9.cell q6 (fun h => h.2 (.inr rfl))))
            have HL9 := hid (hl9.swap)
            have HC9 := hid ((HC7.out.trans (g8.weaken (fun _ _ h => False.elim h))).trans (g9.weaken (fun k _ h => h.1)))
            have z9 := Nat.le_trans (Nat.le_trans z7 g8.size) g9.size
            clear hl9 g8 g9 q5 q6 q7 q8 q9 q10
            go_wp2_with fail
            go_meet
            exact ⟨a', b', cyc, rfl, HB.out, HL9.out.more (fun _ h => h.elim), HC9.out, z9⟩
          · have k0b : (kd == 0) = false := by simpa using k0
            by_cases k1 : kd = 1
            · have k1b : (kd == 1) = true := by rw [k1]; rfl
              obtain ⟨a', b', s, er, m1, m2, he, hb⟩ := bud_ask HK.out (fun r hr => (HN.out r hr).1) hnear1 HT.out.bud HKA.out
              have M1 := hid m1
              have M2 := hid m2
              clear m1 m2 k0 k1
              go_wp2_with fail
              refine (pair_ask HL5.out z5 HP5.out HOA.out.2.1 M1.out).mono ?_
              rintro e w6 ⟨rfl, _, h6, g6⟩
              have q1 := g6.cell e1 (fun h => h.2 (.inr rfl))
              have HL6 := hid h6.swap
              have HC6 := hid (HC5.out.trans (g6.weaken (fun k _ h => h.1)))
              have HP6 := hid (HP5.out.mono g6.size)
              have z6 := Nat.le_trans z5 g6.size
              clear h6 g6
              go_wp2_with fail
              refine (pair_ask HL6.out z6 HP6.out HOA.out.2.1 M2.out).mono ?_
              rintro e w7 ⟨rfl, _, h7, g7⟩
              have HL7 := hid h7.swap
              have HC7 := hid (HC6.out.trans (g7.weaken (fun k _ h => h.1)))
              have z7 := Nat.le_trans z6 g7.size
              clear h7 g7
              rcases he with rfl | rfl
              · have HB : Hid (BudI rs Ul (j + 1) a' b' cyc) := hid (by simpa using hb)
                clear hb
                cases cyc with
                | true =>
                  go_wp2_with fail
                  go_meet
                  exact ⟨a', b', true, rfl, HB.out, HL7.out.more (fun _ h => h.elim), HC7.out, z7⟩
                | false =>
                  go_wp2_with fail
                  go_meet
                  exact ⟨a', b', false, rfl, HB.out, HL7.out.more (fun _ h => h.elim), HC7.out, z7⟩
              · have HB : Hid (BudI rs Ul (j + 1) a' b' true) := hid (by simpa using hb)
                clear hb
                cases cyc with
                | true =>
                  go_wp2_with fail
                  go_meet
                  exact ⟨a', b', true, rfl, HB.out, HL7.out.more (fun _ h => h.elim), HC7.out, z7⟩
                | false =>
                  go_wp2_with fail
                  go_meet
                  exact ⟨a', b', true, rfl, HB.out, HL7.out.more (fun _ h => h.elim), HC7.out, z7⟩
            · have k1b : (kd == 1) = false := by simpa using k1
              by_cases k2 : kd = 2
              · have k2b : (kd == 2) = true := by rw [k2]; rfl
                obtain ⟨b', m1, m2, m3, m4, m5, m6⟩ := top_budget HT.out.bud.fb (n := n) (by omega)
                have M1 := hid m1
                have HB := hid ((bud_same HT.out.bud m2 m3 m5).mono (Nat.le_succ j))
                clear m1 m2 m3 m4 m5 m6 k2 k1 k0
                go_wp2_with fail
                refine (pair_budget HL5.out.swap z5 HP5.out (n := n) (by omega) (by omega) M1.out).mono ?_
                rintro e w6 ⟨rfl, h6, g6⟩
                have HL6 := hid h6.swap
                have HC6 := hid (HC5.out.trans (g6.weaken (fun k _ h => h.1)))
                have z6 := Nat.le_trans z5 g6.size
                clear h6 g6
                go_wp2_with fail
                go_meet
                exact ⟨_, b', cyc, rfl, HB.out, HL6.out.more (fun _ h => h.elim), HC6.out, z6⟩
              · have k2b : (kd == 2) = false := by simpa using k2
                by_cases k3 : kd = 3
                · have k3b : (kd == 3) = true := by rw [k3]; rfl
                  obtain ⟨b', m1, m2, m3, m4, m5, m6, m7, m8⟩ := top_forget HT.out.bud.fb
                  have M1 := hid m1
                  have HB := hid ((bud_same HT.out.bud m2 m3 m5).mono (Nat.le_succ j))
                  clear m1 m2 m3 m4 m5 m6 m7 m8 k3 k2 k1 k0
                  go_wp2_with fail
                  refine (pair_forget HL5.out.swap z5 HP5.out M1.out).mono ?_
                  rintro e w6 ⟨rfl, h6, g6⟩
                  have HL6 := hid h6.swap
                  have HC6 := hid (HC5.out.trans (g6.weaken (fun k _ h => h.1)))
                  have z6 := Nat.le_trans z5 g6.size
                  clear h6 g6
                  go_wp2_with fail
                  go_meet
                  exact ⟨_, b', cyc, rfl, HB.out, HL6.out.more (fun _ h => h.elim), HC6.out, z6⟩
                · have k3b : (kd == 3) = false := by simpa using k3
                  clear k3 k2 k1 k0
                  go_wp2_with fail
                  go_meet
                  exact ⟨_, _, cyc, rfl, HT.out.bud.mono (Nat.le_succ j), HL5.out.more (fun _ h => h.elim), HC5.out, z5⟩
        case rest =>
          obtain ⟨a', b', cyc', rfl, hm⟩ := hcut
          have HM5 := hid hm
          clear hm
          go_wp2_with fail
          go_roundw
          case rel => exact ⟨j + 1, a', b', cyc', by omega, by go_num, rfl, HM5.out⟩
          case measure => simp [intOf]; omega
      · obtain ⟨hrv, hsm, hwa, hwb, hfull, hle⟩ := bud_end HT.out.bud (by omega)
        have n1 := pair_nums HT.out.pair
        unfold numsV at n1
        rw [show wrap64 sa.steps = sa.steps by unfold wrap64; omega, hfull] at n1
        have N1 := hid n1
        have HC := hid HT.out.chg
        have HSM := hid hsm
        have HU := hid hle
        obtain ⟨x1, hx1⟩ : ∃ x, x = sa.steps := ⟨_, rfl⟩
        obtain ⟨x2, hx2⟩ : ∃ x, x = sb.steps := ⟨_, rfl⟩
        clear n1 hsm hle
        go_wp2_with fail
        refine N1.out.mono ?_
        rintro e w5 ⟨rfl, h5, g5⟩
        have n2 := pair_nums h5.swap
        unfold numsV at n2
        rw [show wrap64 sb.steps = sb.steps by unfold wrap64; omega, hrv] at n2
        have N2 := hid n2
        have HC5 := hid (HC.out.trans (g5.weaken (fun k _ h => h.elim)))
        clear n2 h5 g5 N1
        go_wp2_with fail
        refine N2.out.mono ?_
        rintro e w6 ⟨rfl, h6, g6⟩
        have HC6 := hid (HC5.out.trans (g6.weaken (fun k _ h => h.elim)))
        clear h6 g6 N2
        go_upto_region 27 with fail
        obtain ⟨w7, hw7⟩ : ∃ w7, (w6.alloc (Obj.cells #[Value.int IntKind.i64 sa.rev, Value.int IntKind.i64 sa.steps, Value.int IntKind.i64 (wrap64 sa.checks), Value.int IntKind.i64 (wrap64 sa.hits), Value.int IntKind.i64 sa.nc, Value.int IntKind.i64 sa.nc, Value.int IntKind.i64 sa.budget, Value.int IntKind.i64 sa.charged, Value.int IntKind.i64 sa.high] 39)).alloc (Obj.cells #[Value.int IntKind.i64 sa.rev, Value.int IntKind.i64 sb.steps, Value.int IntKind.i64 (wrap64 sb.checks), Value.int IntKind.i64 (wrap64 sb.hits), Value.int IntKind.i64 sb.nc, Value.int IntKind.i64 sb.used.length, Value.int IntKind.i64 sb.budget, Value.int IntKind.i64 sb.charged, Value.int IntKind.i64 sb.high] 39) = w7 := ⟨_, rfl⟩
        have b1 : Blk w7 w6.heap.size 39 #[Value.int IntKind.i64 sa.rev, Value.int IntKind.i64 sa.steps, Value.int IntKind.i64 (wrap64 sa.checks), Value.int IntKind.i64 (wrap64 sa.hits), Value.int IntKind.i64 sa.nc, Value.int IntKind.i64 sa.nc, Value.int IntKind.i64 sa.budget, Value.int IntKind.i64 sa.charged, Value.int IntKind.i64 sa.high] := by rw [← hw7]; exact (Blk.new w6 39 _).alloc _
        have b2 : Blk w7 (w6.heap.size + 1) 39 #[Value.int IntKind.i64 sa.rev, Value.int IntKind.i64 sb.steps, Value.int IntKind.i64 (wrap64 sb.checks), Value.int IntKind.i64 (wrap64 sb.hits), Value.int IntKind.i64 sb.nc, Value.int IntKind.i64 sb.used.length, Value.int IntKind.i64 sb.budget, Value.int IntKind.i64 sb.charged, Value.int IntKind.i64 sb.high] := by
          rw [← hw7]
          have := Blk.new (w6.alloc (Obj.cells #[Value.int IntKind.i64 sa.rev, Value.int IntKind.i64 sa.steps, Value.int IntKind.i64 (wrap64 sa.checks), Value.int IntKind.i64 (wrap64 sa.hits), Value.int IntKind.i64 sa.nc, Value.int IntKind.i64 sa.nc, Value.int IntKind.i64 sa.budget, Value.int IntKind.i64 sa.charged, Value.int IntKind.i64 sa.high] 39)) 39 #[Value.int IntKind.i64 sa.rev, Value.int IntKind.i64 sb.steps, Value.int IntKind.i64 (wrap64 sb.checks), Value.int IntKind.i64 (wrap64 sb.hits), Value.int IntKind.i64 sb.nc, Value.int IntKind.i64 sb.used.length, Value.int IntKind.i64 sb.budget, Value.int IntKind.i64 sb.charged, Value.int IntKind.i64 sb.high]
          rw [World.size_alloc] at this
          exact this
        have g7 : Chg (fun _ => False) w6 w7 := by rw [← hw7]; exact ((Chg.refl _ _).alloc _).alloc _
        rw [hw7]
        obtain ⟨y1, hy1⟩ : ∃ y, y = w6.heap.size := ⟨_, rfl⟩
        obtain ⟨y2, hy2⟩ : ∃ y, y = w6.heap.size + 1 := ⟨_, rfl⟩
        rw [← hy2] at b2 ⊢
        rw [← hy1] at b1 ⊢
        obtain ⟨xr, hxr⟩ : ∃ x, x = sa.rev := ⟨_, rfl⟩
        obtain ⟨xn, hxn⟩ : ∃ x : Int, x = sa.nc := ⟨_, rfl⟩
        obtain ⟨xm, hxm⟩ : ∃ x : Int, x = sb.nc := ⟨_, rfl⟩
        obtain ⟨xu, hxu⟩ : ∃ x : Int, x = sb.used.length := ⟨_, rfl⟩
        have t0 : w7.cell? ⟨y1, 0, none⟩ = some (.int .i64 xr) := by rw [b1.cell, hxr]; rfl
        have t1 : w7.cell? ⟨y1, 1, none⟩ = some (.int .i64 x1) := by rw [b1.cell, hx1]; rfl
        have t4 : w7.cell? ⟨y1, 4, none⟩ = some (.int .i64 xn) := by rw [b1.cell, hxn]; rfl
        have t5 : w7.cell? ⟨y1, 5, none⟩ = some (.int .i64 xn) := by rw [b1.cell, hxn]; rfl
        have v0 : w7.cell? ⟨y2, 0, none⟩ = some (.int .i64 xr) := by rw [b2.cell, hxr]; rfl
        have v1 : w7.cell? ⟨y2, 1, none⟩ = some (.int .i64 x2) := by rw [b2.cell, hx2]; rfl
        have v4 : w7.cell? ⟨y2, 4, none⟩ = some (.int .i64 xm) := by rw [b2.cell, hxm]; rfl
        have v5 : w7.cell? ⟨y2, 5, none⟩ = some (.int .i64 xu) := by rw [b2.cell, hxu]; rfl
        have d1 : decide (xu ≤ xm) = true := by have := HU.out; simp; omega
        have HC7 := hid (HC6.out.trans (g7.weaken (fun k _ h => h.elim)))
        have hsim : cyc = false → xm = xn ∧ x1 ≤ x2 := fun h => by have := HSM.out h; omega
        have hb := HG1.out.size
        clear hw7 b1 b2 g7 hy1 hy2 hxr hxn hxm hxu hx1 hx2 hfull hrv hwa hwb HSM HU
        cases cyc with
        | true =>
          clear hsim
          go_wp2_with fail
          go_ret
          exact ⟨rfl, (HG1.out.below (Nat.le_refl _) (fun _ _ h => h)).trans (HC7.out.below hb (fun k hk h => by omega))⟩
        | false =>
          obtain ⟨rfl, h12⟩ := hsim rfl
          have d2 : decide (x1 ≤ x2) = true := by simpa using h12
          clear hsim h12
          go_wp2_with fail
          go_ret
          exact ⟨rfl, (HG1.out.below (Nat.le_refl _) (fun _ _ h => h)).trans (HC7.out.below hb (fun k hk h => by omega))⟩
end Go.Proofs.Ytfkedhclhmbpfaa
