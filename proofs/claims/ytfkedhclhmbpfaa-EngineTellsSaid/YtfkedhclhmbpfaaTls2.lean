/-
  EngineTells' walk.
-/
import Derived.Test.YtfkedhclhmbpfaaTlt
import Derived.Test.YtfkedhclhmbpfaaNil
import Derived.LoopTactic
import Derived.BigQuiet
import Derived.Deep.RegionHeld3
import Derived.Deep.DeepCutAuto
import Derived.Deep.CutBlock
namespace Go.Proofs.Ytfkedhclhmbpfaa
open Go.RowKit Go.Maps
set_option linter.unusedVariables false
set_option linter.unusedSimpArgs false

/-- What holds in a round of EngineTells: of the engine, and of the list of inputs (v). -/
structure TlsR (A : Option Addr) (rs : List Rule) (cap B : Nat) (Ul : List Int) (L : Lay) (w1 w : World) (j : Nat) (v : Value) (st : St) (ins : List (Int × Int)) : Prop where
  liv : Liv A rs cap B (fun k => v.ownBlock = some k) L w st
  fine : Fine rs Ul st
  inp : st.inp = inpOf ins
  row : w.ownsRow B 48 2 v ins.length (insV ins)
  rev : st.rev ≤ j
  len : ins.length ≤ j
  small : ∀ x ∈ ins, 0 ≤ x.2 ∧ x.2 ≤ 255
  bud : st.budget ≤ 255 ∧ 0 ≤ st.budget
  chg : Chg (fun k => B ≤ k) w1 w
  big : B ≤ w.heap.size


theorem Liv.chgP {A : Option Addr} {rs : List Rule} {cap B : Nat} {P P' : Nat → Prop} {L : Lay} {w w' : World} {st : St} {S : Nat → Prop} (h : Liv A rs cap B P L w st) (hc : Chg S w w') (hs : ∀ k, S k → P k) (hR : RulesAt w' (fun k => B ≤ k) A rs) (hp : ∀ k, P' k → P k ∨ w.heap.size ≤ k) : Liv A rs cap B P' L w' st := by
  obtain ⟨p, h1, h2, h3⟩ := h
  refine ⟨p, h1.chg hc (fun k hk hs' => (h3 k hk).2 (hs k hs')), hR.sub (fun k hk => (h3 k hk).1), fun k hk => ⟨(h3 k hk).1, fun hh => ?_⟩⟩
  rcases hp k hh with h | h
  · exact (h3 k hk).2 h
  · have := h1.lt k hk
    omega
theorem Chg.undrew {S : Nat → Prop} {w w' : World} (h : Chg S w.drew w') : Chg S w w' := ⟨h.os, h.tape, h.output, h.size, h.block⟩
theorem news2 (w : World) (n : Nat) (x y : Value) (t : TypeId) (hz : w.heap.size = n) : ∀ j u, [x, y][j]? = some u → (w.alloc (.cells #[x, y] t)).cell? ((⟨n, 0, none⟩ : Addr).add j) = some u := by
  subst hz
  intro j u hj
  match j, hj with
  | 0, hj => simp at hj; subst hj; simp [Addr.add]
  | 1, hj => simp at hj; subst hj; simp [Addr.add]
theorem info48 : (Try.prog.info? 48).map (fun i => (i.zero, i.size, i.bytes)) = some (some (.agg #[.int .i64 0, .int .u8 0]), 2, 16) := by kernel_rfl

/-- .. behind the switch of the round. -/
structure MidR (A : Option Addr) (rs : List Rule) (cap B : Nat) (Ul : List Int) (L : Lay) (w1 wx : World) (j y : Nat) (kd kk n : Int) (v : Value) (st : St) (ins : List (Int × Int)) : Prop where
  liv : Liv A rs cap B (fun k => v.ownBlock = some k ∨ k = y) L wx st
  fine : Fine rs Ul st
  inp : st.inp = inpOf ins
  row : wx.ownsRow B 48 2 v ins.length (insV ins)
  rev : st.rev ≤ j + 1
  len : ins.length ≤ j + 1
  small : ∀ x ∈ ins, 0 ≤ x.2 ∧ x.2 ≤ 255
  bud : st.budget ≤ 255 ∧ 0 ≤ st.budget
  chg : Chg (fun k => B ≤ k) w1 wx
  big : B ≤ wx.heap.size
  blk : Blk wx y 33 #[.int .i64 kd, .int .i64 kk, .int .u8 n]
  k2 : kd = 2 → st.budget = n
  k3 : kd = 3 → st.used = [] ∧ st.charged = 0

set_option maxRecDepth 100000 in
set_option maxHeartbeats 8000000 in
theorem tells_any (A A2 : Option Addr) (rs : List Rule) (acts : List Act) (cap cap2 : Nat) (bud : Int) (w : World) (h : RuleRow w A rs) (ha : ActRow w A2 acts) (hl : rs.length ≤ 9223372036854775807) (hl2 : acts.length ≤ 9223372036854775807) (hll : ∀ r ∈ rs, r.l.length ≤ 9223372036854775807) (hok : ∀ r ∈ rs, ok r.kind ∧ ∀ d ∈ r.l, ok d) (hao : ∀ a ∈ acts, ok a.kind ∧ ok a.k ∧ (Lit.int .u8 a.n).wf = true) (hn : (Lit.int .u8 bud).wf = true) :
    Calls Try.prog 6 #[.slice A rs.length cap, .int .u8 bud, .slice A2 acts.length cap2] w fun e w' => e = .returned (.bool true) ∧ Below w.heap.size w w' := by
  have HH := hid h
  have HA := hid ha
  have HOK := hid hok
  have HAO := hid hao
  have bn := bounds_u8 hn
  have HLL := hid hll
  obtain ⟨i0, hi0, hz0, hz1, hz2⟩ := info_parts info48
  clear h ha hok hn hll hao
  go_enter Try.func6, Try.ntmps6
  go_wp2_with fail
  refine (alive_any _).mono ?_
  rintro e w1 ⟨rfl, g1⟩
  have HG1 := hid g1
  clear g1
  go_wp2_with fail
  refine (far_any A A2 rs cap acts.length cap2 w1 (HH.out.chg HG1.out (fun _ _ h => h)) hl hl2 HLL.out (fun r hr => (HOK.out r hr).1)).mono ?_
  rintro e w2 ⟨rfl, rfl⟩
  cases hf : farM rs acts.length with
  | true =>
    go_wp2_with fail
    go_ret
    exact ⟨rfl, HG1.out.below (Nat.le_refl _) (fun _ _ h => h)⟩
  | false =>
    have HR := hid ((HH.out.chg HG1.out (fun _ _ h => h)).rules hf HOK.out)
    have HH1 := hid (HH.out.chg HG1.out (fun _ _ h => h))
    have HA1 := hid (HA.out.chg HG1.out (fun _ _ h => h))
    obtain ⟨hnear1, hnear2, hnear3⟩ := near_of hf
    have HN := hid hnear3
    obtain ⟨Ul, hUl⟩ : ∃ Ul, Ul = ulOf rs (acts.map fun a => a.k) := ⟨_, rfl⟩
    have HK : Hid (Keys rs Ul) := hid (by rw [hUl]; exact ulOf_keys _ _)
    have HF : Hid (Ul.length ≤ 90000) := hid (by rw [hUl]; exact ulOf_few hf (by simp; omega))
    have HM : Hid (∀ a ∈ acts, a.k ∈ Ul) := hid (by rw [hUl]; exact fun a ha => ulOf_mem (List.mem_map.2 ⟨a, ha, rfl⟩))
    clear hUl hf HH HA HLL hnear3
    go_wp2_with fail
    refine (liv_new (cap := cap) (B := w1.heap.size) (P := fun _ => False) HR.out (Nat.le_refl _) (fun _ h => h.elim) (n := bud) (by omega) (by omega)).mono ?_
    rintro e w3 ⟨L, rfl, h3, g3⟩
    have HT : Hid (TlsR A rs cap w1.heap.size Ul L w1 w3 0 (.slice none 0 0) (newM bud) []) := hid ⟨h3.more (fun k hk => by simp [Value.ownBlock] at hk), new_fine HF.out (by omega), rfl, World.ownsRow_nil w3 w1.heap.size 48 2, Int.le_refl 0, Nat.le_refl 0, (fun x hx => by cases hx), ⟨by show bud ≤ 255; omega, by show 0 ≤ bud; omega⟩, g3.weaken (fun _ _ h => h.elim), g3.size⟩
    clear h3 g3
    go_wp2_with fail
    go_loopw [9, 10] (fun v i wr => ∃ (j : Nat) (st : St) (ins : List (Int × Int)), j ≤ acts.length ∧ i = .int .i64 j ∧ TlsR A rs cap w1.heap.size Ul L w1 wr j v st ins) (fun _ i _ => acts.length - (intOf i).toNat)
    case atStart => exact ⟨0, newM bud, [], Nat.zero_le _, rfl, HT.out⟩
    case round =>
      obtain ⟨j, st, ins, hj, rfl, hT⟩ := hrel
      have HT := hid hT
      clear hT
      by_cases hlt : j < acts.length
      · have hmem : acts[j] ∈ acts := List.getElem_mem hlt
        obtain ⟨b, off, rfl, c0, c1, c2⟩ := HA1.out j acts[j] (List.getElem?_eq_getElem hlt)
        have hka := HM.out _ hmem
        have hoa := HAO.out _ hmem
        obtain ⟨a, hae⟩ : ∃ a, a = acts[j] := ⟨_, rfl⟩
        rw [← hae] at c0 c1 c2 hka hoa
        have hbl : b < w1.heap.size := lt_of_cell c0
        have c0 := HT.out.chg.cell c0 (by show ¬ w1.heap.size ≤ b; omega)
        have c1 := HT.out.chg.cell c1 (by show ¬ w1.heap.size ≤ b; omega)
        have c2 := HT.out.chg.cell c2 (by show ¬ w1.heap.size ≤ b; omega)
        obtain ⟨kd, kk, n⟩ := a
        dsimp only at c0 c1 c2 hka hoa
        have bnn := bounds_u8 hoa.2.2
        have HKA := hid hka
        have HOA := hid hoa
        clear hae hmem hka hoa
        go_upto_block 2 with fail
        obtain ⟨w4, hw4⟩ : ∃ w4, wr.alloc (Obj.cells #[Value.int IntKind.i64 kd, Value.int IntKind.i64 kk, Value.int IntKind.u8 n] 33) = w4 := ⟨_, rfl⟩
        obtain ⟨y, hy⟩ : ∃ y, y = wr.heap.size := ⟨_, rfl⟩
        have b4 : Blk w4 y 33 #[Value.int IntKind.i64 kd, Value.int IntKind.i64 kk, Value.int IntKind.u8 n] := by rw [← hw4, hy]; exact Blk.new wr 33 _
        have g4 : Chg (fun _ => False) wr w4 := by rw [← hw4]; exact (Chg.refl _ _).alloc _
        have HL4 := hid ((HT.out.liv.more (P' := fun k => u9.ownBlock = some k ∨ k = y) (fun k hk => by
          rcases hk with hk | hk
          · exact .inl hk
          · exact .inr (by omega))).mono g4)
        have HR4 := hid (own_chg HT.out.row g4 (fun _ _ h => h))
        have hbig : w1.heap.size ≤ w4.heap.size := Nat.le_trans HT.out.big g4.size
        have hyb : w1.heap.size ≤ y := by rw [hy]; exact HT.out.big
        have hlie : Lie (fun k => u9.ownBlock = some k ∨ k = y) w4 := fun k hk => by
          rcases hk with hk | hk
          · exact (HR4.out.lt k hk).2
          · subst hk; exact b4.lt
        have hyn : u9.ownBlock ≠ some y := fun e => own_ne_b HR4.out b4 (by omega) y e rfl
        rw [hw4, ← hy]
        have e0 : w4.cell? ⟨y, 0, none⟩ = some (.int .i64 kd) := by rw [b4.cell]; rfl
        have e1 : w4.cell? ⟨y, 1, none⟩ = some (.int .i64 kk) := by rw [b4.cell]; rfl
        have e2 : w4.cell? ⟨y, 2, none⟩ = some (.int .u8 n) := by rw [b4.cell]; rfl
        have HB4 := hid b4
        have HLIE := hid hlie
        have HYN := hid hyn
        have HC4 := hid (HT.out.chg.trans (g4.weaken (fun _ _ h => h.elim)))
        clear hw4 hy b4 g4 hlie hyn c0 c1 c2
        go_cut [9] (fun v9 wx => ∃ (st' : St) (ins' : List (Int × Int)), MidR A rs cap w1.heap.size Ul L w1 wx j y kd kk n v9 st' ins')
        case first =>
          by_cases k0 : kd = 0
          · have k0b : (kd == 0) = true := by rw [k0]; rfl
            have HK0 := hid k0
            clear k0
            obtain ⟨st', m1, m2, m3, m4, m5⟩ := set_inp HT.out.fine HT.out.inp kk n (by have := HT.out.rev; omega)
            have M1 := hid m1
            have HT' : Hid (Fine rs Ul st' ∧ st'.budget = st.budget ∧ st'.rev ≤ st.rev + 1 ∧ st'.inp = inpOf (ins ++ [(kk, n)])) := hid ⟨m2, m3, m4, m5⟩
            clear m1 m2 m3 m4 m5
            go_upto_region 15 with fail
            have hwr : IntKind.i64.wrap n = n := by rw [IntKind.wrap_i64]; omega
            go_region_held3 (fun w' : World => w'.cell? ⟨y, 1, none⟩ = some (.int .i64 kk) ∧ w'.cell? ⟨y, 2, none⟩ = some (.int .u8 n)) (first | exact ⟨e1, e2⟩ | exact ⟨q5, q6⟩ | exact ⟨q7, q8⟩)
              (first
              | (go_at_call 13; refine (value_is n _ ?_).mono ?_; (· omega); rintro e w5 ⟨rfl, g5'⟩; have g5 := Chg.undrew g5'; clear g5'; have q5 := g5.cell e1 (fun h => h); have q6 := g5.cell e2 (fun h => h))
              | (go_at_call 12; refine (liv_set (st' := st') (HL4.out.mono g5) ?_ ?_ HOA.out.2.1 ?_ M1.out).mono ?_; (· exact Nat.le_trans hbig g5.size); (· exact HLIE.out.mono g5.size); (· have := valueM_size n; omega); rintro e w6 ⟨rfl, hl6, g6⟩; have q7 := g6.cell q5 (fun h => h.2 (.inr rfl)); have q8 := g6.cell q6 (fun h => h.2 (.inr rfl))))
            have HL6 := hid hl6
            have HG6 : Hid (Chg (fun k => w1.heap.size ≤ k ∧ ¬ (u9.ownBlock = some k ∨ k = y)) w4 w6) := hid ((g5.weaken (fun _ _ h => False.elim h)).trans g6)
            have HR6 := hid (own_chg HR4.out HG6.out (fun g hg h => h.2 (.inl hg)))
            have HB6 := hid (HG6.out.blk HB4.out (fun h => h.2 (.inr rfl)))
            have hz6 : w1.heap.size ≤ w6.heap.size := Nat.le_trans hbig HG6.out.size
            have hlen := HT.out.len
            clear hl6 g5 g6 q5 q6
            go_wp2_with (first
              | (at_builtin
                 refine wpList_append_own_at _ rfl (.tmp 55) (.tmp 61) 46 rfl w1.heap.size 48 i0 (.agg #[.int .i64 0, .int .u8 0]) 2 16 Try.underlying46 hi0 hz0 hz1 hz2 rfl (by decide) u9 ins.length (insV ins) rfl (own_chg HR6.out ((Chg.refl (fun _ => False) _).alloc _) (fun _ _ h => h)) ⟨w6.heap.size, 0, none⟩ 1 1 [.int .i64 kk, .int .u8 n] rfl rfl (news2 _ _ _ _ _ rfl) (by simp [Value.oneCell']) (by unfold maxLen; omega) (by omega) (by simp; omega) ?_
                 intro v' w7 hown1 hgrow hnil hat
                 have hm7 : MidR A rs cap w1.heap.size Ul L w1 w7 j y kd kk n v' st' (ins ++ [(kk, n)]) := by
                   have g7 : Chg (fun k => u9.ownBlock = some k) w6 w7 := ((Chg.refl _ _).alloc _).trans ((chg_of_grown hgrow).weaken (fun k _ e => e.symm))
                   have c7 : Chg (fun k => w1.heap.size ≤ k) w1 w7 := (HC4.out.trans (HG6.out.weaken (fun k _ h => h.1))).trans (g7.weaken (fun k _ h => (HR6.out.lt k h).1))
                   refine ⟨HL6.out.chgP g7 (fun k hk => .inl hk) (HR.out.chg c7 (fun k hk => .inl hk)) (fun k hk => ?_), HT'.out.1, HT'.out.2.2.2, ?_, ?_, ?_, ?_, ?_, c7, Nat.le_trans hz6 g7.size, g7.blk HB6.out HYN.out, ?_, ?_⟩
                   · rcases hk with hk | hk
                     · rcases hat with hat | hat
                       · exact .inl (.inl (by rw [← hat]; exact hk))
                       · rw [hat] at hk
                         refine .inr ?_
                         have e1 := Option.some.inj hk
                         have e2 : w6.heap.size ≤ (w6.alloc (.cells #[.int .i64 kk, .int .u8 n] 48)).heap.size := by simp
                         omega
                     · exact .inl (.inr hk)
                   · rw [List.length_append, insV_snoc]
                     exact hown1
                   · have := HT'.out.2.2.1
                     have := HT.out.rev
                     omega
                   · rw [List.length_append, List.length_singleton]
                     omega
                   · intro x hx
                     rcases List.mem_append.1 hx with hx | hx
                     · exact HT.out.small x hx
                     · rw [List.mem_singleton.1 hx]
                       exact ⟨by show 0 ≤ n; omega, by show n ≤ 255; omega⟩
                   · rw [HT'.out.2.1]
                     exact HT.out.bud
                   · intro h2
                     have := HK0.out
                     omega
                   · intro h3
                     have := HK0.out
                     omega
                 have HM7 := hid hm7
                 clear hown1 hgrow hnil hat hm7))
            go_meet
            exact ⟨_, _, HM7.out⟩
          · have k0b : (kd == 0) = false := by simpa using k0
            have hmid : ∀ (w5 : World) (st5 : St), Liv A rs cap w1.heap.size (fun k => u9.ownBlock = some k ∨ k = y) L w5 st5 → Chg (fun k => w1.heap.size ≤ k ∧ ¬ (u9.ownBlock = some k ∨ k = y)) w4 w5 → Fine rs Ul st5 → st5.inp = inpOf ins → st5.rev ≤ st.rev → (st5.budget ≤ 255 ∧ 0 ≤ st5.budget) → (kd = 2 → st5.budget = n) → (kd = 3 → st5.used = [] ∧ st5.charged = 0) → MidR A rs cap w1.heap.size Ul L w1 w5 j y kd kk n u9 st5 ins := by
              intro w5 st5 q1 q2 q3 q4 q5 q6 q7 q8
              exact ⟨q1, q3, q4, own_chg HR4.out q2 (fun g hg h => h.2 (.inl hg)), by have := HT.out.rev; omega, by have := HT.out.len; omega, HT.out.small, q6, HC4.out.trans (q2.weaken (fun k _ h => h.1)), Nat.le_trans hbig q2.size, q2.blk HB4.out (fun h => h.2 (.inr rfl)), q7, q8⟩
            have HMID := hid hmid
            clear hmid
            by_cases k1 : kd = 1
            · have k1b : (kd == 1) = true := by rw [k1]; rfl
              have HK1 := hid k1
              clear k1 k0
              obtain ⟨st', s, er, m1, m2, m3, m4, m5, m6⟩ := ask_tell HK.out HT.out.fine HT.out.inp HT.out.small HKA.out
              have M1 := hid m1
              have HT' : Hid (Fine rs Ul st' ∧ st'.budget = st.budget ∧ st'.rev = st.rev ∧ st'.inp = inpOf ins) := hid ⟨m2, m3, m4, m5⟩
              clear m1 m2 m3 m4 m5
              go_wp2_with fail
              refine (liv_ask HL4.out hbig HLIE.out HOA.out.2.1 M1.out).mono ?_
              rintro e w5 ⟨rfl, hs5, hl5, g5⟩
              have HL5 := hid hl5
              have HG5 := hid g5
              have q1 := g5.cell e1 (fun h => h.2 (.inr rfl))
              obtain ⟨Ai, ci, hv, hin⟩ := own_inRow (own_chg HR4.out g5 (fun g hg h => h.2 (.inl hg)))
              have ht := tell_any rs ins (by omega) (by have := HT.out.len; omega) HT.out.small (fun r hr => by have := (HN.out r hr).1; omega) HOK.out (rs.length + 1) A cap Ai ci kk (.slice none 0 0) [] w5 (HH1.out.chg (HC4.out.trans (g5.weaken (fun k _ h => h.1))) (fun k hk h => by omega)) hin (.inl ⟨rfl, rfl⟩) HOA.out.2.1 List.nodup_nil (fun _ h => by cases h) (by simp)
              rw [← hv] at ht
              have HTL := hid ht
              have HV := hid hv
              have hend : ∀ w6, Chg (fun _ => False) w5 w6 → MidR A rs cap w1.heap.size Ul L w1 w6 j y kd kk n u9 st' ins := fun w6 g6 => HMID.out w6 st' (HL5.out.mono g6) (HG5.out.trans (g6.weaken (fun _ _ h => h.elim))) HT'.out.1 HT'.out.2.2.2 (by have := HT'.out.2.2.1; omega) (by rw [HT'.out.2.1]; exact HT.out.bud) (fun h => by have := HK1.out; omega) (fun h => by have := HK1.out; omega)
              have HEND := hid hend
              clear g5 hin ht hv hl5 hs5 hend
              cases htm : tellM rs ins (rs.length + 1) kk [] with
              | none =>
                rw [htm] at m6 HTL
                obtain ⟨hs, rfl⟩ := m6
                have hs : s = ⟨#[]⟩ := hs
                subst hs
                go_wp2_with fail
                refine HTL.out.mono ?_
                rintro e w6 ⟨rfl, g6⟩
                have HG6 := hid g6
                clear g6 htm
                unfold tellV
                go_wp2_with fail
                go_meet
                exact ⟨_, _, HEND.out _ HG6.out⟩
              | some m =>
                rw [htm] at m6 HTL
                obtain ⟨rfl, rfl⟩ := m6
                have hm := (tell_eval HT.out.small (rs.length + 1) kk [] m htm).2
                go_wp2_with fail
                refine HTL.out.mono ?_
                rintro e w6 ⟨rfl, g6⟩
                have HG6 := hid g6
                clear g6 htm
                unfold tellV
                go_wp2_with fail
                refine (value_is m _ (by omega)).mono ?_
                rintro e w7 ⟨rfl, g7⟩
                have HG7 := hid (HG6.out.trans g7)
                clear g7
                go_wp2_with fail
                go_meet
                exact ⟨_, _, HEND.out _ HG7.out⟩
            · have k1b : (kd == 1) = false := by simpa using k1
              by_cases k2 : kd = 2
              · have k2b : (kd == 2) = true := by rw [k2]; rfl
                obtain ⟨st', m1, m2, m3, m4, m5, m6⟩ := top_budget HT.out.fine (n := n) (by omega)
                have M1 := hid m1
                have HT' := hid (And.intro m2 (And.intro m3 m4))
                have HK2 := hid k2
                clear m1 m2 m3 m4 m5 m6 k2 k1 k0
                go_wp2_with fail
                refine (liv_budget HL4.out hbig HLIE.out (n := n) (by omega) (by omega) M1.out).mono ?_
                rintro e w5 ⟨rfl, hl5, g5⟩
                have HL5 := hid hl5
                have HG5 := hid g5
                clear hl5 g5
                go_wp2_with fail
                go_meet
                refine ⟨_, _, HMID.out _ st' HL5.out HG5.out HT'.out.1 (by unfold St.inp; rw [HT'.out.2.1.inputs]; exact HT.out.inp) (by have := HT'.out.2.1.rev; omega) (by have := HT'.out.2.2; omega) (fun _ => HT'.out.2.2) (fun h => by have := HK2.out; omega)⟩
              · have k2b : (kd == 2) = false := by simpa using k2
                by_cases k3 : kd = 3
                · have k3b : (kd == 3) = true := by rw [k3]; rfl
                  obtain ⟨st', m1, m2, m3, m4, m5, m6, m7, m8⟩ := top_forget HT.out.fine
                  have M1 := hid m1
                  have HT' := hid (And.intro m2 (And.intro m3 (And.intro m4 (And.intro m7 m8))))
                  have HK3 := hid k3
                  clear m1 m2 m3 m4 m5 m6 m7 m8 k3 k2 k1 k0
                  go_wp2_with fail
                  refine (liv_forget HL4.out hbig HLIE.out M1.out).mono ?_
                  rintro e w5 ⟨rfl, hl5, g5⟩
                  have HL5 := hid hl5
                  have HG5 := hid g5
                  clear hl5 g5
                  go_wp2_with fail
                  go_meet
                  refine ⟨_, _, HMID.out _ st' HL5.out HG5.out HT'.out.1 (by unfold St.inp; rw [HT'.out.2.1.inputs]; exact HT.out.inp) (by have := HT'.out.2.1.rev; omega) (by rw [HT'.out.2.2.1]; exact HT.out.bud) (fun h => by have := HK3.out; omega) (fun _ => HT'.out.2.2.2)⟩
                · have k3b : (kd == 3) = false := by simpa using k3
                  have HN2 := hid k2
                  have HN3 := hid k3
                  clear k3 k2 k1 k0
                  go_wp2_with fail
                  go_meet
                  exact ⟨_, _, HMID.out _ st HL4.out (Chg.refl _ _) HT.out.fine HT.out.inp (Int.le_refl _) HT.out.bud (fun h => absurd h HN2.out) (fun h => absurd h HN3.out)⟩
        case rest =>
          obtain ⟨st5, ins5, hm⟩ := hcut
          have HM5 := hid hm
          obtain ⟨x4, hx4⟩ : ∃ x : Int, x = st5.nc := ⟨_, rfl⟩
          obtain ⟨x5, hx5⟩ : ∃ x : Int, x = st5.used.length := ⟨_, rfl⟩
          obtain ⟨x6, hx6⟩ : ∃ x : Int, x = st5.budget := ⟨_, rfl⟩
          obtain ⟨x7, hx7⟩ : ∃ x : Int, x = st5.charged := ⟨_, rfl⟩
          obtain ⟨x8, hx8⟩ : ∃ x : Int, x = st5.high := ⟨_, rfl⟩
          obtain ⟨n1, n2, n3, n4⟩ := hm.fine.nums
          have hbd := hm.bud
          have hk2 := hm.k2
          have hk3 := hm.k3
          have hnn := liv_nums hm.liv
          unfold numsV at hnn
          rw [← hx4, ← hx5, ← hx6, ← hx7, ← hx8] at hnn
          have HNN := hid hnn
          have p1 : x7 ≤ x6 := by omega
          have p2 : x7 ≤ x8 := by omega
          have p3 : x5 ≤ x4 := by omega
          have p4 : 2 * x5 ≤ x7 ∧ 0 ≤ x5 := by omega
          have p5 : 0 ≤ x6 ∧ x6 ≤ 255 := by omega
          have p6 : kd = 2 → x6 = n := fun h => by rw [hx6]; exact hk2 h
          have p7 : kd = 3 → x5 + x7 = 0 := fun h => by have := hk3 h; rw [hx5, hx7, this.1, this.2]; rfl
          clear hm hx4 hx5 hx6 hx7 hx8 n1 n2 n3 n4 hbd hk2 hk3 hnn
          go_wp2_with fail
          refine HNN.out.mono ?_
          rintro e w7 ⟨rfl, hl7, g7⟩
          have HL7 := hid hl7
          have HG7 := hid g7
          have HB7 := hid (g7.blk HM5.out.blk (fun h => h))
          clear hl7 g7
          go_upto_region 28 with fail
          obtain ⟨w8, hw8⟩ : ∃ w8, w7.alloc (Obj.cells #[Value.int IntKind.i64 st5.rev, Value.int IntKind.i64 (wrap64 st5.steps), Value.int IntKind.i64 (wrap64 st5.checks), Value.int IntKind.i64 (wrap64 st5.hits), Value.int IntKind.i64 x4, Value.int IntKind.i64 x5, Value.int IntKind.i64 x6, Value.int IntKind.i64 x7, Value.int IntKind.i64 x8] 39) = w8 := ⟨_, rfl⟩
          obtain ⟨z, hz⟩ : ∃ z, z = w7.heap.size := ⟨_, rfl⟩
          have b8 : Blk w8 z 39 #[Value.int IntKind.i64 st5.rev, Value.int IntKind.i64 (wrap64 st5.steps), Value.int IntKind.i64 (wrap64 st5.checks), Value.int IntKind.i64 (wrap64 st5.hits), Value.int IntKind.i64 x4, Value.int IntKind.i64 x5, Value.int IntKind.i64 x6, Value.int IntKind.i64 x7, Value.int IntKind.i64 x8] := by rw [← hw8, hz]; exact Blk.new w7 39 _
          have g8 : Chg (fun _ => False) w7 w8 := by rw [← hw8]; exact (Chg.refl _ _).alloc _
          have y8 := g8.blk HB7.out (fun h => h)
          rw [hw8, ← hz]
          have f0 : w8.cell? ⟨y, 0, none⟩ = some (.int .i64 kd) := by rw [y8.cell]; rfl
          have f2 : w8.cell? ⟨y, 2, none⟩ = some (.int .u8 n) := by rw [y8.cell]; rfl
          have z4 : w8.cell? ⟨z, 4, none⟩ = some (.int .i64 x4) := by rw [b8.cell]; rfl
          have z5 : w8.cell? ⟨z, 5, none⟩ = some (.int .i64 x5) := by rw [b8.cell]; rfl
          have z6 : w8.cell? ⟨z, 6, none⟩ = some (.int .i64 x6) := by rw [b8.cell]; rfl
          have z7 : w8.cell? ⟨z, 7, none⟩ = some (.int .i64 x7) := by rw [b8.cell]; rfl
          have z8 : w8.cell? ⟨z, 8, none⟩ = some (.int .i64 x8) := by rw [b8.cell]; rfl
          have d1 : decide (x6 < x7) = false := by simp; omega
          have d2 : decide (x8 < x7) = false := by simp; omega
          have d3 : decide (x4 < x5) = false := by simp; omega
          have hw : wrap64 (2 * x5) = 2 * x5 := by unfold wrap64; omega
          have d4 : decide (x7 < 2 * x5) = false := by simp; omega
          have HG8 := hid (HG7.out.trans g8)
          have hsub : TlsR A rs cap w1.heap.size Ul L w1 w8 (j + 1) u9 st5 ins5 := by
            have hm := HM5.out
            have hc := HG8.out
            exact ⟨(hm.liv.more (fun k hk => .inl (.inl hk))).mono hc, hm.fine, hm.inp, own_chg hm.row hc (fun _ _ h => h), by have := hm.rev; omega, by have := hm.len; omega, hm.small, hm.bud, hm.chg.trans (hc.weaken (fun _ _ h => h.elim)), Nat.le_trans hm.big hc.size⟩
          have HS := hid hsub
          clear hw8 hz b8 g8 y8 hsub
          by_cases k2 : kd = 2
          · have k2b : (kd == 2) = true := by rw [k2]; rfl
            have k3b : (kd == 3) = false := by rw [k2]; rfl
            have e6 : x6 = n := p6 k2
            have HK2 := hid k2
            clear p6 p7 k2
            subst e6
            go_wp2_with fail
            go_roundw
            case rel => exact ⟨j + 1, st5, ins5, by omega, by go_num, HS.out⟩
            case measure => simp [intOf]; omega
          · have k2b : (kd == 2) = false := by simpa using k2
            by_cases k3 : kd = 3
            · have k3b : (kd == 3) = true := by rw [k3]; rfl
              have e57 := p7 k3
              obtain ⟨rfl, rfl⟩ : x5 = 0 ∧ x7 = 0 := by omega
              clear p6 p7 k2 k3 e57
              go_wp2_with fail
              go_roundw
              case rel => exact ⟨j + 1, st5, ins5, by omega, by go_num, HS.out⟩
              case measure => simp [intOf]; omega
            · have k3b : (kd == 3) = false := by simpa using k3
              clear p6 p7 k2 k3
              go_wp2_with fail
              go_roundw
              case rel => exact ⟨j + 1, st5, ins5, by omega, by go_num, HS.out⟩
              case measure => simp [intOf]; omega
      · have HBD := hid (HT.out.chg)
        go_wp2_with fail
        refine (Budget_bad wr L (-1) (.inl (by omega))).mono ?_
        rintro e w4 ⟨rfl, g4⟩
        go_wp2_with fail
        go_ret
        have hb := HG1.out.size
        exact ⟨rfl, (HG1.out.below (Nat.le_refl _) (fun _ _ h => h)).trans ((HBD.out.trans (g4.weaken (fun _ _ h => h.elim))).below hb (fun k hk h => by omega))⟩
end Go.Proofs.Ytfkedhclhmbpfaa
