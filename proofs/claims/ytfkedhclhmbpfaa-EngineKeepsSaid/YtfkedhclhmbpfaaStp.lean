/-
  The engine's step.
-/
import Derived.Test.YtfkedhclhmbpfaaNot
import Derived.Outline
namespace Go.Proofs.Ytfkedhclhmbpfaa
open Go.RowKit Go.Maps
set_option linter.unusedVariables false
set_option linter.unusedSimpArgs false

theorem method_text (A : Option Addr) (n cap : Nat) (W : World) : (method 225 31 (.agg #[.slice A n cap]) "Text").run Try.prog W = .ok (70, .agg #[.slice A n cap]) W := by kernel_rfl

theorem oneCell_own {w : World} {base n : Nat} {v : Value} {xs : List Value} (h : w.ownsRow base 3 1 v n xs) : ∃ A cap, v = .slice A n cap := by
  rcases h.2 with ⟨rfl, h0⟩ | ⟨g, cap', cur, rfl, _⟩
  · exact ⟨none, 0, by rw [h0]⟩
  · exact ⟨_, _, rfl⟩
theorem setCell_same {st : St} {k : Int} {c : Cell} (h : st.cells k = some c) : st.setCell k c = st := by
  unfold St.setCell
  have : setF st.cells k (some c) = st.cells := by
    funext x
    unfold setF
    split
    · rename_i e; rw [e, h]
    · rfl
  rw [this]
theorem setCell_twice (st : St) (k : Int) (a b : Cell) : (st.setCell k a).setCell k b = st.setCell k b := by
  unfold St.setCell
  have : setF (setF st.cells k (some a)) k (some b) = setF st.cells k (some b) := by
    funext x
    unfold setF
    split <;> rfl
  simp only [this]
theorem freshM_some {st : St} {k : Int} {c : Cell} (h : st.cells k = some c) : freshM st k = { st with steps := st.steps + 1 } := by
  unfold freshM
  have : setF st.cells k (some ((st.cells k).getD zeroCell)) = st.cells := by
    funext x
    unfold setF
    split
    · rename_i e; rw [e, h]; rfl
    · rfl
  rw [this, h]
  rfl
theorem freshM_none_steps {st : St} {k : Int} (h : st.cells k = none) : freshM st k = { ({ st with steps := st.steps + 1 } : St) with cells := setF ({ st with steps := st.steps + 1 } : St).cells k (some zeroCell), nc := st.nc + 1 } := by
  unfold freshM
  rw [h]
  rfl
theorem word_cells {st st' : St} {s : ByteArray} {d : Int} (h : wordM st s = some (st', d)) : st'.cells = st.cells := by
  unfold wordM at h
  split at h
  · split at h
    · simp only [Option.some.injEq, Prod.mk.injEq] at h
      rw [← h.1]
    · simp only [Option.some.injEq, Prod.mk.injEq] at h
      rw [← h.1]
  · cases h
theorem freshM_none {st : St} {k : Int} (h : st.cells k = none) : freshM st k = { st with steps := st.steps + 1, cells := setF st.cells k (some zeroCell), nc := st.nc + 1 } := by
  unfold freshM
  rw [h]
  rfl
/-- A text's number, of the engine's table. -/
theorem word_any (w : World) (L : Lay) (loc : Int → Nat) (av : Int → Value) (wF uF F : Nat → Prop) (rv : Value) (st st' : St) (s : ByteArray) (d : Int) (h : EngP w L loc av wF uF F rv st) (hm : wordM st s = some (st', d)) :
    Calls Try.prog 47 #[.pointer (some ⟨L.wb, 0, none⟩), .string s] w fun e w' => e = .returned (.int .i64 d) ∧ ∃ wF' F', Got L rv ⟨loc, wF, uF, F⟩ w st ⟨loc, wF', uF, F'⟩ w' st' := by
  unfold wordM at hm
  split at hm
  · rename_i hs
    cases hp : pos st.words s with
    | some i =>
      rw [hp] at hm
      simp only [Option.some.injEq, Prod.mk.injEq] at hm
      obtain ⟨rfl, rfl⟩ := hm
      refine (of_known w L.wb wF st.words s i h.wds (by unfold okS; omega) hp).mono ?_
      rintro e w' ⟨he, rfl⟩
      exact ⟨he, _, _, Got.refl h.at_⟩
    | none =>
      rw [hp] at hm
      simp only [Option.some.injEq, Prod.mk.injEq] at hm
      obtain ⟨rfl, rfl⟩ := hm
      refine (of_new w L.wb wF st.words s h.wds (by unfold okS; omega) hp hs.2).mono ?_
      rintro e w' ⟨he, ht, hc⟩
      exact ⟨he, _, _, h.gotWord ht hc⟩
  · cases hm

/-- 'step' does what it is said to. -/
def StepOK (L : Lay) (rv : Value) (A : Option Addr) (rs : List Rule) (step : St → Int → Option (St × ByteArray)) : Prop :=
  ∀ (w : World) (p : Fp) (st : St) (k : Int) (st' : St) (s : ByteArray), EngAt w L p rv st → RulesAt w p.F A rs → ok k → step st k = some (st', s) →
    Calls Try.prog 37 #[En L, enc k] w fun e w' => e = .returned (.string s) ∧ s.size ≤ 1000000 ∧ Left L p rv w st st' w'

set_option maxRecDepth 100000 in
set_option maxHeartbeats 8000000 in
theorem step_any (L : Lay) (A : Option Addr) (rs : List Rule) (cap : Nat) (ask : St → Int → Option (St × ByteArray)) (hA : AskOK L (rvOf A rs cap) A rs ask) : StepOK L (rvOf A rs cap) A rs (stepM rs ask) := by
  intro w p st k st' s h hR hk hm
  obtain ⟨loc, wF, uF, F⟩ := p
  obtain ⟨av, h⟩ := h
  dsimp only at h hR ⊢
  unfold stepM at hm
  cases ht : textM rs (noteM ask) (st, []) k with
  | none => rw [ht] at hm; cases hm
  | some y =>
    obtain ⟨⟨st1, asked⟩, t⟩ := y
    rw [ht] at hm
    simp only at hm
    have HT := hid ht
    have HM := hid hm
    have HA := hid hA
    have HK := hid hk
    have HR := hid hR
    have HH := hid h
    have e0 := h.e0
    unfold rvOf at e0
    have hel := h.eng.lt
    clear ht hm hA hk hR h
    have hmt := method_text A rs.length cap
    obtain ⟨w1, hw1⟩ : ∃ w1, (w.alloc (.cells #[En L] 26)).alloc (.cells #[.slice none 0 0] 41) = w1 := ⟨_, rfl⟩
    have g1 : Chg (fun _ => False) w w1 := by rw [← hw1]; exact ((Chg.refl _ _).alloc _).alloc _
    have x1 : Blk w1 w.heap.size 26 #[En L] := by rw [← hw1]; exact (Blk.new w 26 _).alloc _
    have a1 : Blk w1 (w.heap.size + 1) 41 #[.slice none 0 0] := by
      rw [← hw1]
      have := Blk.new (w.alloc (.cells #[En L] 26)) 41 #[.slice none 0 0]
      rwa [World.size_alloc] at this
    have hnF : ∀ k, w.heap.size ≤ k → ¬ F k := fun k hk hf => by have := HH.out.lt k hf; omega
    have hj : StepJ L (rvOf A rs cap) ⟨loc, wF, uF, F⟩ w st (w.heap.size + 1) w.heap.size 0 (fun k => F k ∨ k = w.heap.size + 1) (st, []) w1 :=
      ⟨⟨loc, wF, uF, F⟩, .slice none 0 0, (Got.refl HH.out.at_).mono g1, a1, World.ownsRow_nil _ _ _ _, x1, Nat.le_refl _, fun k => by simp [Value.ownBlock], hnF _ (by omega), hnF _ (by omega), fun g hg => by simp [Value.ownBlock] at hg, by omega, by omega, fun d hd => by cases hd⟩
    have hR1 : RulesAt w1 (fun k => F k ∨ k = w.heap.size + 1) A rs := HR.out.chg (g1.weaken (fun _ _ h => h.elim)) (fun k hk => hk.imp id (fun e => by omega))
    have HTX := hid (text_any (noteM ask) _ 45 _ A rs cap (note_asker L (rvOf A rs cap) A rs ask HA.out ⟨loc, wF, uF, F⟩ w st (w.heap.size + 1) w.heap.size) w1 _ (st, []) (st1, asked) k t hj hR1 HK.out HT.out)
    have HW1 := hid hw1
    have HX1 := hid x1
    clear g1 x1 a1 hnF hj hR1 hw1
    go_enter Try.func37, Try.ntmps37
    go_wp2_with fail
    rw [HW1.out]
    refine HTX.out.mono ?_
    rintro e w2 ⟨rfl, hts, n2, O2, hn2, ⟨p2, v2, hg2, hb2, ho2, hx2, hl2, hO2, ha2, hxx2, hv2, -, -, hokl⟩, -, -⟩
    obtain ⟨⟨loc2, wF2, uF2, F2⟩, rfl⟩ : ∃ q, q = p2 := ⟨_, rfl⟩
    dsimp only at hg2 ho2 hl2 ha2 hxx2 hv2 hokl
    have HOKL := hid hokl
    obtain ⟨av2, h2⟩ := id hg2.eng
    dsimp only at h2
    have e8 := h2.e8
    have ex : w2.cell? ⟨w.heap.size, 0, none⟩ = some (En L) := by rw [hx2.cell]; rfl
    have H2 := hid h2
    have HG2 := hid hg2
    have HB2 := hid hb2
    have HO2 := hid ho2
    have HX2 := hid hx2
    have HA2 : Hid (¬ F2 (w.heap.size + 1) ∧ ¬ F2 w.heap.size ∧ ∀ g, v2.ownBlock = some g → ¬ F2 g) := hid ⟨ha2, hxx2, hv2⟩
    clear h2 hg2 hb2 ho2 hx2 hl2 hO2 ha2 hxx2 hv2 hokl e0 HTX HT
    cases hcy : st1.cycle with
    | true =>
      rw [hcy] at e8
      have hm := HM.out
      rw [if_pos hcy] at hm
      simp only [Option.some.injEq, Prod.mk.injEq] at hm
      obtain ⟨rfl, rfl⟩ := hm
      clear hcy HM
      go_wp2_with fail
      go_ret
      exact ⟨rfl, Nat.zero_le _, _, HG2.out⟩
    | false =>
      rw [hcy] at e8
      have hm := HM.out
      rw [if_neg (by rw [hcy]; simp)] at hm
      cases hwr : wroteM st1 k asked t with
      | none => rw [hwr] at hm; cases hm
      | some st2 =>
        rw [hwr] at hm
        simp only [Option.some.injEq, Prod.mk.injEq] at hm
        obtain ⟨rfl, rfl⟩ := hm
        have HWR := hid hwr
        have e9 := H2.out.e9
        have f9 := H2.out.f 9
        have hwrap := wrap_add st1.steps
        clear hcy hwr HM
        go_upto_region 6 with fail
        obtain ⟨w3, hw3⟩ : ∃ w3, w2.setCell ⟨L.eb, 9, none⟩ (.int .i64 (wrap64 (st1.steps + 1))) = w3 := ⟨_, rfl⟩
        have hS : Chg (fun x => x = L.eb) w2 w3 := by rw [← hw3]; exact (Chg.refl (fun x => x = L.eb) w2).setCell (p := ⟨L.eb, 9, none⟩) rfl _
        have g3 := H2.out.gotOwn (st' := { st1 with steps := st1.steps + 1 }) hS (by rw [← hw3]; exact H2.out.eng.set_ 9 _) rfl rfl rfl rfl rfl rfl rfl rfl rfl H2.out.rev0 H2.out.rev1
        have hG3 := HG2.out.trans g3
        have hea : w.heap.size + 1 ≠ L.eb := by omega
        have hex : w.heap.size ≠ L.eb := by omega
        have hb3 := hS.blk HB2.out hea
        have hx3 := hS.blk HX2.out hex
        have ho3 := own_chg HO2.out hS (fun g hg e => HA2.out.2.2 g hg (e ▸ H2.out.feb))
        rw [hw3]
        have HG3 := hid hG3
        have HB3 := hid hb3
        have HX3 := hid hx3
        have HO3 := hid ho3
        have hne1 : L.eb ≠ w.heap.size := by omega
        clear hw3 hS g3 hG3 hea hb3 hx3 ho3 e9 f9 hwrap e8 ex
        obtain ⟨av3, h3⟩ := id HG3.out.eng
        dsimp only at h3
        have e3 := h3.e3
        have ex : w3.cell? ⟨w.heap.size, 0, none⟩ = some (En L) := by rw [HX3.out.cell]; rfl
        have H3 := hid h3
        clear h3
        cases hck : st1.cells k with
        | some c0 =>
          have hlook := look_cell H3.out HK.out (c := c0) hck
          have hg4 := HG3.out
          rw [← freshM_some hck] at hg4
          have HG4 := hid hg4
          have HB4 := HB3
          have HX4 := HX3
          have HO4 := HO3
          have HA4 := HA2
          have HC4 : Hid ((freshM st1 k).cells k = some c0) := hid (by rw [freshM_some hck]; exact hck)
          obtain ⟨bk, hbk⟩ : ∃ bk, bk = loc2 k := ⟨_, rfl⟩
          rw [← hbk] at hlook
          have HBK := hid hbk.symm
          clear hck hg4 HG3 HB3 HX3 HO3 HA2 HB2 HX2 HO2 HG2 hbk
          go_upto_region 10 with fail
          obtain ⟨w4, rfl⟩ : ∃ q, q = w3 := ⟨_, rfl⟩
          obtain ⟨p4, hp4⟩ : ∃ q, q = (⟨loc2, wF2, uF2, F2⟩ : Fp) := ⟨_, rfl⟩
          have HG4 : Hid (Got L (rvOf A rs cap) ⟨loc, wF, uF, F⟩ w st p4 w4 (freshM st1 k)) := hid (by rw [hp4]; exact HG4.out)
          have HBK : Hid (p4.loc k = bk) := hid (by rw [hp4]; exact HBK.out)
          have HA4 : Hid (¬ p4.F (w.heap.size + 1) ∧ ¬ p4.F w.heap.size ∧ ∀ g, v2.ownBlock = some g → ¬ p4.F g) := hid (by rw [hp4]; exact HA4.out)
          clear hp4
          obtain ⟨loc4, wF4, uF4, F4⟩ := p4
          have HBK : Hid (loc4 k = bk) := HBK
          have HA4 : Hid (¬ F4 (w.heap.size + 1) ∧ ¬ F4 w.heap.size ∧ ∀ g, v2.ownBlock = some g → ¬ F4 g) := HA4
          obtain ⟨av4, h4⟩ := id HG4.out.eng
          dsimp only at h4
          have e4 := h4.e4
          have ex : w4.cell? ⟨w.heap.size, 0, none⟩ = some (En L) := by rw [HX4.out.cell]; rfl
          have HE4 := hid h4
          clear h4
          cases hwd : wordM (freshM st1 k) t with
          | none => have := HWR.out; unfold wroteM at this; rw [hwd] at this; cases this
          | some y =>
            obtain ⟨st5, d⟩ := y
            have hwr := HWR.out
            unfold wroteM at hwr
            rw [hwd] at hwr
            dsimp only at hwr
            have hcl := word_cells hwd
            have hck : st5.cells k = some c0 := by rw [hcl]; exact HC4.out
            rw [hck] at hwr
            rw [Option.getD_some] at hwr
            have HKP := hid hwr
            have HWD := hid hwd
            have HCK := hid hck
            clear hwd hwr hcl hck HWR
            go_wp2_with fail
            refine (word_any w4 L loc4 av4 wF4 uF4 F4 _ (freshM st1 k) st5 t d HE4.out HWD.out).mono ?_
            rintro e w5 ⟨rfl, wF5, F5, g5⟩
            have hn5 : ∀ x, x < w4.heap.size → ¬ F4 x → ¬ F5 x := fun x hx hf h => by
              rcases g5.blocks x h with h | h
              · exact hf h
              · omega
            have hb5 := g5.chg.blk HB4.out HA4.out.1
            have hx5 := g5.chg.blk HX4.out HA4.out.2.1
            have ho5 := own_chg HO4.out g5.chg HA4.out.2.2
            have hA5 : ¬ F5 (w.heap.size + 1) ∧ ¬ F5 w.heap.size ∧ ∀ g, v2.ownBlock = some g → ¬ F5 g := ⟨hn5 _ HB4.out.lt HA4.out.1, hn5 _ HX4.out.lt HA4.out.2.1, fun g hg => hn5 g (HO4.out.lt g hg).2 (HA4.out.2.2 g hg)⟩
            have hg5 := HG4.out.trans g5
            obtain ⟨av5, h5⟩ := id g5.eng
            dsimp only at h5
            have k0 := h5.k0 HCK.out
            have k3 := h5.k3 HCK.out
            have f0 := h5.kf HCK.out 0
            have f3 := h5.kf HCK.out 3
            have e1 := h5.e1
            have exx : w5.cell? ⟨w.heap.size, 0, none⟩ = some (En L) := by rw [hx5.cell]; rfl
            have hxb : w.heap.size ≠ loc4 k := blk_ne hx5 (h5.cel k c0 HCK.out).1 (by decide)
            have heb : L.eb ≠ loc4 k := h5.eb_loc HCK.out
            rw [HBK.out] at k0 k3 f0 f3 hxb heb
            have HE5 := hid h5
            have HB5 := hid hb5
            have HX5 := hid hx5
            have HO5 := hid ho5
            have HA5 := hid hA5
            have HG5 := hid hg5
            clear g5 hn5 hb5 hx5 ho5 hA5 hg5 h5 e4 ex HB4 HX4 HO4 HA4 HG4
            by_cases hd : d = c0.digest
            · have hdb : (d == c0.digest) = true := beq_iff_eq.2 hd
              have hdn : (d != c0.digest) = false := by rw [bne, hdb]; rfl
              have HD := hid hd
              clear hd
              go_upto_region 13 with fail
              obtain ⟨w6, rfl⟩ : ∃ q, q = w5 := ⟨_, rfl⟩
              have HE6 := HE5
              have HG6 := HG5
              have HB6 := HB5
              have HX6 := HX5
              have HO6 := HO5
              have HC6 := HCK
              obtain ⟨c1, hc1⟩ : ∃ c1, c1 = c0 := ⟨_, rfl⟩
              rw [← hc1] at HC6
              have HST : Hid (∀ r, st5.setCell k { c0 with digest := d, turned := if d = c0.digest then c0.turned else st5.rev, asked := asked, at_ := r } = st5.setCell k { c1 with asked := asked, at_ := r }) := hid (fun r => by rw [if_pos HD.out, hc1, HD.out])
              have HKP7 := HKP.out
              rw [HST.out] at HKP7
              have HKP7 := hid HKP7
              obtain ⟨st6, hst6⟩ : ∃ q, q = st5 := ⟨_, rfl⟩
              rw [← hst6] at HE6 HG6 HC6 HKP7
              clear hc1 HCK HD k0 k3 f0 f3 e1 exx HE5 HG5 HB5 HX5 HO5 hdb hdn hst6
              have k1 := HE6.out.k1 HC6.out
              have k2 := HE6.out.k2 HC6.out
              have f1 := HE6.out.kf HC6.out 1
              have f2 := HE6.out.kf HC6.out 2
              have e1 := HE6.out.e1
              have exx : w6.cell? ⟨w.heap.size, 0, none⟩ = some (En L) := by rw [HX6.out.cell]; rfl
              have exa : w6.cell? ⟨w.heap.size + 1, 0, none⟩ = some v2 := by rw [HB6.out.cell]; rfl
              have hab : w.heap.size + 1 ≠ loc4 k := blk_ne HB6.out (HE6.out.cel k _ HC6.out).1 (by decide)
              rw [HBK.out] at k1 k2 f1 f2 hab
              obtain ⟨A2, cap2, rfl⟩ := oneCell_own HO6.out
              go_region
              go_wp2_with fail
              obtain ⟨w7, hw7⟩ : ∃ w7, ((w6.setCell ⟨bk, 1, none⟩ (.slice A2 asked.length cap2)).setCell ⟨bk, 2, none⟩ (.int .i64 st6.rev)).drew = w7 := ⟨_, rfl⟩
              have hS7 : Chg (fun x => x = loc4 k) w6 w7 := by rw [← hw7, HBK.out]; exact ((((Chg.refl (fun x => x = bk) w6).setCell (p := ⟨bk, 1, none⟩) rfl _).setCell (p := ⟨bk, 2, none⟩) rfl _).drew)
              have hb7 := (((HE6.out.cel k c1 HC6.out).1.set_ 1 (.slice A2 asked.length cap2)).set_ 2 (.int .i64 st6.rev)).drew
              obtain ⟨c7, hc7⟩ : ∃ c7, c7 = { c1 with asked := asked, at_ := st6.rev } := ⟨_, rfl⟩
              have g7 := HE6.out.gotList (c := c7) HC6.out hS7 (by rw [← hw7]; rw [HBK.out] at hb7 ⊢; rw [hc7]; exact hb7) (by rw [hc7]; exact own_zero HO6.out) HA5.out.2.2 (by rw [hc7]; exact HE6.out.celt k c1 HC6.out) (by rw [hc7]; exact HOKL.out) (fun g hg => (HO6.out.lt g hg).1) HG6.out
              rw [hw7]
              have hkp := HKP7.out
              rw [← hc7] at hkp
              have hkk := keep_any w7 L _ _ (st6.setCell k c7) k c7 t _ g7.eng HK.out (setF_same _ _ _) (by omega) hkp
              dsimp only at hkk
              rw [show loc4 k = bk from HBK.out] at hkk
              have HKK := hid hkk
              have HG7 := hid g7
              clear hw7 hS7 hb7 hc7 g7 hkp hkk k1 k2 f1 f2 e1 exx exa hab
              refine HKK.out.mono ?_
              rintro e w8 ⟨rfl, p8, g8⟩
              have HG8 := hid (HG7.out.trans g8)
              clear g8
              go_wp2_with fail
              go_ret
              exact ⟨rfl, by omega, _, HG8.out⟩
            · have hdb : (d == c0.digest) = false := beq_eq_false_iff_ne.2 hd
              have hdn : (d != c0.digest) = true := by rw [bne, hdb]; rfl
              have HD := hid hd
              clear hd
              go_upto_region 13 with fail
              obtain ⟨w6, hw6⟩ : ∃ q, q = (w5.setCell ⟨bk, 0, none⟩ (.int .i64 d)).setCell ⟨bk, 3, none⟩ (.int .i64 st5.rev) := ⟨_, rfl⟩
              have hS : Chg (fun x => x = loc4 k) w5 w6 := by rw [hw6, HBK.out]; exact ((Chg.refl (fun x => x = bk) w5).setCell (p := ⟨bk, 0, none⟩) rfl _).setCell (p := ⟨bk, 3, none⟩) rfl _
              have hb := ((HE5.out.cel k c0 HCK.out).1.set_ 0 (.int .i64 d)).set_ 3 (.int .i64 st5.rev)
              obtain ⟨c1, hc1⟩ : ∃ c1, c1 = { c0 with digest := d, turned := st5.rev } := ⟨_, rfl⟩
              have g6 := HE5.out.gotCell (c := c1) HCK.out hS (by rw [hw6]; rw [HBK.out] at hb ⊢; rw [hc1]; exact hb) (by rw [hc1]) (by rw [hc1]; exact HE5.out.celt k c0 HCK.out)
              obtain ⟨st6, hst6⟩ : ∃ q, q = st5.setCell k c1 := ⟨_, rfl⟩
              rw [← hst6] at g6
              have HST : Hid (∀ r, st5.setCell k { c0 with digest := d, turned := if d = c0.digest then c0.turned else st5.rev, asked := asked, at_ := r } = st6.setCell k { c1 with asked := asked, at_ := r }) := hid (fun r => by rw [if_neg HD.out, hst6, setCell_twice, hc1])
              have HG6 := hid (HG5.out.trans g6)
              obtain ⟨av6, h6⟩ := id g6.eng
              dsimp only at h6
              have HE6 := hid h6
              have HB6 := hid (hS.blk HB5.out (blk_ne HB5.out (HE5.out.cel k c0 HCK.out).1 (by decide)))
              have HX6 := hid (hS.blk HX5.out (blk_ne HX5.out (HE5.out.cel k c0 HCK.out).1 (by decide)))
              have HO6 := hid (own_chg HO5.out hS (fun g hg e => own_ne_b HO5.out (HE5.out.cel k c0 HCK.out).1 (by decide) g hg e))
              have HC6 : Hid (st6.cells k = some c1) := hid (by rw [hst6]; exact setF_same _ _ _)
              have HKP7 := HKP.out
              rw [HST.out, show st5.rev = st6.rev by rw [hst6]; rfl] at HKP7
              have HKP7 := hid HKP7
              rw [← hw6]
              clear hw6 hS hb hc1 g6 h6 hst6 HCK HD k0 k3 f0 f3 e1 exx HE5 HG5 HB5 HX5 HO5 hdb hdn
              have k1 := HE6.out.k1 HC6.out
              have k2 := HE6.out.k2 HC6.out
              have f1 := HE6.out.kf HC6.out 1
              have f2 := HE6.out.kf HC6.out 2
              have e1 := HE6.out.e1
              have exx : w6.cell? ⟨w.heap.size, 0, none⟩ = some (En L) := by rw [HX6.out.cell]; rfl
              have exa : w6.cell? ⟨w.heap.size + 1, 0, none⟩ = some v2 := by rw [HB6.out.cell]; rfl
              have hab : w.heap.size + 1 ≠ loc4 k := blk_ne HB6.out (HE6.out.cel k _ HC6.out).1 (by decide)
              rw [HBK.out] at k1 k2 f1 f2 hab
              obtain ⟨A2, cap2, rfl⟩ := oneCell_own HO6.out
              go_region
              go_wp2_with fail
              obtain ⟨w7, hw7⟩ : ∃ w7, ((w6.setCell ⟨bk, 1, none⟩ (.slice A2 asked.length cap2)).setCell ⟨bk, 2, none⟩ (.int .i64 st6.rev)).drew = w7 := ⟨_, rfl⟩
              have hS7 : Chg (fun x => x = loc4 k) w6 w7 := by rw [← hw7, HBK.out]; exact ((((Chg.refl (fun x => x = bk) w6).setCell (p := ⟨bk, 1, none⟩) rfl _).setCell (p := ⟨bk, 2, none⟩) rfl _).drew)
              have hb7 := (((HE6.out.cel k c1 HC6.out).1.set_ 1 (.slice A2 asked.length cap2)).set_ 2 (.int .i64 st6.rev)).drew
              obtain ⟨c7, hc7⟩ : ∃ c7, c7 = { c1 with asked := asked, at_ := st6.rev } := ⟨_, rfl⟩
              have g7 := HE6.out.gotList (c := c7) HC6.out hS7 (by rw [← hw7]; rw [HBK.out] at hb7 ⊢; rw [hc7]; exact hb7) (by rw [hc7]; exact own_zero HO6.out) HA5.out.2.2 (by rw [hc7]; exact HE6.out.celt k c1 HC6.out) (by rw [hc7]; exact HOKL.out) (fun g hg => (HO6.out.lt g hg).1) HG6.out
              rw [hw7]
              have hkp := HKP7.out
              rw [← hc7] at hkp
              have hkk := keep_any w7 L _ _ (st6.setCell k c7) k c7 t _ g7.eng HK.out (setF_same _ _ _) (by omega) hkp
              dsimp only at hkk
              rw [show loc4 k = bk from HBK.out] at hkk
              have HKK := hid hkk
              have HG7 := hid g7
              clear hw7 hS7 hb7 hc7 g7 hkp hkk k1 k2 f1 f2 e1 exx exa hab
              refine HKK.out.mono ?_
              rintro e w8 ⟨rfl, p8, g8⟩
              have HG8 := hid (HG7.out.trans g8)
              clear g8
              go_wp2_with fail
              go_ret
              exact ⟨rfl, by omega, _, HG8.out⟩
        | none =>
          have hlook := look_none H3.out HK.out hck
          have HCK0 := hid hck
          obtain ⟨w4, hw4⟩ : ∃ w4, w3.alloc (.cells #[.int .i64 0, .slice none 0 0, .int .i64 0, .int .i64 0, .bool false, .string ⟨#[]⟩] 95) = w4 := ⟨_, rfl⟩
          have g34 : Chg (fun _ => False) w3 w4 := by rw [← hw4]; exact (Chg.refl _ _).alloc _
          have hb4 : Blk w4 w3.heap.size 95 (cellCs zeroCell (.slice none 0 0)) := by rw [← hw4]; exact Blk.new w3 95 _
          have h34 := H3.out.mono g34
          obtain ⟨w5, hst, hm5, hc5, hz5⟩ := h34.cls.store keyK Try.underlying60 HK.out (.pointer (some ⟨w3.heap.size, 0, none⟩))
          rw [← hw4] at hst
          have hF3 : ¬ F2 w3.heap.size := fun h => by have := H3.out.lt _ h; omega
          have hnn : (cellF st1.cells loc2 k).isSome = false := by unfold cellF; rw [hck]; rfl
          have hg5 := h34.gotFresh (k := k) (n := st1.nc + 1) hck hb4 hF3 (by
            rw [hnn] at hm5
            exact hm5.congr (fun x => by
              unfold cellF putF
              by_cases e : x = k
              · subst e; simp [setF_same]
              · simp [setF_other _ _ e, e])) hc5 (w0 := w) (by have := HG3.out.chg.size; omega) (HG3.out.mono g34)
          have hxl := HX3.out.lt
          have hel3 : L.eb < w3.heap.size := H3.out.eng.lt
          have hcm : ∀ g, Blk w4 (w.heap.size + 1) 41 g → w.heap.size + 1 ≠ L.cm := fun g hg => blk_ne_m hg h34.cls
          have hb41 := g34.blk HB3.out (fun h => h)
          have hx41 := g34.blk HX3.out (fun h => h)
          have ho41 := own_chg HO3.out g34 (fun _ _ h => h)
          have hb5 := hc5.blk hb41 (blk_ne_m hb41 h34.cls)
          have hx5 := hc5.blk hx41 (blk_ne_m hx41 h34.cls)
          have ho5 := own_chg ho41 hc5 (fun g hg => own_ne_m ho41 h34.cls g hg)
          have hA5 : ¬ (F2 (w.heap.size + 1) ∨ w.heap.size + 1 = w3.heap.size) ∧ ¬ (F2 w.heap.size ∨ w.heap.size = w3.heap.size) ∧ ∀ g, v2.ownBlock = some g → ¬ (F2 g ∨ g = w3.heap.size) :=
            ⟨fun h => h.elim HA2.out.1 (fun e => by have := HB3.out.lt; omega), fun h => h.elim HA2.out.2.1 (fun e => by omega), fun g hg h => h.elim (HA2.out.2.2 g hg) (fun e => by have := (HO3.out.lt g hg).2; omega)⟩
          rw [← freshM_none_steps hck] at hg5
          have HG4 := hid hg5
          have HB4 := hid hb5
          have HX4 := hid hx5
          have HO4 := hid ho5
          have HA4 := hid hA5
          obtain ⟨c0, hc0⟩ : ∃ c0, c0 = zeroCell := ⟨_, rfl⟩
          have HC4 : Hid ((freshM st1 k).cells k = some c0) := hid (by rw [freshM_none hck, hc0]; exact setF_same _ _ _)
          obtain ⟨bk, hbk⟩ : ∃ bk, bk = w3.heap.size := ⟨_, rfl⟩
          have HBK : Hid (setF loc2 k w3.heap.size k = bk) := hid ((setF_same _ _ _).trans hbk.symm)
          clear hck hw4 g34 hb4 h34 hm5 hc5 hz5 hF3 hnn hg5 hcm hb41 hx41 ho41 hb5 hx5 ho5 hA5 hc0 HG3 HB3 HX3 HO3 HA2 HB2 HX2 HO2 HG2
          go_upto_region 10 with fail
          rw [← hbk]
          clear hst hxl hel3 hbk
          obtain ⟨p4, hp4⟩ : ∃ q, q = (⟨setF loc2 k w3.heap.size, wF2, uF2, fun x => F2 x ∨ x = w3.heap.size⟩ : Fp) := ⟨_, rfl⟩
          clear w4
          obtain ⟨w4, rfl⟩ : ∃ q, q = w5 := ⟨_, rfl⟩
          have HG4 : Hid (Got L (rvOf A rs cap) ⟨loc, wF, uF, F⟩ w st p4 w4 (freshM st1 k)) := hid (by rw [hp4]; exact HG4.out)
          have HBK : Hid (p4.loc k = bk) := hid (by rw [hp4]; exact HBK.out)
          have HA4 : Hid (¬ p4.F (w.heap.size + 1) ∧ ¬ p4.F w.heap.size ∧ ∀ g, v2.ownBlock = some g → ¬ p4.F g) := hid (by rw [hp4]; exact HA4.out)
          clear hp4
          obtain ⟨loc4, wF4, uF4, F4⟩ := p4
          have HBK : Hid (loc4 k = bk) := HBK
          have HA4 : Hid (¬ F4 (w.heap.size + 1) ∧ ¬ F4 w.heap.size ∧ ∀ g, v2.ownBlock = some g → ¬ F4 g) := HA4
          obtain ⟨av4, h4⟩ := id HG4.out.eng
          dsimp only at h4
          have e4 := h4.e4
          have ex : w4.cell? ⟨w.heap.size, 0, none⟩ = some (En L) := by rw [HX4.out.cell]; rfl
          have HE4 := hid h4
          clear h4
          cases hwd : wordM (freshM st1 k) t with
          | none => have := HWR.out; unfold wroteM at this; rw [hwd] at this; cases this
          | some y =>
            obtain ⟨st5, d⟩ := y
            have hwr := HWR.out
            unfold wroteM at hwr
            rw [hwd] at hwr
            dsimp only at hwr
            have hcl := word_cells hwd
            have hck : st5.cells k = some c0 := by rw [hcl]; exact HC4.out
            rw [hck] at hwr
            rw [Option.getD_some] at hwr
            have HKP := hid hwr
            have HWD := hid hwd
            have HCK := hid hck
            clear hwd hwr hcl hck HWR
            go_wp2_with fail
            refine (word_any w4 L loc4 av4 wF4 uF4 F4 _ (freshM st1 k) st5 t d HE4.out HWD.out).mono ?_
            rintro e w5 ⟨rfl, wF5, F5, g5⟩
            have hn5 : ∀ x, x < w4.heap.size → ¬ F4 x → ¬ F5 x := fun x hx hf h => by
              rcases g5.blocks x h with h | h
              · exact hf h
              · omega
            have hb5 := g5.chg.blk HB4.out HA4.out.1
            have hx5 := g5.chg.blk HX4.out HA4.out.2.1
            have ho5 := own_chg HO4.out g5.chg HA4.out.2.2
            have hA5 : ¬ F5 (w.heap.size + 1) ∧ ¬ F5 w.heap.size ∧ ∀ g, v2.ownBlock = some g → ¬ F5 g := ⟨hn5 _ HB4.out.lt HA4.out.1, hn5 _ HX4.out.lt HA4.out.2.1, fun g hg => hn5 g (HO4.out.lt g hg).2 (HA4.out.2.2 g hg)⟩
            have hg5 := HG4.out.trans g5
            obtain ⟨av5, h5⟩ := id g5.eng
            dsimp only at h5
            have k0 := h5.k0 HCK.out
            have k3 := h5.k3 HCK.out
            have f0 := h5.kf HCK.out 0
            have f3 := h5.kf HCK.out 3
            have e1 := h5.e1
            have exx : w5.cell? ⟨w.heap.size, 0, none⟩ = some (En L) := by rw [hx5.cell]; rfl
            have hxb : w.heap.size ≠ loc4 k := blk_ne hx5 (h5.cel k c0 HCK.out).1 (by decide)
            have heb : L.eb ≠ loc4 k := h5.eb_loc HCK.out
            rw [HBK.out] at k0 k3 f0 f3 hxb heb
            have HE5 := hid h5
            have HB5 := hid hb5
            have HX5 := hid hx5
            have HO5 := hid ho5
            have HA5 := hid hA5
            have HG5 := hid hg5
            clear g5 hn5 hb5 hx5 ho5 hA5 hg5 h5 e4 ex HB4 HX4 HO4 HA4 HG4
            by_cases hd : d = c0.digest
            · have hdb : (d == c0.digest) = true := beq_iff_eq.2 hd
              have hdn : (d != c0.digest) = false := by rw [bne, hdb]; rfl
              have HD := hid hd
              clear hd
              go_upto_region 13 with fail
              obtain ⟨w6, rfl⟩ : ∃ q, q = w5 := ⟨_, rfl⟩
              have HE6 := HE5
              have HG6 := HG5
              have HB6 := HB5
              have HX6 := HX5
              have HO6 := HO5
              have HC6 := HCK
              obtain ⟨c1, hc1⟩ : ∃ c1, c1 = c0 := ⟨_, rfl⟩
              rw [← hc1] at HC6
              have HST : Hid (∀ r, st5.setCell k { c0 with digest := d, turned := if d = c0.digest then c0.turned else st5.rev, asked := asked, at_ := r } = st5.setCell k { c1 with asked := asked, at_ := r }) := hid (fun r => by rw [if_pos HD.out, hc1, HD.out])
              have HKP7 := HKP.out
              rw [HST.out] at HKP7
              have HKP7 := hid HKP7
              obtain ⟨st6, hst6⟩ : ∃ q, q = st5 := ⟨_, rfl⟩
              rw [← hst6] at HE6 HG6 HC6 HKP7
              clear hc1 HCK HD k0 k3 f0 f3 e1 exx HE5 HG5 HB5 HX5 HO5 hdb hdn hst6
              have k1 := HE6.out.k1 HC6.out
              have k2 := HE6.out.k2 HC6.out
              have f1 := HE6.out.kf HC6.out 1
              have f2 := HE6.out.kf HC6.out 2
              have e1 := HE6.out.e1
              have exx : w6.cell? ⟨w.heap.size, 0, none⟩ = some (En L) := by rw [HX6.out.cell]; rfl
              have exa : w6.cell? ⟨w.heap.size + 1, 0, none⟩ = some v2 := by rw [HB6.out.cell]; rfl
              have hab : w.heap.size + 1 ≠ loc4 k := blk_ne HB6.out (HE6.out.cel k _ HC6.out).1 (by decide)
              rw [HBK.out] at k1 k2 f1 f2 hab
              obtain ⟨A2, cap2, rfl⟩ := oneCell_own HO6.out
              go_region
              go_wp2_with fail
              obtain ⟨w7, hw7⟩ : ∃ w7, ((w6.setCell ⟨bk, 1, none⟩ (.slice A2 asked.length cap2)).setCell ⟨bk, 2, none⟩ (.int .i64 st6.rev)).drew = w7 := ⟨_, rfl⟩
              have hS7 : Chg (fun x => x = loc4 k) w6 w7 := by rw [← hw7, HBK.out]; exact ((((Chg.refl (fun x => x = bk) w6).setCell (p := ⟨bk, 1, none⟩) rfl _).setCell (p := ⟨bk, 2, none⟩) rfl _).drew)
              have hb7 := (((HE6.out.cel k c1 HC6.out).1.set_ 1 (.slice A2 asked.length cap2)).set_ 2 (.int .i64 st6.rev)).drew
              obtain ⟨c7, hc7⟩ : ∃ c7, c7 = { c1 with asked := asked, at_ := st6.rev } := ⟨_, rfl⟩
              have g7 := HE6.out.gotList (c := c7) HC6.out hS7 (by rw [← hw7]; rw [HBK.out] at hb7 ⊢; rw [hc7]; exact hb7) (by rw [hc7]; exact own_zero HO6.out) HA5.out.2.2 (by rw [hc7]; exact HE6.out.celt k c1 HC6.out) (by rw [hc7]; exact HOKL.out) (fun g hg => (HO6.out.lt g hg).1) HG6.out
              rw [hw7]
              have hkp := HKP7.out
              rw [← hc7] at hkp
              have hkk := keep_any w7 L _ _ (st6.setCell k c7) k c7 t _ g7.eng HK.out (setF_same _ _ _) (by omega) hkp
              dsimp only at hkk
              rw [show loc4 k = bk from HBK.out] at hkk
              have HKK := hid hkk
              have HG7 := hid g7
              clear hw7 hS7 hb7 hc7 g7 hkp hkk k1 k2 f1 f2 e1 exx exa hab
              refine HKK.out.mono ?_
              rintro e w8 ⟨rfl, p8, g8⟩
              have HG8 := hid (HG7.out.trans g8)
              clear g8
              go_wp2_with fail
              go_ret
              exact ⟨rfl, by omega, _, HG8.out⟩
            · have hdb : (d == c0.digest) = false := beq_eq_false_iff_ne.2 hd
              have hdn : (d != c0.digest) = true := by rw [bne, hdb]; rfl
              have HD := hid hd
              clear hd
              go_upto_region 13 with fail
              obtain ⟨w6, hw6⟩ : ∃ q, q = (w5.setCell ⟨bk, 0, none⟩ (.int .i64 d)).setCell ⟨bk, 3, none⟩ (.int .i64 st5.rev) := ⟨_, rfl⟩
              have hS : Chg (fun x => x = loc4 k) w5 w6 := by rw [hw6, HBK.out]; exact ((Chg.refl (fun x => x = bk) w5).setCell (p := ⟨bk, 0, none⟩) rfl _).setCell (p := ⟨bk, 3, none⟩) rfl _
              have hb := ((HE5.out.cel k c0 HCK.out).1.set_ 0 (.int .i64 d)).set_ 3 (.int .i64 st5.rev)
              obtain ⟨c1, hc1⟩ : ∃ c1, c1 = { c0 with digest := d, turned := st5.rev } := ⟨_, rfl⟩
              have g6 := HE5.out.gotCell (c := c1) HCK.out hS (by rw [hw6]; rw [HBK.out] at hb ⊢; rw [hc1]; exact hb) (by rw [hc1]) (by rw [hc1]; exact HE5.out.celt k c0 HCK.out)
              obtain ⟨st6, hst6⟩ : ∃ q, q = st5.setCell k c1 := ⟨_, rfl⟩
              rw [← hst6] at g6
              have HST : Hid (∀ r, st5.setCell k { c0 with digest := d, turned := if d = c0.digest then c0.turned else st5.rev, asked := asked, at_ := r } = st6.setCell k { c1 with asked := asked, at_ := r }) := hid (fun r => by rw [if_neg HD.out, hst6, setCell_twice, hc1])
              have HG6 := hid (HG5.out.trans g6)
              obtain ⟨av6, h6⟩ := id g6.eng
              dsimp only at h6
              have HE6 := hid h6
              have HB6 := hid (hS.blk HB5.out (blk_ne HB5.out (HE5.out.cel k c0 HCK.out).1 (by decide)))
              have HX6 := hid (hS.blk HX5.out (blk_ne HX5.out (HE5.out.cel k c0 HCK.out).1 (by decide)))
              have HO6 := hid (own_chg HO5.out hS (fun g hg e => own_ne_b HO5.out (HE5.out.cel k c0 HCK.out).1 (by decide) g hg e))
              have HC6 : Hid (st6.cells k = some c1) := hid (by rw [hst6]; exact setF_same _ _ _)
              have HKP7 := HKP.out
              rw [HST.out, show st5.rev = st6.rev by rw [hst6]; rfl] at HKP7
              have HKP7 := hid HKP7
              rw [← hw6]
              clear hw6 hS hb hc1 g6 h6 hst6 HCK HD k0 k3 f0 f3 e1 exx HE5 HG5 HB5 HX5 HO5 hdb hdn
              have k1 := HE6.out.k1 HC6.out
              have k2 := HE6.out.k2 HC6.out
              have f1 := HE6.out.kf HC6.out 1
              have f2 := HE6.out.kf HC6.out 2
              have e1 := HE6.out.e1
              have exx : w6.cell? ⟨w.heap.size, 0, none⟩ = some (En L) := by rw [HX6.out.cell]; rfl
              have exa : w6.cell? ⟨w.heap.size + 1, 0, none⟩ = some v2 := by rw [HB6.out.cell]; rfl
              have hab : w.heap.size + 1 ≠ loc4 k := blk_ne HB6.out (HE6.out.cel k _ HC6.out).1 (by decide)
              rw [HBK.out] at k1 k2 f1 f2 hab
              obtain ⟨A2, cap2, rfl⟩ := oneCell_own HO6.out
              go_region
              go_wp2_with fail
              obtain ⟨w7, hw7⟩ : ∃ w7, ((w6.setCell ⟨bk, 1, none⟩ (.slice A2 asked.length cap2)).setCell ⟨bk, 2, none⟩ (.int .i64 st6.rev)).drew = w7 := ⟨_, rfl⟩
              have hS7 : Chg (fun x => x = loc4 k) w6 w7 := by rw [← hw7, HBK.out]; exact ((((Chg.refl (fun x => x = bk) w6).setCell (p := ⟨bk, 1, none⟩) rfl _).setCell (p := ⟨bk, 2, none⟩) rfl _).drew)
              have hb7 := (((HE6.out.cel k c1 HC6.out).1.set_ 1 (.slice A2 asked.length cap2)).set_ 2 (.int .i64 st6.rev)).drew
              obtain ⟨c7, hc7⟩ : ∃ c7, c7 = { c1 with asked := asked, at_ := st6.rev } := ⟨_, rfl⟩
              have g7 := HE6.out.gotList (c := c7) HC6.out hS7 (by rw [← hw7]; rw [HBK.out] at hb7 ⊢; rw [hc7]; exact hb7) (by rw [hc7]; exact own_zero HO6.out) HA5.out.2.2 (by rw [hc7]; exact HE6.out.celt k c1 HC6.out) (by rw [hc7]; exact HOKL.out) (fun g hg => (HO6.out.lt g hg).1) HG6.out
              rw [hw7]
              have hkp := HKP7.out
              rw [← hc7] at hkp
              have hkk := keep_any w7 L _ _ (st6.setCell k c7) k c7 t _ g7.eng HK.out (setF_same _ _ _) (by omega) hkp
              dsimp only at hkk
              rw [show loc4 k = bk from HBK.out] at hkk
              have HKK := hid hkk
              have HG7 := hid g7
              clear hw7 hS7 hb7 hc7 g7 hkp hkk k1 k2 f1 f2 e1 exx exa hab
              refine HKK.out.mono ?_
              rintro e w8 ⟨rfl, p8, g8⟩
              have HG8 := hid (HG7.out.trans g8)
              clear g8
              go_wp2_with fail
              go_ret
              exact ⟨rfl, by omega, _, HG8.out⟩
end Go.Proofs.Ytfkedhclhmbpfaa
