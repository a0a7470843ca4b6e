/-
  What the engine's ask does while its key is under way.
-/
import Derived.Test.YtfkedhclhmbpfaaTrd
import Derived.Outline
namespace Go.Proofs.Ytfkedhclhmbpfaa
open Go.RowKit Go.Maps
set_option linter.unusedVariables false
set_option linter.unusedSimpArgs false

/-- What ask's closure leaves. -/
def AskedR (L : Lay) (rv : Value) (p0 : Fp) (w0 : World) (st0 : St) (sb : Nat) (st' : St) (s : ByteArray) (e : Ending) (w' : World) : Prop :=
  e = .returned (.tuple #[]) ∧ ∃ p', Got L rv p0 w0 st0 p' w' st' ∧ Blk w' sb 9 #[.string s] ∧ s.size ≤ 1000000

theorem got_has {L : Lay} {rv : Value} {loc : Int → Nat} {wF uF F : Nat → Prop} {p2 : Fp} {w1 w2 : World} {st stm : St} {k : Int} {c c2 : Cell} (g : Got L rv ⟨loc, wF, uF, F⟩ w1 st p2 w2 stm) (hc : st.cells k = some c) (hc2 : stm.cells k = some c2) : w2.cell? ⟨loc k, 4, none⟩ = some (.bool c2.has) := by
  obtain ⟨av, h⟩ := g.eng
  have h1 := h.k4 hc2
  rwa [(g.loc k (by rw [hc]; rfl)).2] at h1

set_option maxRecDepth 100000 in
set_option maxHeartbeats 16000000 in
theorem ask_in (L : Lay) (rv : Value) (A : Option Addr) (rs : List Rule) (step : St → Int → Option (St × ByteArray)) (turned : St → Int → Option (St × Int)) (hS : StepOK L rv A rs step) (hT : TurnedOK L rv A rs turned)
    (p0 : Fp) (w0 : World) (st0 : St) (w : World) (p : Fp) (st st' : St) (k : Int) (s : ByteArray) (x kb sb : Nat) (h0 : Got L rv p0 w0 st0 p w st) (hR : RulesAt w p.F A rs) (hk : ok k) (hx : Blk w x 26 #[En L]) (hkb : Blk w kb 3 #[enc k]) (hsb : Blk w sb 9 #[.string noBytes])
    (hxF : ¬ p.F x) (hkF : ¬ p.F kb) (hsF : ¬ p.F sb) (hs0 : w0.heap.size ≤ sb) (hm : askIn step turned k st = some (st', s)) :
    Calls Try.prog 35 #[.pointer (some ⟨x, 0, none⟩), .pointer (some ⟨kb, 0, none⟩), .pointer (some ⟨sb, 0, none⟩)] w (AskedR L rv p0 w0 st0 sb st' s) := by
  obtain ⟨loc, wF, uF, F⟩ := p
  obtain ⟨av, h⟩ := id h0.eng
  dsimp only at h hR hxF hkF hsF
  have ex : w.cell? ⟨x, 0, none⟩ = some (En L) := by rw [hx.cell]; rfl
  have ek : w.cell? ⟨kb, 0, none⟩ = some (enc k) := by rw [hkb.cell]; rfl
  have e3 := h.e3
  have hxs : x ≠ sb := blk_ne hx hsb (by decide)
  have hks : kb ≠ sb := blk_ne hkb hsb (by decide)
  unfold askIn at hm
  cases hc : st.cells k with
  | none =>
    rw [hc] at hm
    simp only at hm
    have hlook := fun n => look_none (h.mono ((Chg.refl (fun _ => False) w).drewN n)) hk hc
    have HH := hid h
    have H0 := hid h0
    have HR := hid hR
    have HM := hid hm
    have HX := hid hx
    have HKB := hid hkb
    have HSB := hid hsb
    have HK := hid hk
    have HS := hid hS
    have HT := hid hT
    have HS0 := hid hs0
    have HF := hid (show ¬ F x ∧ ¬ F kb ∧ ¬ F sb from ⟨hxF, hkF, hsF⟩)
    clear h h0 hR hm hx hkb hsb hk hS hT hs0 hxF hkF hsF
    clear hc
    go_enter Try.func35, Try.ntmps35
    go_wp2_with fail
    go_quiet (fail)
    generalize hw1 : w.drewN _ = w1
    have g1 : Chg (fun _ => False) w w1 := by rw [← hw1]; exact (Chg.refl _ _).drewN _
    have ex := g1.cell ex (fun h => h)
    have ek := g1.cell ek (fun h => h)
    have HE1 := hid (HH.out.mono g1)
    have HG1 := hid (H0.out.mono g1)
    have HX1 := hid (g1.blk HX.out (fun h => h))
    have HK1 := hid (g1.blk HKB.out (fun h => h))
    have HS1 := hid (g1.blk HSB.out (fun h => h))
    have HR1 := hid (HR.out.chg (g1.weaken (fun _ _ h => h.elim)) (fun k hk => .inl hk))
    clear hw1 g1 e3 hlook
    go_wp2_with fail
    go_quiet (fail)
    generalize hw2 : w1.drewN _ = w2
    have g2 : Chg (fun _ => False) w1 w2 := by rw [← hw2]; exact (Chg.refl _ _).drewN _
    have ex := g2.cell ex (fun h => h)
    have ek := g2.cell ek (fun h => h)
    obtain ⟨stm, hstm⟩ : ∃ q, q = st := ⟨_, rfl⟩
    obtain ⟨loc2, hlc⟩ : ∃ q, q = loc := ⟨_, rfl⟩
    obtain ⟨wF2, hw⟩ : ∃ q, q = wF := ⟨_, rfl⟩
    obtain ⟨uF2, hu⟩ : ∃ q, q = uF := ⟨_, rfl⟩
    obtain ⟨F2, hf⟩ : ∃ q, q = F := ⟨_, rfl⟩
    have HE : Hid (EngP w2 L loc2 av wF2 uF2 F2 rv stm) := hid (by rw [hlc, hw, hu, hf, hstm]; exact HE1.out.mono g2)
    have HG : Hid (Got L rv p0 w0 st0 ⟨loc2, wF2, uF2, F2⟩ w2 stm) := hid (by rw [hlc, hw, hu, hf, hstm]; exact HG1.out.mono g2)
    have HX2 := hid (g2.blk HX1.out (fun h => h))
    have HS2 := hid (g2.blk HS1.out (fun h => h))
    have HR2 : Hid (RulesAt w2 F2 A rs) := hid (by rw [hf]; exact HR1.out.chg (g2.weaken (fun _ _ h => h.elim)) (fun k hk => .inl hk))
    have HF2 : Hid (¬ F2 x ∧ ¬ F2 kb ∧ ¬ F2 sb) := hid (by rw [hf]; exact HF.out)
    have HLK : Hid (loc2 k = loc k) := hid (by rw [hlc])
    clear hw2 g2 hw hu hf
    have hm := HM.out
    rw [← hstm] at hm
    clear HM hlc hstm
    unfold missIn at hm
    cases hcy : stm.cycle with
    | true =>
      rw [if_pos hcy] at hm
      simp only [Option.some.injEq, Prod.mk.injEq] at hm
      obtain ⟨rfl, rfl⟩ := hm
      have e8 := HE.out.e8
      rw [hcy] at e8
      clear hcy
      go_wp2_with fail
      exact bodyPost_end (results_none rfl _ _ _) rfl ⟨rfl, _, HG.out, HS2.out, Nat.zero_le _⟩
    | false =>
      rw [if_neg (by rw [hcy]; simp)] at hm
      have e8 := HE.out.e8
      rw [hcy] at e8
      have HST := hid hm
      clear hcy hm
      go_wp2_with fail
      refine (HS.out w2 _ stm k _ _ HE.out.at_ HR2.out HK.out HST.out).mono ?_
      rintro e w9 ⟨rfl, hts, ⟨loc9, wF9, uF9, F9⟩, g9⟩
      have hb9 := g9.chg.blk HS2.out HF2.out.2.2
      have c9 : w9.cell? ⟨sb, 0, none⟩ = some (.string noBytes) := by rw [hb9.cell]; rfl
      have f9 := hb9.frozen 0
      have hn9 : ¬ F9 sb := fun hh => by
        rcases g9.blocks sb hh with hh | hh
        · exact HF2.out.2.2 hh
        · have := HS2.out.lt; omega
      have HG9 := hid (HG.out.trans g9)
      have HB9 := hid hb9
      have HN9 := hid hn9
      clear g9 hb9 hn9 ex ek e8
      go_wp2_with fail
      exact bodyPost_end (results_none rfl _ _ _) rfl ⟨rfl, _, HG9.out.side ((Chg.refl (fun q => q = sb) w9).setCell (p := ⟨sb, 0, none⟩) rfl _) (fun q hq => by rw [hq]; exact ⟨HN9.out, HS0.out⟩), HB9.out.set_ 0 _, hts⟩
  | some c =>
    rw [hc] at hm
    simp only at hm
    have hlook := fun n => look_cell (h.mono ((Chg.refl (fun _ => False) w).drewN n)) hk hc
    have HH := hid h
    have H0 := hid h0
    have HR := hid hR
    have HM := hid hm
    have HX := hid hx
    have HKB := hid hkb
    have HSB := hid hsb
    have HK := hid hk
    have HS := hid hS
    have HT := hid hT
    have HS0 := hid hs0
    have HF := hid (show ¬ F x ∧ ¬ F kb ∧ ¬ F sb from ⟨hxF, hkF, hsF⟩)
    clear h h0 hR hm hx hkb hsb hk hS hT hs0 hxF hkF hsF
    have HC := hid hc
    clear hc
    go_enter Try.func35, Try.ntmps35
    go_wp2_with fail
    go_quiet (fail)
    generalize hw1 : w.drewN _ = w1
    have g1 : Chg (fun _ => False) w w1 := by rw [← hw1]; exact (Chg.refl _ _).drewN _
    have ex := g1.cell ex (fun h => h)
    have ek := g1.cell ek (fun h => h)
    have HE1 := hid (HH.out.mono g1)
    have HG1 := hid (H0.out.mono g1)
    have HX1 := hid (g1.blk HX.out (fun h => h))
    have HK1 := hid (g1.blk HKB.out (fun h => h))
    have HS1 := hid (g1.blk HSB.out (fun h => h))
    have HR1 := hid (HR.out.chg (g1.weaken (fun _ _ h => h.elim)) (fun k hk => .inl hk))
    clear hw1 g1 e3 hlook
    have e1 := HE1.out.e1
    have k2 := HE1.out.k2 HC.out
    obtain ⟨a, ha⟩ : ∃ a, a = c.at_ := ⟨_, rfl⟩
    obtain ⟨r, hr⟩ : ∃ r, r = st.rev := ⟨_, rfl⟩
    rw [← ha] at k2
    rw [← hr] at e1
    have hm := HM.out
    rw [← ha, ← hr] at hm
    have HM := hid hm
    clear ha hr hm
    by_cases hat : a = r
    · have hq1 : (a == r) = true := beq_iff_eq.2 hat
      have hq2 : (a != r) = false := by rw [bne, hq1]; rfl
      have hm := HM.out
      rw [if_pos hat] at hm
      unfold foundIn at hm
      rw [HC.out] at hm
      simp only at hm
      have k4 := HE1.out.k4 HC.out
      have HM := hid hm
      clear hat hm
      cases hhas : c.has with
      | true =>
        rw [hhas] at k4
        have hm := HM.out
        rw [if_pos hhas] at hm
        have HM := hid hm
        clear hhas hm
        go_wp2_with fail
        go_quiet (fail)
        generalize hw2 : w1.drewN _ = w2
        have g2 : Chg (fun _ => False) w1 w2 := by rw [← hw2]; exact (Chg.refl _ _).drewN _
        have ex := g2.cell ex (fun h => h)
        have ek := g2.cell ek (fun h => h)
        obtain ⟨stm, hstm⟩ : ∃ q, q = st := ⟨_, rfl⟩
        obtain ⟨loc2, hlc⟩ : ∃ q, q = loc := ⟨_, rfl⟩
        obtain ⟨wF2, hw⟩ : ∃ q, q = wF := ⟨_, rfl⟩
        obtain ⟨uF2, hu⟩ : ∃ q, q = uF := ⟨_, rfl⟩
        obtain ⟨F2, hf⟩ : ∃ q, q = F := ⟨_, rfl⟩
        have HE : Hid (EngP w2 L loc2 av wF2 uF2 F2 rv stm) := hid (by rw [hlc, hw, hu, hf, hstm]; exact HE1.out.mono g2)
        have HG : Hid (Got L rv p0 w0 st0 ⟨loc2, wF2, uF2, F2⟩ w2 stm) := hid (by rw [hlc, hw, hu, hf, hstm]; exact HG1.out.mono g2)
        have HX2 := hid (g2.blk HX1.out (fun h => h))
        have HS2 := hid (g2.blk HS1.out (fun h => h))
        have HR2 : Hid (RulesAt w2 F2 A rs) := hid (by rw [hf]; exact HR1.out.chg (g2.weaken (fun _ _ h => h.elim)) (fun k hk => .inl hk))
        have HF2 : Hid (¬ F2 x ∧ ¬ F2 kb ∧ ¬ F2 sb) := hid (by rw [hf]; exact HF.out)
        have HLK : Hid (loc2 k = loc k) := hid (by rw [hlc])
        clear hw2 g2 hw hu hf
        clear e1 k2 k4 hq1 hq2
        obtain ⟨c2, hc2⟩ : ∃ q, q = c := ⟨_, rfl⟩
        have HC2 : Hid (stm.cells k = some c2) := hid (by rw [hstm, hc2]; exact HC.out)
        have hm := HM.out
        rw [← hstm, ← hc2] at hm
        clear HM hlc hstm hc2
        have hus := hm
        simp only [Option.map_eq_some_iff, Prod.mk.injEq] at hus
        obtain ⟨st9, hus, rfl, rfl⟩ := hus
        unfold useM at hus
        split at hus
        · rename_i hul
          obtain rfl := (Option.some.inj hus).symm
          have HUL : Hid (stm.used.length ≤ 90000) := hid hul
          have e6 := HE.out.e6
          have hlu := HE.out.usd
          have HLU := hid hlu
          clear hm hus hul hlu
          go_upto_region 2 with fail
          go_cut [39] (fun v wx => ∃ uF3 F3, Got L rv ⟨loc2, wF2, uF2, F2⟩ w2 stm ⟨loc2, wF2, uF3, F3⟩ wx { stm with used := useL stm.used k })
          case first =>
            go_region_with (go_at_call 33; (refine (LI.use_any _ L.ub uF2 stm.used k (by first | exact HLU.out | exact HLU.out.chg (Chg.refl (fun _ => False) _).drew (fun _ _ h => h)) HK.out (by have := HUL.out; omega)).mono ?_); rintro e w3 ⟨rfl, hl3, hc3⟩; have g3 : ∃ uF3 F3, Got L rv ⟨loc2, wF2, uF2, F2⟩ w2 stm ⟨loc2, wF2, uF3, F3⟩ w3 { stm with used := useL stm.used k } := (by first | exact ⟨_, _, HE.out.gotUse hl3 hc3⟩ | exact ⟨_, _, ((Got.refl HE.out.at_).mono (Chg.refl _ _).drew).trans ((HE.out.mono (Chg.refl (fun _ => False) _).drew).gotUse hl3 hc3)⟩); clear hl3 hc3)
            all_goals (go_wp2_with fail; go_meet; obtain ⟨uF3, F3, g3⟩ := g3; exact ⟨uF3, F3, by first | exact g3 | exact g3.mono (Chg.refl _ _).drew⟩)
          case rest =>
            obtain ⟨uF3, F3, g3⟩ := hcut
            obtain ⟨av3, h3⟩ := id g3.eng
            dsimp only at h3
            have k5 := h3.k5 (k := k) (c := c2) HC2.out
            have hb3 := g3.chg.blk HS2.out HF2.out.2.2
            have c3 : wc.cell? ⟨sb, 0, none⟩ = some (.string noBytes) := by rw [hb3.cell]; rfl
            have f3 := hb3.frozen 0
            have hn3 : ¬ F3 sb := fun hh => by
              rcases g3.blocks sb hh with hh | hh
              · exact HF2.out.2.2 hh
              · have := HS2.out.lt; omega
            have HCS := hid (h3.celt k c2 HC2.out)
            have HG3 := hid (HG.out.trans g3)
            have HB3 := hid hb3
            have HN3 := hid hn3
            have hls : loc2 k = loc k := HLK.out
            rw [hls] at k5
            clear g3 h3 hb3 hn3 ex ek e6 hls
            go_wp2_with fail
            exact bodyPost_end (results_none rfl _ _ _) rfl ⟨rfl, _, HG3.out.side ((Chg.refl (fun q => q = sb) wc).setCell (p := ⟨sb, 0, none⟩) rfl _) (fun q hq => by rw [hq]; exact ⟨HN3.out, HS0.out⟩), HB3.out.set_ 0 _, HCS.out⟩
        · cases hus
      | false =>
        rw [hhas] at k4
        have hm := HM.out
        rw [if_neg (by rw [hhas]; simp)] at hm
        have HM := hid hm
        clear hhas hm
        go_wp2_with fail
        go_quiet (fail)
        generalize hw2 : w1.drewN _ = w2
        have g2 : Chg (fun _ => False) w1 w2 := by rw [← hw2]; exact (Chg.refl _ _).drewN _
        have ex := g2.cell ex (fun h => h)
        have ek := g2.cell ek (fun h => h)
        obtain ⟨stm, hstm⟩ : ∃ q, q = st := ⟨_, rfl⟩
        obtain ⟨loc2, hlc⟩ : ∃ q, q = loc := ⟨_, rfl⟩
        obtain ⟨wF2, hw⟩ : ∃ q, q = wF := ⟨_, rfl⟩
        obtain ⟨uF2, hu⟩ : ∃ q, q = uF := ⟨_, rfl⟩
        obtain ⟨F2, hf⟩ : ∃ q, q = F := ⟨_, rfl⟩
        have HE : Hid (EngP w2 L loc2 av wF2 uF2 F2 rv stm) := hid (by rw [hlc, hw, hu, hf, hstm]; exact HE1.out.mono g2)
        have HG : Hid (Got L rv p0 w0 st0 ⟨loc2, wF2, uF2, F2⟩ w2 stm) := hid (by rw [hlc, hw, hu, hf, hstm]; exact HG1.out.mono g2)
        have HX2 := hid (g2.blk HX1.out (fun h => h))
        have HS2 := hid (g2.blk HS1.out (fun h => h))
        have HR2 : Hid (RulesAt w2 F2 A rs) := hid (by rw [hf]; exact HR1.out.chg (g2.weaken (fun _ _ h => h.elim)) (fun k hk => .inl hk))
        have HF2 : Hid (¬ F2 x ∧ ¬ F2 kb ∧ ¬ F2 sb) := hid (by rw [hf]; exact HF.out)
        have HLK : Hid (loc2 k = loc k) := hid (by rw [hlc])
        clear hw2 g2 hw hu hf
        clear e1 k2 k4 hq1 hq2
        have hm := HM.out
        rw [← hstm] at hm
        clear HM hlc hstm
        unfold missIn at hm
        cases hcy : stm.cycle with
        | true =>
          rw [if_pos hcy] at hm
          simp only [Option.some.injEq, Prod.mk.injEq] at hm
          obtain ⟨rfl, rfl⟩ := hm
          have e8 := HE.out.e8
          rw [hcy] at e8
          clear hcy
          go_wp2_with fail
          exact bodyPost_end (results_none rfl _ _ _) rfl ⟨rfl, _, HG.out, HS2.out, Nat.zero_le _⟩
        | false =>
          rw [if_neg (by rw [hcy]; simp)] at hm
          have e8 := HE.out.e8
          rw [hcy] at e8
          have HST := hid hm
          clear hcy hm
          go_wp2_with fail
          refine (HS.out w2 _ stm k _ _ HE.out.at_ HR2.out HK.out HST.out).mono ?_
          rintro e w9 ⟨rfl, hts, ⟨loc9, wF9, uF9, F9⟩, g9⟩
          have hb9 := g9.chg.blk HS2.out HF2.out.2.2
          have c9 : w9.cell? ⟨sb, 0, none⟩ = some (.string noBytes) := by rw [hb9.cell]; rfl
          have f9 := hb9.frozen 0
          have hn9 : ¬ F9 sb := fun hh => by
            rcases g9.blocks sb hh with hh | hh
            · exact HF2.out.2.2 hh
            · have := HS2.out.lt; omega
          have HG9 := hid (HG.out.trans g9)
          have HB9 := hid hb9
          have HN9 := hid hn9
          clear g9 hb9 hn9 ex ek e8
          go_wp2_with fail
          exact bodyPost_end (results_none rfl _ _ _) rfl ⟨rfl, _, HG9.out.side ((Chg.refl (fun q => q = sb) w9).setCell (p := ⟨sb, 0, none⟩) rfl _) (fun q hq => by rw [hq]; exact ⟨HN9.out, HS0.out⟩), HB9.out.set_ 0 _, hts⟩
    · have hq1 : (a == r) = false := beq_eq_false_iff_ne.2 hat
      have hq2 : (a != r) = true := by rw [bne, hq1]; rfl
      have hm := HM.out
      rw [if_neg hat] at hm
      have HM := hid hm
      clear hat hm
      cases hri : rightM turned k st with
      | none => have := HM.out; rw [hri] at this; cases this
      | some y =>
        obtain ⟨stm, b⟩ := y
        have HRI := hid hri
        have hm := HM.out
        rw [hri] at hm
        have HM := hid hm
        clear hri hm
        cases b with
        | false =>
          have HM : Hid (missIn step k stm = some (st', s)) := HM
          go_upto_region 1 with fail
          go_cut [33] (fun v wx => v = .bool false ∧ ∃ p2, Got L rv ⟨loc, wF, uF, F⟩ w1 st p2 wx stm)
          case first =>
            first | (go_region_with (go_at_call 36; ((with_reducible refine (right_any turned L rv A rs HT.out _ ⟨loc, wF, uF, F⟩ st k c stm false (by first | exact HE1.out.at_ | exact (HE1.out.mono (Chg.refl _ _).drew).at_) (by first | exact HR1.out | exact HR1.out.chg ((Chg.refl (fun _ => False) _).drew.weaken (fun _ _ h => h.elim)) (fun k hk => .inl hk)) (HH.out.aok k c HC.out) HC.out HRI.out).mono ?_)); rintro e w2 ⟨rfl, p2, g2⟩; have g3 : Got L rv ⟨loc, wF, uF, F⟩ w1 st p2 w2 stm := (by first | exact g2 | exact ((Got.refl HE1.out.at_).mono (Chg.refl _ _).drew).trans g2); clear g2)) | fail
            all_goals (go_wp2_with fail; go_meet; exact ⟨rfl, p2, by first | exact g3 | exact g3.mono (Chg.refl _ _).drew⟩)
          case rest =>
            obtain ⟨rfl, ⟨loc2, wF2, uF2, F2⟩, g2⟩ := hcut
            obtain ⟨w2, rfl⟩ : ∃ q, q = wc := ⟨_, rfl⟩
            have hx2 := g2.chg.blk HX1.out HF.out.1
            have hk2 := g2.chg.blk HK1.out HF.out.2.1
            have HS2 := hid (g2.chg.blk HS1.out HF.out.2.2)
            have ex := hx2.cell 0
            have ek := hk2.cell 0
            have hfar : ∀ q, q < w1.heap.size → ¬ F q → ¬ F2 q := fun q hq hn hh => by
              rcases g2.blocks q hh with hh | hh
              · exact hn hh
              · omega
            have HF2 : Hid (¬ F2 x ∧ ¬ F2 kb ∧ ¬ F2 sb) := hid ⟨hfar x HX1.out.lt HF.out.1, hfar kb HK1.out.lt HF.out.2.1, hfar sb HS1.out.lt HF.out.2.2⟩
            obtain ⟨av2, h2⟩ := id g2.eng
            dsimp only at h2
            have HG := hid (HG1.out.trans g2)
            have HE := hid h2
            have HR2 := hid (HR1.out.got g2)
            have HLK : Hid (loc2 k = loc k) := hid (g2.loc k (by rw [HC.out]; rfl)).2
            clear g2 h2 hx2 hk2 hfar e1 k2 hq1 hq2
            have hm := HM.out
            clear HM
            unfold missIn at hm
            cases hcy : stm.cycle with
            | true =>
              rw [if_pos hcy] at hm
              simp only [Option.some.injEq, Prod.mk.injEq] at hm
              obtain ⟨rfl, rfl⟩ := hm
              have e8 := HE.out.e8
              rw [hcy] at e8
              clear hcy
              go_wp2_with fail
              exact bodyPost_end (results_none rfl _ _ _) rfl ⟨rfl, _, HG.out, HS2.out, Nat.zero_le _⟩
            | false =>
              rw [if_neg (by rw [hcy]; simp)] at hm
              have e8 := HE.out.e8
              rw [hcy] at e8
              have HST := hid hm
              clear hcy hm
              go_wp2_with fail
              refine (HS.out w2 _ stm k _ _ HE.out.at_ HR2.out HK.out HST.out).mono ?_
              rintro e w9 ⟨rfl, hts, ⟨loc9, wF9, uF9, F9⟩, g9⟩
              have hb9 := g9.chg.blk HS2.out HF2.out.2.2
              have c9 : w9.cell? ⟨sb, 0, none⟩ = some (.string noBytes) := by rw [hb9.cell]; rfl
              have f9 := hb9.frozen 0
              have hn9 : ¬ F9 sb := fun hh => by
                rcases g9.blocks sb hh with hh | hh
                · exact HF2.out.2.2 hh
                · have := HS2.out.lt; omega
              have HG9 := hid (HG.out.trans g9)
              have HB9 := hid hb9
              have HN9 := hid hn9
              clear g9 hb9 hn9 ex ek e8
              go_wp2_with fail
              exact bodyPost_end (results_none rfl _ _ _) rfl ⟨rfl, _, HG9.out.side ((Chg.refl (fun q => q = sb) w9).setCell (p := ⟨sb, 0, none⟩) rfl _) (fun q hq => by rw [hq]; exact ⟨HN9.out, HS0.out⟩), HB9.out.set_ 0 _, hts⟩
        | true =>
          have HM : Hid (foundIn step k stm = some (st', s)) := HM
          have hm := HM.out
          unfold foundIn at hm
          cases hc2 : stm.cells k with
          | none => rw [hc2] at hm; cases hm
          | some c2 =>
            rw [hc2] at hm
            simp only at hm
            have HM := hid hm
            have HC2 := hid hc2
            clear hm hc2
            cases hhas : c2.has with
            | true =>
              have hm := HM.out
              rw [if_pos hhas] at hm
              have HM := hid hm
              have HHAS := hid hhas
              clear hm hhas
              go_upto_region 1 with fail
              go_cut [33] (fun v wx => v = .bool true ∧ ∃ p2, Got L rv ⟨loc, wF, uF, F⟩ w1 st p2 wx stm)
              case first =>
                go_region_with (go_at_call 36; ((with_reducible refine (right_any turned L rv A rs HT.out _ ⟨loc, wF, uF, F⟩ st k c stm true (by first | exact HE1.out.at_ | exact (HE1.out.mono (Chg.refl _ _).drew).at_) (by first | exact HR1.out | exact HR1.out.chg ((Chg.refl (fun _ => False) _).drew.weaken (fun _ _ h => h.elim)) (fun k hk => .inl hk)) (HH.out.aok k c HC.out) HC.out HRI.out).mono ?_)); rintro e w2 ⟨rfl, p2, g2⟩; have g3 : Got L rv ⟨loc, wF, uF, F⟩ w1 st p2 w2 stm := (by first | exact g2 | exact ((Got.refl HE1.out.at_).mono (Chg.refl _ _).drew).trans g2); clear g2; have k4 : w2.cell? ⟨loc k, 4, none⟩ = some (.bool c2.has) := got_has g3 HC.out HC2.out; rw [HHAS.out] at k4)
                all_goals (go_wp2_with fail; go_meet; exact ⟨rfl, p2, by first | exact g3 | exact g3.mono (Chg.refl _ _).drew⟩)
              case rest =>
                obtain ⟨rfl, ⟨loc2, wF2, uF2, F2⟩, g2⟩ := hcut
                obtain ⟨w2, rfl⟩ : ∃ q, q = wc := ⟨_, rfl⟩
                have hx2 := g2.chg.blk HX1.out HF.out.1
                have hk2 := g2.chg.blk HK1.out HF.out.2.1
                have HS2 := hid (g2.chg.blk HS1.out HF.out.2.2)
                have ex := hx2.cell 0
                have ek := hk2.cell 0
                have hfar : ∀ q, q < w1.heap.size → ¬ F q → ¬ F2 q := fun q hq hn hh => by
                  rcases g2.blocks q hh with hh | hh
                  · exact hn hh
                  · omega
                have HF2 : Hid (¬ F2 x ∧ ¬ F2 kb ∧ ¬ F2 sb) := hid ⟨hfar x HX1.out.lt HF.out.1, hfar kb HK1.out.lt HF.out.2.1, hfar sb HS1.out.lt HF.out.2.2⟩
                obtain ⟨av2, h2⟩ := id g2.eng
                dsimp only at h2
                have HG := hid (HG1.out.trans g2)
                have HE := hid h2
                have HR2 := hid (HR1.out.got g2)
                have HLK : Hid (loc2 k = loc k) := hid (g2.loc k (by rw [HC.out]; rfl)).2
                clear g2 h2 hx2 hk2 hfar e1 k2 hq1 hq2
                have hm := HM.out
                clear HM
                have hus := hm
                simp only [Option.map_eq_some_iff, Prod.mk.injEq] at hus
                obtain ⟨st9, hus, rfl, rfl⟩ := hus
                unfold useM at hus
                split at hus
                · rename_i hul
                  obtain rfl := (Option.some.inj hus).symm
                  have HUL : Hid (stm.used.length ≤ 90000) := hid hul
                  have e6 := HE.out.e6
                  have hlu := HE.out.usd
                  have HLU := hid hlu
                  clear hm hus hul hlu
                  go_upto_region 2 with fail
                  go_cut [39] (fun v wx => ∃ uF3 F3, Got L rv ⟨loc2, wF2, uF2, F2⟩ w2 stm ⟨loc2, wF2, uF3, F3⟩ wx { stm with used := useL stm.used k })
                  case first =>
                    go_region_with (go_at_call 33; (refine (LI.use_any _ L.ub uF2 stm.used k (by first | exact HLU.out | exact HLU.out.chg (Chg.refl (fun _ => False) _).drew (fun _ _ h => h)) HK.out (by have := HUL.out; omega)).mono ?_); rintro e w3 ⟨rfl, hl3, hc3⟩; have g3 : ∃ uF3 F3, Got L rv ⟨loc2, wF2, uF2, F2⟩ w2 stm ⟨loc2, wF2, uF3, F3⟩ w3 { stm with used := useL stm.used k } := (by first | exact ⟨_, _, HE.out.gotUse hl3 hc3⟩ | exact ⟨_, _, ((Got.refl HE.out.at_).mono (Chg.refl _ _).drew).trans ((HE.out.mono (Chg.refl (fun _ => False) _).drew).gotUse hl3 hc3)⟩); clear hl3 hc3)
                    all_goals (go_wp2_with fail; go_meet; obtain ⟨uF3, F3, g3⟩ := g3; exact ⟨uF3, F3, by first | exact g3 | exact g3.mono (Chg.refl _ _).drew⟩)
                  case rest =>
                    obtain ⟨uF3, F3, g3⟩ := hcut
                    obtain ⟨av3, h3⟩ := id g3.eng
                    dsimp only at h3
                    have k5 := h3.k5 (k := k) (c := c2) HC2.out
                    have hb3 := g3.chg.blk HS2.out HF2.out.2.2
                    have c3 : wc.cell? ⟨sb, 0, none⟩ = some (.string noBytes) := by rw [hb3.cell]; rfl
                    have f3 := hb3.frozen 0
                    have hn3 : ¬ F3 sb := fun hh => by
                      rcases g3.blocks sb hh with hh | hh
                      · exact HF2.out.2.2 hh
                      · have := HS2.out.lt; omega
                    have HCS := hid (h3.celt k c2 HC2.out)
                    have HG3 := hid (HG.out.trans g3)
                    have HB3 := hid hb3
                    have HN3 := hid hn3
                    have hls : loc2 k = loc k := HLK.out
                    rw [hls] at k5
                    clear g3 h3 hb3 hn3 ex ek e6 hls
                    go_wp2_with fail
                    exact bodyPost_end (results_none rfl _ _ _) rfl ⟨rfl, _, HG3.out.side ((Chg.refl (fun q => q = sb) wc).setCell (p := ⟨sb, 0, none⟩) rfl _) (fun q hq => by rw [hq]; exact ⟨HN3.out, HS0.out⟩), HB3.out.set_ 0 _, HCS.out⟩
                · cases hus
            | false =>
              have hm := HM.out
              rw [if_neg (by rw [hhas]; simp)] at hm
              have HM := hid hm
              have HHAS := hid hhas
              clear hm hhas
              go_upto_region 1 with fail
              go_cut [33] (fun v wx => v = .bool false ∧ ∃ p2, Got L rv ⟨loc, wF, uF, F⟩ w1 st p2 wx stm)
              case first =>
                go_region_with (go_at_call 36; ((with_reducible refine (right_any turned L rv A rs HT.out _ ⟨loc, wF, uF, F⟩ st k c stm true (by first | exact HE1.out.at_ | exact (HE1.out.mono (Chg.refl _ _).drew).at_) (by first | exact HR1.out | exact HR1.out.chg ((Chg.refl (fun _ => False) _).drew.weaken (fun _ _ h => h.elim)) (fun k hk => .inl hk)) (HH.out.aok k c HC.out) HC.out HRI.out).mono ?_)); rintro e w2 ⟨rfl, p2, g2⟩; have g3 : Got L rv ⟨loc, wF, uF, F⟩ w1 st p2 w2 stm := (by first | exact g2 | exact ((Got.refl HE1.out.at_).mono (Chg.refl _ _).drew).trans g2); clear g2; have k4 : w2.cell? ⟨loc k, 4, none⟩ = some (.bool c2.has) := got_has g3 HC.out HC2.out; rw [HHAS.out] at k4)
                all_goals (go_wp2_with fail; go_meet; exact ⟨rfl, p2, by first | exact g3 | exact g3.mono (Chg.refl _ _).drew⟩)
              case rest =>
                obtain ⟨rfl, ⟨loc2, wF2, uF2, F2⟩, g2⟩ := hcut
                obtain ⟨w2, rfl⟩ : ∃ q, q = wc := ⟨_, rfl⟩
                have hx2 := g2.chg.blk HX1.out HF.out.1
                have hk2 := g2.chg.blk HK1.out HF.out.2.1
                have HS2 := hid (g2.chg.blk HS1.out HF.out.2.2)
                have ex := hx2.cell 0
                have ek := hk2.cell 0
                have hfar : ∀ q, q < w1.heap.size → ¬ F q → ¬ F2 q := fun q hq hn hh => by
                  rcases g2.blocks q hh with hh | hh
                  · exact hn hh
                  · omega
                have HF2 : Hid (¬ F2 x ∧ ¬ F2 kb ∧ ¬ F2 sb) := hid ⟨hfar x HX1.out.lt HF.out.1, hfar kb HK1.out.lt HF.out.2.1, hfar sb HS1.out.lt HF.out.2.2⟩
                obtain ⟨av2, h2⟩ := id g2.eng
                dsimp only at h2
                have HG := hid (HG1.out.trans g2)
                have HE := hid h2
                have HR2 := hid (HR1.out.got g2)
                have HLK : Hid (loc2 k = loc k) := hid (g2.loc k (by rw [HC.out]; rfl)).2
                clear g2 h2 hx2 hk2 hfar e1 k2 hq1 hq2
                have hm := HM.out
                clear HM
                unfold missIn at hm
                cases hcy : stm.cycle with
                | true =>
                  rw [if_pos hcy] at hm
                  simp only [Option.some.injEq, Prod.mk.injEq] at hm
                  obtain ⟨rfl, rfl⟩ := hm
                  have e8 := HE.out.e8
                  rw [hcy] at e8
                  clear hcy
                  go_wp2_with fail
                  exact bodyPost_end (results_none rfl _ _ _) rfl ⟨rfl, _, HG.out, HS2.out, Nat.zero_le _⟩
                | false =>
                  rw [if_neg (by rw [hcy]; simp)] at hm
                  have e8 := HE.out.e8
                  rw [hcy] at e8
                  have HST := hid hm
                  clear hcy hm
                  go_wp2_with fail
                  refine (HS.out w2 _ stm k _ _ HE.out.at_ HR2.out HK.out HST.out).mono ?_
                  rintro e w9 ⟨rfl, hts, ⟨loc9, wF9, uF9, F9⟩, g9⟩
                  have hb9 := g9.chg.blk HS2.out HF2.out.2.2
                  have c9 : w9.cell? ⟨sb, 0, none⟩ = some (.string noBytes) := by rw [hb9.cell]; rfl
                  have f9 := hb9.frozen 0
                  have hn9 : ¬ F9 sb := fun hh => by
                    rcases g9.blocks sb hh with hh | hh
                    · exact HF2.out.2.2 hh
                    · have := HS2.out.lt; omega
                  have HG9 := hid (HG.out.trans g9)
                  have HB9 := hid hb9
                  have HN9 := hid hn9
                  clear g9 hb9 hn9 ex ek e8
                  go_wp2_with fail
                  exact bodyPost_end (results_none rfl _ _ _) rfl ⟨rfl, _, HG9.out.side ((Chg.refl (fun q => q = sb) w9).setCell (p := ⟨sb, 0, none⟩) rfl _) (fun q hq => by rw [hq]; exact ⟨HN9.out, HS0.out⟩), HB9.out.set_ 0 _, hts⟩
end Go.Proofs.Ytfkedhclhmbpfaa
