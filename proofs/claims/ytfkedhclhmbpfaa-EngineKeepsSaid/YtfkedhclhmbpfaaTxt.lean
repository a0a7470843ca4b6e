/-
  A rule's text, whatever 'ask' does.
-/
import Derived.Test.YtfkedhclhmbpfaaNum
import Derived.Outline
namespace Go.Proofs.Ytfkedhclhmbpfaa
open Go.RowKit Go.Maps
set_option linter.unusedVariables false
set_option linter.unusedSimpArgs false

/-- What Text leaves. -/
def TextR {σ : Type} (J : Nat → (Nat → Prop) → σ → World → Prop) (w : World) (O : Nat → Prop) (s1 : σ) (t : ByteArray) (e : Ending) (w' : World) : Prop :=
  e = .returned (.string t) ∧ t.size ≤ 100 ∧ ∃ n O', n ≤ 100 ∧ J n O' s1 w' ∧ (∀ k, O' k → O k ∨ w.heap.size ≤ k) ∧ Chg O w w'
/-- The closure that a rule is handed: what it is known to do. -/
structure Asker {σ : Type} (ask : σ → Int → Option (σ × ByteArray)) (J : Nat → (Nat → Prop) → σ → World → Prop) (gf : Nat) (capt : Array Value) (A : Option Addr) (rs : List Rule) : Prop where
  enters : ∀ (args : Array Value) (w : World), (callFunc gf args).run Try.prog w = .ok (.enter gf args) w
  mono : ∀ n O s W W', J n O s W → Chg (fun _ => False) W W' → J n O s W'
  lt : ∀ n O s W, J n O s W → ∀ k, O k → k < W.heap.size
  call : ∀ n O s d W s1 t, n < 100 → J n O s W → RulesAt W O A rs → ok d → ask s d = some (s1, t) →
    Calls Try.prog gf (#[enc d] ++ capt) W fun e W' => e = .returned (.string t) ∧ t.size ≤ 1000000 ∧ ∃ O', J (n + 1) O' s1 W' ∧ (∀ k, O' k → O k ∨ W.heap.size ≤ k) ∧ Chg O W W'

theorem tmod_small (x : Int) : -1000 < x.tmod 1000 ∧ x.tmod 1000 < 1000 :=
  ⟨Int.lt_tmod_of_pos x (by omega), Int.tmod_lt_of_pos x (by omega)⟩
theorem tmod_two (x : Int) : -2 < x.tmod 2 ∧ x.tmod 2 < 2 :=
  ⟨Int.lt_tmod_of_pos x (by omega), Int.tmod_lt_of_pos x (by omega)⟩

set_option maxRecDepth 100000 in
set_option maxHeartbeats 8000000 in
theorem text_any {σ : Type} (ask : σ → Int → Option (σ × ByteArray)) (J : Nat → (Nat → Prop) → σ → World → Prop) (gf : Nat) (capt : Array Value) (A : Option Addr) (rs : List Rule) (cap : Nat) (H : Asker ask J gf capt A rs)
    (w : World) (O : Nat → Prop) (s s1 : σ) (k : Int) (t : ByteArray) (hj : J 0 O s w) (hR : RulesAt w O A rs) (hk : ok k) (hm : textM rs ask s k = some (s1, t)) :
    Calls Try.prog 70 #[.agg #[.slice A rs.length cap], enc k, .func (.func gf) #[] capt] w (TextR J w O s1 t) := by
  have hlen := hR.few
  unfold textM at hm
  by_cases hneg : k < 0
  · rw [if_pos hneg] at hm
    simp only [Option.some.injEq, Prod.mk.injEq] at hm
    obtain ⟨rfl, rfl⟩ := hm
    have HJ := hid hj
    have HH := hid H
    clear hj H hR hk
    go_enter Try.func70, Try.ntmps70
    go_wp2_with fail
    go_ret
    exact ⟨rfl, by show 1 ≤ 100; omega, 0, O, by omega, HH.out.mono _ _ _ _ _ HJ.out ((Chg.refl _ _).alloc _), fun k hk => .inl hk, (Chg.refl _ _).alloc _⟩
  · rw [if_neg hneg] at hm
    cases hr : rs[k.toNat]? with
    | none =>
      rw [hr] at hm
      simp only [Option.some.injEq, Prod.mk.injEq] at hm
      obtain ⟨rfl, rfl⟩ := hm
      have hge : (rs.length : Int) ≤ k := by
        have := List.getElem?_eq_none_iff.1 hr
        omega
      have HJ := hid hj
      have HH := hid H
      clear hj H hR hk hr
      go_enter Try.func70, Try.ntmps70
      go_wp2_with fail
      go_ret
      exact ⟨rfl, by show 1 ≤ 100; omega, 0, O, by omega, HH.out.mono _ _ _ _ _ HJ.out ((Chg.refl _ _).alloc _), fun k hk => .inl hk, (Chg.refl _ _).alloc _⟩
    | some r =>
      rw [hr] at hm
      simp only at hm
      obtain ⟨k', rfl⟩ : ∃ k' : Nat, k = (k' : Int) := ⟨k.toNat, by omega⟩
      rw [Int.toNat_natCast] at hr
      have hkl : k' < rs.length := (List.getElem?_eq_some_iff.1 hr).1
      obtain ⟨b, off, A', cap', rfl, hb, c1, c2, c3⟩ := hR.mem k' r hr
      have hmem := List.mem_of_getElem? hr
      have hll := hR.lens r hmem
      have hoks := hR.ok r hmem
      have hbl : b < w.heap.size := lt_of_cell c1
      have d1 : decide ((k' : Int) < 0) = false := decide_eq_false (by omega)
      have d2 : decide (rs.length ≤ k') = false := decide_eq_false (by omega)
      have d3 : decide ((rs.length : Int) ≤ (k' : Int)) = false := decide_eq_false (by omega)
      have hol := fun k hk => H.lt _ _ _ _ hj k hk
      obtain ⟨kd, hkd⟩ : ∃ kd, kd = r.kind := ⟨_, rfl⟩
      rw [← hkd] at c1 hm
      have HJ := hid hj
      have HH := hid H
      have HM := hid hm
      have HR := hid hR
      have HC3 := hid c3
      have HOKS := hid hoks
      have HOL := hid hol
      clear hj H hm hR hk hr c3 hmem hoks hkd hneg hol
      go_enter Try.func70, Try.ntmps70
      go_wp2_with fail
      obtain ⟨w0, hw0⟩ : ∃ w0, (w.alloc (.cells #[.slice (some ⟨b, off, none⟩) rs.length cap] 31)).alloc (.cells #[.int .i64 kd, .slice A' r.l.length cap'] 43) = w0 := ⟨_, rfl⟩
      have g0 : Chg (fun _ => False) w w0 := by rw [← hw0]; exact ((Chg.refl _ _).alloc _).alloc _
      have b0 : Blk w0 (w.heap.size + 1) 43 #[.int .i64 kd, .slice A' r.l.length cap'] := by
        rw [← hw0]
        have := Blk.new (w.alloc (.cells #[.slice (some ⟨b, off, none⟩) rs.length cap] 31)) 43 #[.int .i64 kd, .slice A' r.l.length cap']
        rwa [World.size_alloc] at this
      rw [hw0]
      have HJ0 : Hid (J 0 O s w0) := hid (HH.out.mono _ _ _ _ _ HJ.out g0)
      have HR0 : Hid (RulesAt w0 O (some ⟨b, off, none⟩) rs) := hid (HR.out.chg (g0.weaken (fun _ _ h => h.elim)) (fun k hk => .inl hk))
      have HG0 : Hid (Chg O w w0) := hid (g0.weaken (fun _ _ h => h.elim))
      have HB0 := hid b0
      clear hw0 g0 b0 HJ HR c1 c2
      go_loopw [8, 9, 10] (fun u8 i u10 wx => ∃ (j n : Nat) (sum : Int) (Oj : Nat → Prop) (sj : σ), j ≤ r.l.length ∧ i = .int .i64 j ∧ u8 = .int .i64 sum ∧ -1000 < sum ∧ sum < 1000 ∧ n ≤ j ∧ J n Oj sj wx ∧ RulesAt wx Oj (some ⟨b, off, none⟩) rs ∧ Blk wx (w.heap.size + 1) 43 #[.int .i64 kd, .slice A' r.l.length cap'] ∧ ¬ Oj (w.heap.size + 1) ∧ (∀ k, Oj k → O k ∨ w.heap.size ≤ k) ∧ Chg O w wx ∧ textGo kd ask (r.l.drop j) j sum sj = some (s1, t)) (fun _ i _ _ => r.l.length - (intOf i).toNat)
      case atStart => exact ⟨0, 0, (k' : Int), O, s, Nat.zero_le _, rfl, rfl, by omega, by omega, Nat.le_refl _, HJ0.out, HR0.out, HB0.out, fun h => by have := HOL.out _ h; omega, fun k hk => .inl hk, HG0.out, HM.out⟩
      case round =>
        obtain ⟨j, n, sum, Oj, sj, hjl, rfl, rfl, hs0, hs1, hnj, hJ, hRj, hB, hO, hOs, hG, hgo⟩ := hrel
        have e0 : wr.cell? ⟨w.heap.size + 1, 0, none⟩ = some (.int .i64 kd) := by rw [hB.cell]; rfl
        have e1 : wr.cell? ⟨w.heap.size + 1, 1, none⟩ = some (.slice A' r.l.length cap') := by rw [hB.cell]; rfl
        have HJ := hid hJ
        have HRj := hid hRj
        have HB := hid hB
        have HO := hid hO
        have HOs := hid hOs
        have HG := hid hG
        have HGO := hid hgo
        clear hJ hRj hB hO hOs hG hgo HJ0 HR0 HG0 HB0 HM
        by_cases hlt : j < r.l.length
        · have hdr : r.l.drop j = r.l[j] :: r.l.drop (j + 1) := List.drop_eq_getElem_cons hlt
          obtain ⟨b', off', rfl, hb', hc3⟩ := HC3.out j r.l[j] (List.getElem?_eq_getElem hlt)
          have e2 := HG.out.cell (hc3 j r.l[j] (List.getElem?_eq_getElem hlt)) hb'
          have hokd := HOKS.out.2 r.l[j] (List.getElem_mem hlt)
          obtain ⟨d, hd⟩ : ∃ d, d = r.l[j] := ⟨_, rfl⟩
          rw [← hd] at hdr e2 hokd
          have hgo := HGO.out
          rw [hdr] at hgo
          unfold textGo at hgo
          have HOKD := hid hokd
          clear hdr hc3 hb' hd hokd HGO
          have t2 := tmod_two sum
          by_cases hk1 : kd = 1
          · have hk1b : (kd == 1) = true := by rw [hk1]; rfl
            have hk2b : (kd == 2) = false := by rw [hk1]; rfl
            have HK1 := hid hk1
            clear hk1
            by_cases hskip : 2 < j ∨ (0 < j ∧ (j : Int) ≠ 1 + sum.tmod 2)
            · rw [if_pos ⟨HK1.out, hskip⟩] at hgo
              have HGO := hid hgo
              clear hgo
              by_cases h2 : 2 < j
              · clear hskip
                go_wp2_with fail
                go_roundw
                case rel => exact ⟨j + 1, n, _, Oj, sj, by omega, by go_num, rfl, hs0, hs1, by omega, HJ.out, HRj.out, HB.out, HO.out, HOs.out, HG.out, HGO.out⟩
                case measure => simp [intOf]; omega
              · have h0 : 0 < j ∧ (j : Int) ≠ 1 + sum.tmod 2 := by omega
                obtain ⟨h0, hne⟩ := h0
                have hq1 : ((j : Int) == 1 + sum.tmod 2) = false := beq_eq_false_iff_ne.2 hne
                have hq2 : ((j : Int) != 1 + sum.tmod 2) = true := by rw [bne, hq1]; rfl
                clear hskip hne
                go_wp2_with fail
                go_roundw
                case rel => exact ⟨j + 1, n, _, Oj, sj, by omega, by go_num, rfl, hs0, hs1, by omega, HJ.out, HRj.out, HB.out, HO.out, HOs.out, HG.out, HGO.out⟩
                case measure => simp [intOf]; omega
            · rw [if_neg (fun h => hskip h.2)] at hgo
              have HGO := hid hgo
              clear hgo
              have h2 : ¬ 2 < j := fun h => hskip (.inl h)
              by_cases h0 : j = 0
              · have hz : ((j : Int) == 0) = true := by rw [h0]; rfl
                have hzn : ¬ 0 < j := by omega
                have HZ := hid h0
                clear hskip h0
                cases hask : ask sj d with
                | none => have := HGO.out; rw [hask] at this; cases this
                | some x =>
                  obtain ⟨s2, tt⟩ := x
                  have hgo := HGO.out
                  rw [hask] at hgo
                  simp only at hgo
                  have HGO2 := hid hgo
                  have HASK := hid hask
                  clear hgo hask HGO
                  have heg := HH.out.enters
                  go_wp2_with fail
                  refine (HH.out.call n Oj sj d wr s2 tt (by omega) HJ.out HRj.out HOKD.out HASK.out).mono ?_
                  rintro e w1 ⟨rfl, hts, O2, hJ2, hO2, hc2⟩
                  have hb2 := hc2.blk HB.out HO.out
                  have e0 : w1.cell? ⟨w.heap.size + 1, 0, none⟩ = some (.int .i64 kd) := by rw [hb2.cell]; rfl
                  have HJ2 := hid hJ2
                  have HR2 := hid (HRj.out.chg hc2 hO2)
                  have HB2 := hid hb2
                  have hn2 : ¬ O2 (w.heap.size + 1) := fun h => by
                    rcases hO2 _ h with h | h
                    · exact HO.out h
                    · have := HB.out.lt; omega
                  have HN2 := hid hn2
                  have HOs2 : Hid (∀ k, O2 k → O k ∨ w.heap.size ≤ k) := hid (fun k hk => by
                    rcases hO2 k hk with h | h
                    · exact HOs.out k h
                    · exact .inr (Nat.le_trans HG.out.size h))
                  have HG2 : Hid (Chg O w w1) := hid (HG.out.into hc2 (fun k hk h => by
                    rcases HOs.out k h with h | h
                    · exact h
                    · omega))
                  have hb3 := numberM_small tt
                  obtain ⟨nn, hnn⟩ : ∃ nn, nn = numberM tt := ⟨_, rfl⟩
                  have hnum := number_any tt w1 hts
                  rw [← hnn] at hnum hb3
                  have hgo := HGO2.out
                  rw [← hnn] at hgo
                  have HGO := hid hgo
                  have HNUM := hid hnum
                  clear hJ2 hO2 hc2 hb2 hn2 e1 e2 heg HJ HRj HB HO HOs HG hgo HGO2 hnum hnn
                  go_wp2_with fail
                  refine HNUM.out.mono ?_
                  rintro e w2 ⟨rfl, rfl⟩
                  have hgo := HGO.out
                  rw [if_pos ⟨HK1.out, HZ.out⟩] at hgo
                  have HGO := hid hgo
                  clear hgo
                  go_wp2_with fail
                  go_roundw
                  case rel => exact ⟨j + 1, n + 1, _, O2, s2, by omega, by go_num, rfl, by omega, by omega, by omega, HJ2.out, HR2.out, HB2.out, HN2.out, HOs2.out, HG2.out, HGO.out⟩
                  case measure => simp [intOf]; omega
              · have h0' : 0 < j := by omega
                have he : (j : Int) = 1 + sum.tmod 2 := by omega
                have hz : ((j : Int) == 0) = false := by rw [beq_eq_false_iff_ne]; omega
                have hq1 : ((j : Int) == 1 + sum.tmod 2) = true := by rw [beq_iff_eq]; exact he
                have hq2 : ((j : Int) != 1 + sum.tmod 2) = false := by rw [bne, hq1]; rfl
                have HZ := hid h0
                clear hskip h0 he
                cases hask : ask sj d with
                | none => have := HGO.out; rw [hask] at this; cases this
                | some x =>
                  obtain ⟨s2, tt⟩ := x
                  have hgo := HGO.out
                  rw [hask] at hgo
                  simp only at hgo
                  have HGO2 := hid hgo
                  have HASK := hid hask
                  clear hgo hask HGO
                  have heg := HH.out.enters
                  go_wp2_with fail
                  refine (HH.out.call n Oj sj d wr s2 tt (by omega) HJ.out HRj.out HOKD.out HASK.out).mono ?_
                  rintro e w1 ⟨rfl, hts, O2, hJ2, hO2, hc2⟩
                  have hb2 := hc2.blk HB.out HO.out
                  have e0 : w1.cell? ⟨w.heap.size + 1, 0, none⟩ = some (.int .i64 kd) := by rw [hb2.cell]; rfl
                  have HJ2 := hid hJ2
                  have HR2 := hid (HRj.out.chg hc2 hO2)
                  have HB2 := hid hb2
                  have hn2 : ¬ O2 (w.heap.size + 1) := fun h => by
                    rcases hO2 _ h with h | h
                    · exact HO.out h
                    · have := HB.out.lt; omega
                  have HN2 := hid hn2
                  have HOs2 : Hid (∀ k, O2 k → O k ∨ w.heap.size ≤ k) := hid (fun k hk => by
                    rcases hO2 k hk with h | h
                    · exact HOs.out k h
                    · exact .inr (Nat.le_trans HG.out.size h))
                  have HG2 : Hid (Chg O w w1) := hid (HG.out.into hc2 (fun k hk h => by
                    rcases HOs.out k h with h | h
                    · exact h
                    · omega))
                  have hb3 := numberM_small tt
                  obtain ⟨nn, hnn⟩ : ∃ nn, nn = numberM tt := ⟨_, rfl⟩
                  have hnum := number_any tt w1 hts
                  rw [← hnn] at hnum hb3
                  have hgo := HGO2.out
                  rw [← hnn] at hgo
                  have HGO := hid hgo
                  have HNUM := hid hnum
                  clear hJ2 hO2 hc2 hb2 hn2 e1 e2 heg HJ HRj HB HO HOs HG hgo HGO2 hnum hnn
                  go_wp2_with fail
                  refine HNUM.out.mono ?_
                  rintro e w2 ⟨rfl, rfl⟩
                  have hgo := HGO.out
                  rw [if_neg (fun h => HZ.out h.2), if_neg (by rw [HK1.out]; omega), if_pos HK1.out] at hgo
                  simp only [Option.some.injEq, Prod.mk.injEq] at hgo
                  obtain ⟨rfl, ht⟩ := hgo
                  have ts := tmod_small (sum + nn)
                  have HTT := hid ht
                  clear ht HGO
                  go_wp2_with fail
                  refine (value_is _ _ (by omega)).mono ?_
                  rintro e w9 ⟨rfl, g9⟩
                  have HG9 := hid g9
                  clear g9
                  go_wp2_with fail
                  go_ret
                  exact ⟨by rw [HTT.out]; rfl, by rw [← HTT.out]; have := valueM_size ((sum + nn).tmod 1000); omega, n + 1, O2, by omega, HH.out.mono _ _ _ _ _ HJ2.out HG9.out, HOs2.out, HG2.out.trans (HG9.out.weaken (fun _ _ h => h.elim))⟩
          · rw [if_neg (by simp [hk1])] at hgo
            have hk1b : (kd == 1) = false := beq_eq_false_iff_ne.2 hk1
            have HGO := hid hgo
            clear hgo
            cases hask : ask sj d with
            | none => have := HGO.out; rw [hask] at this; cases this
            | some x =>
              obtain ⟨s2, tt⟩ := x
              have hgo := HGO.out
              rw [hask] at hgo
              simp only at hgo
              have HGO2 := hid hgo
              have HASK := hid hask
              clear hgo hask HGO
              have heg := HH.out.enters
              go_wp2_with fail
              refine (HH.out.call n Oj sj d wr s2 tt (by omega) HJ.out HRj.out HOKD.out HASK.out).mono ?_
              rintro e w1 ⟨rfl, hts, O2, hJ2, hO2, hc2⟩
              have hb2 := hc2.blk HB.out HO.out
              have e0 : w1.cell? ⟨w.heap.size + 1, 0, none⟩ = some (.int .i64 kd) := by rw [hb2.cell]; rfl
              have HJ2 := hid hJ2
              have HR2 := hid (HRj.out.chg hc2 hO2)
              have HB2 := hid hb2
              have hn2 : ¬ O2 (w.heap.size + 1) := fun h => by
                rcases hO2 _ h with h | h
                · exact HO.out h
                · have := HB.out.lt; omega
              have HN2 := hid hn2
              have HOs2 : Hid (∀ k, O2 k → O k ∨ w.heap.size ≤ k) := hid (fun k hk => by
                rcases hO2 k hk with h | h
                · exact HOs.out k h
                · exact .inr (Nat.le_trans HG.out.size h))
              have HG2 : Hid (Chg O w w1) := hid (HG.out.into hc2 (fun k hk h => by
                rcases HOs.out k h with h | h
                · exact h
                · omega))
              have hb3 := numberM_small tt
              obtain ⟨nn, hnn⟩ : ∃ nn, nn = numberM tt := ⟨_, rfl⟩
              have hnum := number_any tt w1 hts
              rw [← hnn] at hnum hb3
              have hgo := HGO2.out
              rw [← hnn] at hgo
              have HGO := hid hgo
              have HNUM := hid hnum
              clear hJ2 hO2 hc2 hb2 hn2 e1 e2 heg HJ HRj HB HO HOs HG hgo HGO2 hnum hnn
              go_wp2_with fail
              refine HNUM.out.mono ?_
              rintro e w2 ⟨rfl, rfl⟩
              by_cases hk2 : kd = 2
              · have hgo := HGO.out
                rw [if_neg (by simp [hk1]), if_pos hk2] at hgo
                simp only [Option.some.injEq, Prod.mk.injEq] at hgo
                obtain ⟨rfl, ht⟩ := hgo
                have hk2b : (kd == 2) = true := by rw [hk2]; rfl
                have tn := tmod_two nn
                have HTT := hid ht
                clear ht HGO hk1 hk2
                go_wp2_with fail
                refine (value_is _ _ (by omega)).mono ?_
                rintro e w9 ⟨rfl, g9⟩
                have HG9 := hid g9
                clear g9
                go_wp2_with fail
                go_ret
                exact ⟨by rw [HTT.out]; rfl, by rw [← HTT.out]; have := valueM_size (nn.tmod 2); omega, n + 1, O2, by omega, HH.out.mono _ _ _ _ _ HJ2.out HG9.out, HOs2.out, HG2.out.trans (HG9.out.weaken (fun _ _ h => h.elim))⟩
              · have hgo := HGO.out
                rw [if_neg (by simp [hk1]), if_neg hk2, if_neg hk1] at hgo
                have hk2b : (kd == 2) = false := beq_eq_false_iff_ne.2 hk2
                have ts := tmod_small (sum + nn)
                have HGO := hid hgo
                clear hgo hk1 hk2
                go_wp2_with fail
                go_roundw
                case rel => exact ⟨j + 1, n + 1, _, O2, s2, by omega, by go_num, rfl, by omega, by omega, by omega, HJ2.out, HR2.out, HB2.out, HN2.out, HOs2.out, HG2.out, HGO.out⟩
                case measure => simp [intOf]; omega
        · have hje : j = r.l.length := by omega
          have hgo := HGO.out
          rw [hje, List.drop_length] at hgo
          unfold textGo at hgo
          simp only [Option.some.injEq, Prod.mk.injEq] at hgo
          obtain ⟨rfl, ht⟩ := hgo
          have HTT := hid ht
          have ts := tmod_small sum
          clear ht hje HGO
          go_wp2_with fail
          refine (value_is _ _ (by omega)).mono ?_
          rintro e w9 ⟨rfl, g9⟩
          have HG9 := hid g9
          clear g9
          go_wp2_with fail
          go_ret
          exact ⟨by rw [HTT.out]; rfl, by rw [← HTT.out]; have := valueM_size (sum.tmod 1000); omega, n, Oj, by omega, HH.out.mono _ _ _ _ _ HJ.out HG9.out, HOs.out, HG.out.trans (HG9.out.weaken (fun _ _ h => h.elim))⟩
end Go.Proofs.Ytfkedhclhmbpfaa
