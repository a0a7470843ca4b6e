/-
  The document's Tell. (printed by gentlk.py)
-/
import Derived.Test.YtfkedhclhmbpfaaInp
import Derived.Test.YtfkedhclhmbpfaaNil
import Derived.Test.YtfkedhclhmbpfaaNot
import Derived.Deep.RegionHeld3
import Derived.ProofKit
namespace Go.Proofs.Ytfkedhclhmbpfaa
open Go.RowKit Go.Maps
set_option linter.unusedVariables false
set_option linter.unusedSimpArgs false

theorem app_none (b : Nat) (W : World) : (Builtin.append_ #[41, 41] 41 #[.slice (some ⟨b, 0, none⟩) 0 0, .slice none 0 0]).run Try.prog W = .ok (.slice (some ⟨b, 0, none⟩) 0 0) W := by
  simp [Builtin.append_, run_underlying Try.underlying41, sizeOf, typeInfo, Builtin.lenOf, Builtin.firstCells, loadCells, loadCellsFrom]
  kernel_rfl
/-- The list of the keys that are under way. -/
def UnderAt (w : World) (v : Value) (under : List Int) : Prop := (under = [] ∧ v = .slice none 0 0) ∨ ∃ b off c, v = .slice (some ⟨b, off, none⟩) under.length c ∧ b < w.heap.size ∧ ∀ (j : Nat) (u : Int), under[j]? = some u → w.cell? ⟨b, off + j, none⟩ = some (.int .i64 u)
theorem UnderAt.mono {w w' : World} {v : Value} {under : List Int} (h : UnderAt w v under) (hc : Chg (fun _ => False) w w') : UnderAt w' v under := by
  rcases h with h | ⟨b, off, c, h1, h2, h3⟩
  · exact .inl h
  · exact .inr ⟨b, off, c, h1, Nat.lt_of_lt_of_le h2 hc.size, fun j u hj => hc.cell (h3 j u hj) (fun h => h)⟩
theorem own_empty (w : World) : (w.alloc (.cells #[] 3)).ownsRow w.heap.size 3 1 (.slice (some ⟨w.heap.size, 0, none⟩) 0 0) 0 [] :=
  ⟨rfl, .inr ⟨w.heap.size, 0, #[], rfl, Nat.le_refl _, heap_alloc_new w _, Nat.le_refl _, Nat.zero_le _, rfl, rfl⟩⟩
def tellV (o : Option Int) : Value := .tuple #[.int .i64 (o.getD 0), .bool o.isSome]
def TellOK (rs : List Rule) (ins : List (Int × Int)) (f : Nat) : Prop :=
  ∀ (A : Option Addr) (cap : Nat) (A2 : Option Addr) (cap2 : Nat) (k : Int) (v : Value) (under : List Int) (w : World), RuleRow w A rs → InRow w A2 ins → UnderAt w v under → ok k → under.Nodup → (∀ u ∈ under, inR rs u) → rs.length < f + under.length →
    Calls Try.prog 16 #[.slice A rs.length cap, .slice A2 ins.length cap2, enc k, v] w fun e w' => e = .returned (tellV (tellM rs ins f k under)) ∧ Chg (fun _ => False) w w'

set_option maxRecDepth 100000 in
set_option maxHeartbeats 8000000 in
theorem tell_step (rs : List Rule) (ins : List (Int × Int)) (hrl : rs.length ≤ 1000) (hil : ins.length ≤ 1000) (hib : ∀ x ∈ ins, 0 ≤ x.2 ∧ x.2 ≤ 255) (hll : ∀ r ∈ rs, r.l.length ≤ 100) (hok : ∀ r ∈ rs, ok r.kind ∧ ∀ d ∈ r.l, ok d) (f : Nat) (IH : TellOK rs ins f) : TellOK rs ins (f + 1) := by
  intro A cap A2 cap2 k v under w hR hI hU hk hnd hin hf
  have hfew := few_in hnd hin
  obtain ⟨i0, hi0, hz0, hz1, hz2⟩ := info_parts infoI
  have HIB := hid hib
  have HLL := hid hll
  have HOK := hid hok
  have HIH := hid IH
  have HR := hid hR
  have HI := hid hI
  have HU := hid hU
  have HND := hid hnd
  have HIN := hid hin
  have bk := bounds_i64 hk
  have HK := hid hk
  have HF := hid hf
  clear hib hll hok IH hR hI hU hnd hin hk hf
  have htm : tellM rs ins (f + 1) k under = match inputM ins k with
    | some n => some n
    | none => if k ∈ under then none else if k < 0 then some 0 else match rs[k.toNat]? with
      | none => some 0
      | some r => tellGo r.kind (fun d => tellM rs ins f d (under ++ [k])) r.l 0 k := by rw [tellM]; rfl
  have HTM := hid htm
  clear htm
  have hinp := input_any w A2 ins cap2 k HI.out hil HIB.out
  cases hin : inputM ins k with
  | some n =>
    rw [hin] at hinp
    have hT : tellM rs ins (f + 1) k under = some n := by rw [HTM.out, hin]
    have HT := hid hT
    have HP := hid hinp
    clear hT hinp HTM
    go_enter Try.func16, Try.ntmps16
    go_wp2_with fail
    refine HP.out.mono ?_
    rintro e w1 ⟨rfl, rfl⟩
    rw [show (some n).getD 0 = n from rfl, show (some n).isSome = true from rfl]
    go_wp2_with fail
    go_ret2
    exact ⟨by rw [HT.out]; rfl, Chg.refl _ _⟩
  | none =>
    rw [hin] at hinp
    have hT : tellM rs ins (f + 1) k under = if k ∈ under then none else if k < 0 then some 0 else match rs[k.toNat]? with
      | none => some 0
      | some r => tellGo r.kind (fun d => tellM rs ins f d (under ++ [k])) r.l 0 k := by rw [HTM.out, hin]
    have HT := hid hT
    have HP := hid hinp
    have HINK := hid hin
    clear hT hinp HTM hin
    obtain ⟨X, c, rfl⟩ : ∃ X c, v = .slice X under.length c := by
      rcases HU.out with ⟨h1, h2⟩ | ⟨b, off, c, h1, _⟩
      · exact ⟨none, 0, by rw [h2, h1]; rfl⟩
      · exact ⟨_, c, h1⟩
    go_enter Try.func16, Try.ntmps16
    go_wp2_with fail
    refine HP.out.mono ?_
    rintro e w1 ⟨rfl, rfl⟩
    rw [show (none : Option Int).getD 0 = 0 from rfl, show (none : Option Int).isSome = false from rfl]
    go_wp2_with fail
    go_loop [12] (fun i => ∃ j : Nat, j ≤ under.length ∧ i = .int .i64 j ∧ k ∉ under.take j) (fun i => under.length - (intOf i).toNat)
    case atStart => exact ⟨0, by omega, rfl, by simp⟩
    case round =>
      obtain ⟨j, hj, rfl, hm⟩ := hrel
      have HM := hid hm
      clear hm
      by_cases hlt : j < under.length
      · have hcell : ∃ b off, X = some ⟨b, off, none⟩ ∧ w.cell? ⟨b, off + j, none⟩ = some (.int .i64 under[j]) := by
          rcases HU.out with ⟨h1, h2⟩ | ⟨b, off, c', h1, _, h3⟩
          · rw [h1] at hlt; exact absurd hlt (Nat.not_lt_zero _)
          · simp only [Value.slice.injEq] at h1
            exact ⟨b, off, h1.1, h3 j _ (List.getElem?_eq_getElem hlt)⟩
        obtain ⟨b, off, rfl, e0⟩ := hcell
        have hts : under.take (j + 1) = under.take j ++ [under[j]] := List.take_succ_eq_append_getElem hlt
        have hmem : under[j] ∈ under := List.getElem_mem hlt
        obtain ⟨x, hx⟩ : ∃ x, x = under[j] := ⟨_, rfl⟩
        rw [← hx] at e0 hts hmem
        have HTS := hid hts
        have HMEM := hid hmem
        clear hx hts hmem
        by_cases hkx : x = k
        · subst hkx
          go_wp2_with fail
          go_ret2
          exact ⟨by rw [HT.out, if_pos HMEM.out]; rfl, Chg.refl _ _⟩
        · go_wp2_with fail
          go_round
          case rel => exact ⟨j + 1, by omega, by go_num, by rw [HTS.out, List.mem_append]; rintro (h | h); exact HM.out h; exact hkx (List.mem_singleton.1 h).symm⟩
          case measure => simp [intOf]; omega
      · have hje : j = under.length := by omega
        rw [hje, List.take_length] at HM
        have hT2 := HT.out
        rw [if_neg HM.out] at hT2
        by_cases hk0 : k < 0
        · have HT2 := hid (hT2.trans (if_pos hk0))
          clear hT2 HT
          go_wp2_with fail
          go_ret2
          exact ⟨by rw [HT2.out]; rfl, Chg.refl _ _⟩
        · rw [if_neg hk0] at hT2
          by_cases hkl : (rs.length : Int) ≤ k
          · have hnone : rs[k.toNat]? = none := List.getElem?_eq_none (by omega)
            rw [hnone] at hT2
            have HT2 := hid hT2
            clear hT2 HT hnone
            go_wp2_with fail
            go_ret2
            exact ⟨by rw [HT2.out]; rfl, Chg.refl _ _⟩
          · obtain ⟨k', rfl⟩ : ∃ k' : Nat, k = (k' : Int) := ⟨k.toNat, by omega⟩
            rw [Int.toNat_natCast] at hT2
            have hkl' : k' < rs.length := by omega
            obtain ⟨r, hr⟩ : ∃ r, rs[k']? = some r := ⟨_, List.getElem?_eq_getElem hkl'⟩
            rw [hr] at hT2
            simp only at hT2
            obtain ⟨b, off, A', cap', rfl, c1, c2, c3⟩ := HR.out k' r hr
            have hmemr := List.mem_of_getElem? hr
            have HT2 := hid hT2
            have HC3 := hid c3
            have hrl100 := HLL.out r hmemr
            have HOKR := hid (HOK.out r hmemr)
            obtain ⟨kd, hkd⟩ : ∃ kd, kd = r.kind := ⟨_, rfl⟩
            rw [← hkd] at c1 HT2
            clear hT2 HT c3 hr hmemr hkd
            have hndk : (under ++ [(k' : Int)]).Nodup := by
              rw [List.nodup_append]
              exact ⟨HND.out, by simp, by intro a ha b hb e; simp at hb; subst hb; subst e; exact HM.out ha⟩
            have hinr : ∀ u ∈ under ++ [(k' : Int)], inR rs u := by
              intro u hu'
              rcases List.mem_append.1 hu' with hu' | hu'
              · exact HIN.out u hu'
              · rw [List.mem_singleton.1 hu']; exact ⟨by omega, by omega⟩
            have hfk : rs.length < f + (under ++ [(k' : Int)]).length := by
              have := HF.out
              simp only [List.length_append, List.length_singleton]
              omega
            have HNDK := hid hndk
            have HINR := hid hinr
            have HFK := hid hfk
            clear hndk hinr hfk
            have hap := app_none
            have ho1 := own_empty w
            have HO1 := hid ho1
            clear ho1
            rcases HU.out with ⟨hu1, hu2⟩ | ⟨ub, uoff, uc, hu1, hu2, hu3⟩
            · subst hu1
              simp only [Value.slice.injEq] at hu2
              obtain ⟨rfl, -, rfl⟩ := hu2
              simp only [List.length_nil]
              go_upto_region 12 with (first
                | (at_builtin
                   refine wpList_append_own_at _ rfl (.tmp 48) (.tmp 50) 41 rfl w.heap.size 3 i0 (.int .i64 0) 1 8 Try.underlying41 hi0 hz0 hz1 hz2 rfl (by decide) (.slice (some ⟨w.heap.size, 0, none⟩) 0 0) 0 [] rfl (own_chg HO1.out ((Chg.refl (fun _ => False) _).alloc _) (fun _ _ h => h)) ⟨w.heap.size + 1, 0, none⟩ 1 1 [.int .i64 k'] rfl rfl (news1 _ _ _ _ (by simp)) (by simp [Value.oneCell']) (by unfold maxLen; omega) (by omega) (by simp; omega) ?_
                   intro v' w2 hown1 hgrow hnil hat
                   obtain ⟨g', cap2', rfl⟩ := ownsRow_succ hown1))
              have hg2 : Chg (fun _ => False) w w2 := (((Chg.refl (fun _ => False) w).alloc (.cells #[] 3)).alloc (.cells #[enc (k' : Int)] 3)).into (chg_of_grown hgrow) (fun k hk e => by simp [Value.ownBlock] at e; omega)
              have hua : UnderAt w2 (.slice (some ⟨g', 0, none⟩) (0 + 1) cap2') ([] ++ [(k' : Int)]) := .inr ⟨g', 0, cap2', rfl, own_lt hown1, fun j u hj => by rw [Nat.zero_add]; exact own_cell hown1 (by
                match j, hj with
                | 0, hj => obtain rfl := Option.some.inj hj; rfl)⟩
              obtain ⟨vu, hvu⟩ : ∃ vu, vu = Value.slice (some ⟨g', 0, none⟩) (0 + 1) cap2' := ⟨_, rfl⟩
              rw [← hvu] at hua ⊢
              have c1' := hg2.cell c1 (fun h => h)
              have c2' := hg2.cell c2 (fun h => h)
              have HG2 := hid hg2
              have HUA := hid hua
              clear hvu hua hg2 c1 c2 hown1 hgrow hnil hat hap HO1
              go_wp2_with fail
              obtain ⟨w3, hw3⟩ : ∃ w3, w2.alloc (.cells #[.int .i64 kd, .slice A' r.l.length cap'] 43) = w3 := ⟨_, rfl⟩
              obtain ⟨y, hy⟩ : ∃ y, y = w2.heap.size := ⟨_, rfl⟩
              have b3 : Blk w3 y 43 #[.int .i64 kd, .slice A' r.l.length cap'] := by rw [← hw3, hy]; exact Blk.new w2 43 _
              have HG3 : Hid (Chg (fun _ => False) w w3) := hid (by rw [← hw3]; exact HG2.out.alloc _)
              have HUA3 : Hid (UnderAt w3 vu ([] ++ [(k' : Int)])) := hid (HUA.out.mono (by rw [← hw3]; exact (Chg.refl _ _).alloc _))
              have HB3 := hid b3
              rw [hw3, ← hy]
              clear hw3 hy b3 HG2 HUA c1' c2'
              go_loopw [14, 15, 16, 17] (fun u14 i u16 u17 wx => ∃ (j : Nat) (sum : Int), j ≤ r.l.length ∧ i = .int .i64 j ∧ u14 = .int .i64 sum ∧ 0 ≤ sum ∧ sum ≤ 1000 ∧ Blk wx y 43 #[.int .i64 kd, .slice A' r.l.length cap'] ∧ Chg (fun _ => False) w wx ∧ UnderAt wx vu ([] ++ [(k' : Int)]) ∧ tellM rs ins (f + 1) (k' : Int) [] = tellGo kd (fun d => tellM rs ins f d ([] ++ [(k' : Int)])) (r.l.drop j) j sum) (fun _ i _ _ _ => r.l.length - (intOf i).toNat)
              case atStart => exact ⟨0, (k' : Int), Nat.zero_le _, rfl, rfl, by omega, by omega, HB3.out, HG3.out, HUA3.out, HT2.out⟩
              case round =>
                obtain ⟨j, sum, hjl, rfl, rfl, hs0, hs1, hB, hG, hUa, hgo⟩ := hrel
                have e0 : wr.cell? ⟨y, 0, none⟩ = some (.int .i64 kd) := by rw [hB.cell]; rfl
                have e1 : wr.cell? ⟨y, 1, none⟩ = some (.slice A' r.l.length cap') := by rw [hB.cell]; rfl
                have HB := hid hB
                have HG := hid hG
                have HUa := hid hUa
                have HGO := hid hgo
                clear hB hG hUa hgo HB3 HG3 HUA3
                by_cases hlt : j < r.l.length
                · have hdr : r.l.drop j = r.l[j] :: r.l.drop (j + 1) := List.drop_eq_getElem_cons hlt
                  obtain ⟨b', off', rfl, hc3⟩ := HC3.out j r.l[j] (List.getElem?_eq_getElem hlt)
                  have e2 := HG.out.cell (hc3 j r.l[j] (List.getElem?_eq_getElem hlt)) (fun h => h)
                  have hokd := HOKR.out.2 r.l[j] (List.getElem_mem hlt)
                  obtain ⟨d, hd⟩ : ∃ d, d = r.l[j] := ⟨_, rfl⟩
                  rw [← hd] at hdr e2 hokd
                  have hgo := HGO.out
                  rw [hdr] at hgo
                  unfold tellGo at hgo
                  have HCALL := hid (HIH.out (some ⟨b, off, none⟩) cap A2 cap2 d vu ([] ++ [(k' : Int)]) wr (RuleRow.chg HR.out HG.out (fun _ _ h => h)) (InRow.chg HI.out HG.out (fun _ _ _ h => h)) HUa.out hokd HNDK.out HINR.out HFK.out)
                  clear hdr hc3 hd hokd HGO
                  rw [Int.tmod_eq_emod_of_nonneg hs0] at hgo
                  have t2 : -2 < sum % 2 ∧ sum % 2 < 2 := by omega
                  by_cases hk1 : kd = 1
                  · have hk1b : (kd == 1) = true := by rw [hk1]; rfl
                    have hk2b : (kd == 2) = false := by rw [hk1]; rfl
                    have HK1 := hid hk1
                    clear hk1
                    by_cases hskip : 2 < j ∨ (0 < j ∧ (j : Int) ≠ 1 + sum % 2)
                    · rw [if_pos ⟨HK1.out, hskip⟩] at hgo
                      have HGO := hid hgo
                      clear hgo HCALL
                      by_cases h2 : 2 < j
                      · clear hskip
                        go_wp2_with fail
                        go_roundw
                        case rel => exact ⟨j + 1, _, by omega, by go_num, rfl, hs0, hs1, HB.out, HG.out, HUa.out, HGO.out⟩
                        case measure => simp [intOf]; omega
                      · have h0 : 0 < j ∧ (j : Int) ≠ 1 + sum % 2 := by omega
                        obtain ⟨h0, hne⟩ := h0
                        have hq1 : ((j : Int) == 1 + sum % 2) = false := beq_eq_false_iff_ne.2 hne
                        have hq2 : ((j : Int) != 1 + sum % 2) = true := by rw [bne, hq1]; rfl
                        clear hskip hne
                        go_wp2_with fail
                        go_roundw
                        case rel => exact ⟨j + 1, _, by omega, by go_num, rfl, hs0, hs1, HB.out, HG.out, HUa.out, HGO.out⟩
                        case measure => simp [intOf]; omega
                    · rw [if_neg (fun h => hskip h.2)] at hgo
                      have HGO := hid hgo
                      clear hgo
                      have h2 : ¬ 2 < j := fun h => hskip (.inl h)
                      by_cases h0 : j = 0
                      · have hz : ((j : Int) == 0) = true := by rw [h0]; rfl
                        have hzn : ¬ 0 < j := by omega
                        have HZ := hid h0
                        clear hskip h0
                        cases hask : tellM rs ins f d ([] ++ [(k' : Int)]) with
                        | none =>
                          have hgo := HGO.out
                          simp only [hask] at hgo
                          have HE := hid hgo
                          have hcall : Calls Try.prog 16 #[.slice (some ⟨b, off, none⟩) rs.length cap, .slice A2 ins.length cap2, enc d, vu] wr fun e w' => e = .returned (.tuple #[.int .i64 0, .bool false]) ∧ Chg (fun _ => False) wr w' := by
                            have := HCALL.out
                            rw [hask] at this
                            exact this
                          have HC := hid hcall
                          clear hgo hcall HCALL HGO
                          go_wp2_with fail
                          refine HC.out.mono ?_
                          rintro e w1 ⟨rfl, gc⟩
                          go_wp2_with fail
                          go_ret2
                          exact ⟨by rw [HE.out]; rfl, HG.out.trans gc⟩
                        | some nn =>
                          have hgo := HGO.out
                          simp only [hask] at hgo
                          rw [if_pos ⟨HK1.out, HZ.out⟩] at hgo
                          have hnn := (tell_eval HIB.out f d _ nn hask).2
                          try rw [Int.tmod_eq_emod_of_nonneg (show 0 ≤ sum + nn by omega)] at hgo
                          try rw [Int.tmod_eq_emod_of_nonneg hnn.1] at hgo
                          have HE := hid hgo
                          have hcall : Calls Try.prog 16 #[.slice (some ⟨b, off, none⟩) rs.length cap, .slice A2 ins.length cap2, enc d, vu] wr fun e w' => e = .returned (.tuple #[.int .i64 nn, .bool true]) ∧ Chg (fun _ => False) wr w' := by
                            have := HCALL.out
                            rw [hask] at this
                            exact this
                          have HC := hid hcall
                          clear hgo hcall HCALL HGO
                          go_wp2_with fail
                          refine HC.out.mono ?_
                          rintro e w1 ⟨rfl, gc⟩
                          have hb1 := gc.blk HB.out (fun h => h)
                          have e0 : w1.cell? ⟨y, 0, none⟩ = some (.int .i64 kd) := by rw [hb1.cell]; rfl
                          have e1 : w1.cell? ⟨y, 1, none⟩ = some (.slice (some ⟨b', off', none⟩) r.l.length cap') := by rw [hb1.cell]; rfl
                          have HB1 := hid hb1
                          have HG1 := hid (HG.out.trans gc)
                          have HU1 := hid (HUa.out.mono gc)
                          clear hb1 gc HB HG HUa
                          go_wp2_with fail
                          go_roundw
                          case rel => exact ⟨j + 1, _, by omega, by go_num, rfl, by omega, by omega, HB1.out, HG1.out, HU1.out, HE.out⟩
                          case measure => simp [intOf]; omega
                      · have h0' : 0 < j := by omega
                        have he : (j : Int) = 1 + sum % 2 := by omega
                        have hz : ((j : Int) == 0) = false := by rw [beq_eq_false_iff_ne]; omega
                        have hq1 : ((j : Int) == 1 + sum % 2) = true := by rw [beq_iff_eq]; exact he
                        have hq2 : ((j : Int) != 1 + sum % 2) = false := by rw [bne, hq1]; rfl
                        have HZ := hid h0
                        clear hskip h0 he
                        cases hask : tellM rs ins f d ([] ++ [(k' : Int)]) with
                        | none =>
                          have hgo := HGO.out
                          simp only [hask] at hgo
                          have HE := hid hgo
                          have hcall : Calls Try.prog 16 #[.slice (some ⟨b, off, none⟩) rs.length cap, .slice A2 ins.length cap2, enc d, vu] wr fun e w' => e = .returned (.tuple #[.int .i64 0, .bool false]) ∧ Chg (fun _ => False) wr w' := by
                            have := HCALL.out
                            rw [hask] at this
                            exact this
                          have HC := hid hcall
                          clear hgo hcall HCALL HGO
                          go_wp2_with fail
                          refine HC.out.mono ?_
                          rintro e w1 ⟨rfl, gc⟩
                          go_wp2_with fail
                          go_ret2
                          exact ⟨by rw [HE.out]; rfl, HG.out.trans gc⟩
                        | some nn =>
                          have hgo := HGO.out
                          simp only [hask] at hgo
                          rw [if_neg (fun h => HZ.out h.2), if_neg (by rw [HK1.out]; omega), if_pos HK1.out] at hgo
                          have hnn := (tell_eval HIB.out f d _ nn hask).2
                          try rw [Int.tmod_eq_emod_of_nonneg (show 0 ≤ sum + nn by omega)] at hgo
                          try rw [Int.tmod_eq_emod_of_nonneg hnn.1] at hgo
                          have HE := hid hgo
                          have hcall : Calls Try.prog 16 #[.slice (some ⟨b, off, none⟩) rs.length cap, .slice A2 ins.length cap2, enc d, vu] wr fun e w' => e = .returned (.tuple #[.int .i64 nn, .bool true]) ∧ Chg (fun _ => False) wr w' := by
                            have := HCALL.out
                            rw [hask] at this
                            exact this
                          have HC := hid hcall
                          clear hgo hcall HCALL HGO
                          go_wp2_with fail
                          refine HC.out.mono ?_
                          rintro e w1 ⟨rfl, gc⟩
                          have hb1 := gc.blk HB.out (fun h => h)
                          have e0 : w1.cell? ⟨y, 0, none⟩ = some (.int .i64 kd) := by rw [hb1.cell]; rfl
                          have e1 : w1.cell? ⟨y, 1, none⟩ = some (.slice (some ⟨b', off', none⟩) r.l.length cap') := by rw [hb1.cell]; rfl
                          have HB1 := hid hb1
                          have HG1 := hid (HG.out.trans gc)
                          have HU1 := hid (HUa.out.mono gc)
                          clear hb1 gc HB HG HUa
                          go_wp2_with fail
                          go_ret2
                          exact ⟨by rw [HE.out]; rfl, HG1.out⟩
                  · have hk1b : (kd == 1) = false := beq_eq_false_iff_ne.2 hk1
                    rw [if_neg (fun h => hk1 h.1)] at hgo
                    have HGO := hid hgo
                    clear hgo
                    by_cases hk2 : kd = 2
                    · have hk2b : (kd == 2) = true := by rw [hk2]; rfl
                      have HK2 := hid hk2
                      have HK1 := hid hk1
                      clear hk1 hk2
                      cases hask : tellM rs ins f d ([] ++ [(k' : Int)]) with
                      | none =>
                        have hgo := HGO.out
                        simp only [hask] at hgo
                        have HE := hid hgo
                        have hcall : Calls Try.prog 16 #[.slice (some ⟨b, off, none⟩) rs.length cap, .slice A2 ins.length cap2, enc d, vu] wr fun e w' => e = .returned (.tuple #[.int .i64 0, .bool false]) ∧ Chg (fun _ => False) wr w' := by
                          have := HCALL.out
                          rw [hask] at this
                          exact this
                        have HC := hid hcall
                        clear hgo hcall HCALL HGO
                        go_wp2_with fail
                        refine HC.out.mono ?_
                        rintro e w1 ⟨rfl, gc⟩
                        go_wp2_with fail
                        go_ret2
                        exact ⟨by rw [HE.out]; rfl, HG.out.trans gc⟩
                      | some nn =>
                        have hgo := HGO.out
                        simp only [hask] at hgo
                        rw [if_neg (fun h => HK1.out h.1), if_pos HK2.out] at hgo
                        have hnn := (tell_eval HIB.out f d _ nn hask).2
                        try rw [Int.tmod_eq_emod_of_nonneg (show 0 ≤ sum + nn by omega)] at hgo
                        try rw [Int.tmod_eq_emod_of_nonneg hnn.1] at hgo
                        have HE := hid hgo
                        have hcall : Calls Try.prog 16 #[.slice (some ⟨b, off, none⟩) rs.length cap, .slice A2 ins.length cap2, enc d, vu] wr fun e w' => e = .returned (.tuple #[.int .i64 nn, .bool true]) ∧ Chg (fun _ => False) wr w' := by
                          have := HCALL.out
                          rw [hask] at this
                          exact this
                        have HC := hid hcall
                        clear hgo hcall HCALL HGO
                        go_wp2_with fail
                        refine HC.out.mono ?_
                        rintro e w1 ⟨rfl, gc⟩
                        have hb1 := gc.blk HB.out (fun h => h)
                        have e0 : w1.cell? ⟨y, 0, none⟩ = some (.int .i64 kd) := by rw [hb1.cell]; rfl
                        have e1 : w1.cell? ⟨y, 1, none⟩ = some (.slice (some ⟨b', off', none⟩) r.l.length cap') := by rw [hb1.cell]; rfl
                        have HB1 := hid hb1
                        have HG1 := hid (HG.out.trans gc)
                        have HU1 := hid (HUa.out.mono gc)
                        clear hb1 gc HB HG HUa
                        go_wp2_with fail
                        go_ret2
                        exact ⟨by rw [HE.out]; rfl, HG1.out⟩
                    · have hk2b : (kd == 2) = false := beq_eq_false_iff_ne.2 hk2
                      have HK2 := hid hk2
                      have HK1 := hid hk1
                      clear hk1 hk2
                      cases hask : tellM rs ins f d ([] ++ [(k' : Int)]) with
                      | none =>
                        have hgo := HGO.out
                        simp only [hask] at hgo
                        have HE := hid hgo
                        have hcall : Calls Try.prog 16 #[.slice (some ⟨b, off, none⟩) rs.length cap, .slice A2 ins.length cap2, enc d, vu] wr fun e w' => e = .returned (.tuple #[.int .i64 0, .bool false]) ∧ Chg (fun _ => False) wr w' := by
                          have := HCALL.out
                          rw [hask] at this
                          exact this
                        have HC := hid hcall
                        clear hgo hcall HCALL HGO
                        go_wp2_with fail
                        refine HC.out.mono ?_
                        rintro e w1 ⟨rfl, gc⟩
                        go_wp2_with fail
                        go_ret2
                        exact ⟨by rw [HE.out]; rfl, HG.out.trans gc⟩
                      | some nn =>
                        have hgo := HGO.out
                        simp only [hask] at hgo
                        rw [if_neg (fun h => HK1.out h.1), if_neg HK2.out, if_neg HK1.out] at hgo
                        have hnn := (tell_eval HIB.out f d _ nn hask).2
                        try rw [Int.tmod_eq_emod_of_nonneg (show 0 ≤ sum + nn by omega)] at hgo
                        try rw [Int.tmod_eq_emod_of_nonneg hnn.1] at hgo
                        have HE := hid hgo
                        have hcall : Calls Try.prog 16 #[.slice (some ⟨b, off, none⟩) rs.length cap, .slice A2 ins.length cap2, enc d, vu] wr fun e w' => e = .returned (.tuple #[.int .i64 nn, .bool true]) ∧ Chg (fun _ => False) wr w' := by
                          have := HCALL.out
                          rw [hask] at this
                          exact this
                        have HC := hid hcall
                        clear hgo hcall HCALL HGO
                        go_wp2_with fail
                        refine HC.out.mono ?_
                        rintro e w1 ⟨rfl, gc⟩
                        have hb1 := gc.blk HB.out (fun h => h)
                        have e0 : w1.cell? ⟨y, 0, none⟩ = some (.int .i64 kd) := by rw [hb1.cell]; rfl
                        have e1 : w1.cell? ⟨y, 1, none⟩ = some (.slice (some ⟨b', off', none⟩) r.l.length cap') := by rw [hb1.cell]; rfl
                        have HB1 := hid hb1
                        have HG1 := hid (HG.out.trans gc)
                        have HU1 := hid (HUa.out.mono gc)
                        clear hb1 gc HB HG HUa
                        go_wp2_with fail
                        go_roundw
                        case rel => exact ⟨j + 1, _, by omega, by go_num, rfl, by omega, by omega, HB1.out, HG1.out, HU1.out, HE.out⟩
                        case measure => simp [intOf]; omega
                · have hje : j = r.l.length := by omega
                  have HE : Hid (tellM rs ins (f + 1) (k' : Int) [] = some (sum % 1000)) := hid (by
                    have hgo := HGO.out
                    rw [hje, List.drop_length, tellGo, Int.tmod_eq_emod_of_nonneg hs0] at hgo
                    exact hgo)
                  clear HGO
                  go_wp2_with fail
                  go_ret2
                  exact ⟨by rw [HE.out]; rfl, HG.out⟩
            · simp only [Value.slice.injEq] at hu1
              obtain ⟨rfl, -, rfl⟩ := hu1
              have hun : ∀ j u, (under.map (Value.int .i64))[j]? = some u → (w.alloc (.cells #[] 3)).cell? ((⟨ub, uoff, none⟩ : Addr).add j) = some u := by
                intro j u hj
                rw [add_none]
                simp only [List.getElem?_map, Option.map_eq_some_iff] at hj
                obtain ⟨y, hy, rfl⟩ := hj
                exact ((Chg.refl (fun _ => False) w).alloc _).cell (hu3 j y hy) (fun h => h)
              have HUN := hid hun
              clear hun
              go_upto_region 12 with (first
                | (at_builtin
                   refine wpList_append_own_at _ rfl (.tmp 46) (.tmp 47) 41 rfl w.heap.size 3 i0 (.int .i64 0) 1 8 Try.underlying41 hi0 hz0 hz1 hz2 rfl (by decide) (.slice (some ⟨w.heap.size, 0, none⟩) 0 0) 0 [] rfl HO1.out ⟨ub, uoff, none⟩ under.length c (under.map (Value.int .i64)) rfl (by simp) HUN.out (by intro u hu; obtain ⟨y, _, rfl⟩ := List.mem_map.1 hu; rfl) (by unfold maxLen; omega) (by omega) (by simp) ?_
                   intro v1 wx hown0 hgrow0 hnil0 hat0
                   rw [Nat.zero_add, List.nil_append] at hown0
                   have hc0 : Chg (fun k => k = w.heap.size) (w.alloc (.cells #[] 3)) wx := (chg_of_grown hgrow0).weaken (fun k _ e => by simp [Value.ownBlock] at e; omega)
                   have HOWN0 := hid hown0
                   have HC0 := hid hc0
                   have HSZ0 : Hid (w.heap.size < wx.heap.size) := hid (by have := hc0.size; simp at this; omega)
                   clear hown0 hgrow0 hnil0 hat0 hc0)
                | (at_builtin
                   refine wpList_append_own_at _ rfl (.tmp 48) (.tmp 50) 41 rfl w.heap.size 3 i0 (.int .i64 0) 1 8 Try.underlying41 hi0 hz0 hz1 hz2 rfl (by decide) v1 under.length (under.map (Value.int .i64)) rfl (own_chg HOWN0.out ((Chg.refl (fun _ => False) _).alloc _) (fun _ _ h => h)) ⟨wx.heap.size, 0, none⟩ 1 1 [.int .i64 k'] rfl rfl (news1 _ _ _ _ rfl) (by simp [Value.oneCell']) (by unfold maxLen; omega) (by omega) (by have := HSZ0.out; simp; omega) ?_
                   intro v' w2 hown1 hgrow hnil hat
                   obtain ⟨g', cap2', rfl⟩ := ownsRow_succ hown1))
              have hg2 : Chg (fun _ => False) w w2 := ((((Chg.refl (fun _ => False) w).alloc (.cells #[] 3)).into HC0.out (fun k hk e => by omega)).alloc (.cells #[enc (k' : Int)] 3)).into (chg_of_grown hgrow) (fun k hk e => by have := (HOWN0.out.lt k e.symm).1; omega)
              have hua : UnderAt w2 (.slice (some ⟨g', 0, none⟩) (under.length + 1) cap2') (under ++ [(k' : Int)]) := .inr ⟨g', 0, cap2', by rw [List.length_append]; rfl, own_lt hown1, fun j u hj => by rw [Nat.zero_add]; exact own_cell hown1 (by
                have e1 : under.map (Value.int .i64) ++ [.int .i64 (k' : Int)] = (under ++ [(k' : Int)]).map (Value.int .i64) := by rw [List.map_append]; rfl
                rw [e1, List.getElem?_map, hj]; rfl)⟩
              obtain ⟨vu, hvu⟩ : ∃ vu, vu = Value.slice (some ⟨g', 0, none⟩) (under.length + 1) cap2' := ⟨_, rfl⟩
              rw [← hvu] at hua ⊢
              have c1' := hg2.cell c1 (fun h => h)
              have c2' := hg2.cell c2 (fun h => h)
              have HG2 := hid hg2
              have HUA := hid hua
              clear hvu hua hg2 c1 c2 hown1 hgrow hnil hat hap HO1
              go_wp2_with fail
              obtain ⟨w3, hw3⟩ : ∃ w3, w2.alloc (.cells #[.int .i64 kd, .slice A' r.l.length cap'] 43) = w3 := ⟨_, rfl⟩
              obtain ⟨y, hy⟩ : ∃ y, y = w2.heap.size := ⟨_, rfl⟩
              have b3 : Blk w3 y 43 #[.int .i64 kd, .slice A' r.l.length cap'] := by rw [← hw3, hy]; exact Blk.new w2 43 _
              have HG3 : Hid (Chg (fun _ => False) w w3) := hid (by rw [← hw3]; exact HG2.out.alloc _)
              have HUA3 : Hid (UnderAt w3 vu (under ++ [(k' : Int)])) := hid (HUA.out.mono (by rw [← hw3]; exact (Chg.refl _ _).alloc _))
              have HB3 := hid b3
              rw [hw3, ← hy]
              clear hw3 hy b3 HG2 HUA c1' c2'
              go_loopw [14, 15, 16, 17] (fun u14 i u16 u17 wx => ∃ (j : Nat) (sum : Int), j ≤ r.l.length ∧ i = .int .i64 j ∧ u14 = .int .i64 sum ∧ 0 ≤ sum ∧ sum ≤ 1000 ∧ Blk wx y 43 #[.int .i64 kd, .slice A' r.l.length cap'] ∧ Chg (fun _ => False) w wx ∧ UnderAt wx vu (under ++ [(k' : Int)]) ∧ tellM rs ins (f + 1) (k' : Int) under = tellGo kd (fun d => tellM rs ins f d (under ++ [(k' : Int)])) (r.l.drop j) j sum) (fun _ i _ _ _ => r.l.length - (intOf i).toNat)
              case atStart => exact ⟨0, (k' : Int), Nat.zero_le _, rfl, rfl, by omega, by omega, HB3.out, HG3.out, HUA3.out, HT2.out⟩
              case round =>
                obtain ⟨j, sum, hjl, rfl, rfl, hs0, hs1, hB, hG, hUa, hgo⟩ := hrel
                have e0 : wr.cell? ⟨y, 0, none⟩ = some (.int .i64 kd) := by rw [hB.cell]; rfl
                have e1 : wr.cell? ⟨y, 1, none⟩ = some (.slice A' r.l.length cap') := by rw [hB.cell]; rfl
                have HB := hid hB
                have HG := hid hG
                have HUa := hid hUa
                have HGO := hid hgo
                clear hB hG hUa hgo HB3 HG3 HUA3
                by_cases hlt : j < r.l.length
                · have hdr : r.l.drop j = r.l[j] :: r.l.drop (j + 1) := List.drop_eq_getElem_cons hlt
                  obtain ⟨b', off', rfl, hc3⟩ := HC3.out j r.l[j] (List.getElem?_eq_getElem hlt)
                  have e2 := HG.out.cell (hc3 j r.l[j] (List.getElem?_eq_getElem hlt)) (fun h => h)
                  have hokd := HOKR.out.2 r.l[j] (List.getElem_mem hlt)
                  obtain ⟨d, hd⟩ : ∃ d, d = r.l[j] := ⟨_, rfl⟩
                  rw [← hd] at hdr e2 hokd
                  have hgo := HGO.out
                  rw [hdr] at hgo
                  unfold tellGo at hgo
                  have HCALL := hid (HIH.out (some ⟨b, off, none⟩) cap A2 cap2 d vu (under ++ [(k' : Int)]) wr (RuleRow.chg HR.out HG.out (fun _ _ h => h)) (InRow.chg HI.out HG.out (fun _ _ _ h => h)) HUa.out hokd HNDK.out HINR.out HFK.out)
                  clear hdr hc3 hd hokd HGO
                  rw [Int.tmod_eq_emod_of_nonneg hs0] at hgo
                  have t2 : -2 < sum % 2 ∧ sum % 2 < 2 := by omega
                  by_cases hk1 : kd = 1
                  · have hk1b : (kd == 1) = true := by rw [hk1]; rfl
                    have hk2b : (kd == 2) = false := by rw [hk1]; rfl
                    have HK1 := hid hk1
                    clear hk1
                    by_cases hskip : 2 < j ∨ (0 < j ∧ (j : Int) ≠ 1 + sum % 2)
                    · rw [if_pos ⟨HK1.out, hskip⟩] at hgo
                      have HGO := hid hgo
                      clear hgo HCALL
                      by_cases h2 : 2 < j
                      · clear hskip
                        go_wp2_with fail
                        go_roundw
                        case rel => exact ⟨j + 1, _, by omega, by go_num, rfl, hs0, hs1, HB.out, HG.out, HUa.out, HGO.out⟩
                        case measure => simp [intOf]; omega
                      · have h0 : 0 < j ∧ (j : Int) ≠ 1 + sum % 2 := by omega
                        obtain ⟨h0, hne⟩ := h0
                        have hq1 : ((j : Int) == 1 + sum % 2) = false := beq_eq_false_iff_ne.2 hne
                        have hq2 : ((j : Int) != 1 + sum % 2) = true := by rw [bne, hq1]; rfl
                        clear hskip hne
                        go_wp2_with fail
                        go_roundw
                        case rel => exact ⟨j + 1, _, by omega, by go_num, rfl, hs0, hs1, HB.out, HG.out, HUa.out, HGO.out⟩
                        case measure => simp [intOf]; omega
                    · rw [if_neg (fun h => hskip h.2)] at hgo
                      have HGO := hid hgo
                      clear hgo
                      have h2 : ¬ 2 < j := fun h => hskip (.inl h)
                      by_cases h0 : j = 0
                      · have hz : ((j : Int) == 0) = true := by rw [h0]; rfl
                        have hzn : ¬ 0 < j := by omega
                        have HZ := hid h0
                        clear hskip h0
                        cases hask : tellM rs ins f d (under ++ [(k' : Int)]) with
                        | none =>
                          have hgo := HGO.out
                          simp only [hask] at hgo
                          have HE := hid hgo
                          have hcall : Calls Try.prog 16 #[.slice (some ⟨b, off, none⟩) rs.length cap, .slice A2 ins.length cap2, enc d, vu] wr fun e w' => e = .returned (.tuple #[.int .i64 0, .bool false]) ∧ Chg (fun _ => False) wr w' := by
                            have := HCALL.out
                            rw [hask] at this
                            exact this
                          have HC := hid hcall
                          clear hgo hcall HCALL HGO
                          go_wp2_with fail
                          refine HC.out.mono ?_
                          rintro e w1 ⟨rfl, gc⟩
                          go_wp2_with fail
                          go_ret2
                          exact ⟨by rw [HE.out]; rfl, HG.out.trans gc⟩
                        | some nn =>
                          have hgo := HGO.out
                          simp only [hask] at hgo
                          rw [if_pos ⟨HK1.out, HZ.out⟩] at hgo
                          have hnn := (tell_eval HIB.out f d _ nn hask).2
                          try rw [Int.tmod_eq_emod_of_nonneg (show 0 ≤ sum + nn by omega)] at hgo
                          try rw [Int.tmod_eq_emod_of_nonneg hnn.1] at hgo
                          have HE := hid hgo
                          have hcall : Calls Try.prog 16 #[.slice (some ⟨b, off, none⟩) rs.length cap, .slice A2 ins.length cap2, enc d, vu] wr fun e w' => e = .returned (.tuple #[.int .i64 nn, .bool true]) ∧ Chg (fun _ => False) wr w' := by
                            have := HCALL.out
                            rw [hask] at this
                            exact this
                          have HC := hid hcall
                          clear hgo hcall HCALL HGO
                          go_wp2_with fail
                          refine HC.out.mono ?_
                          rintro e w1 ⟨rfl, gc⟩
                          have hb1 := gc.blk HB.out (fun h => h)
                          have e0 : w1.cell? ⟨y, 0, none⟩ = some (.int .i64 kd) := by rw [hb1.cell]; rfl
                          have e1 : w1.cell? ⟨y, 1, none⟩ = some (.slice (some ⟨b', off', none⟩) r.l.length cap') := by rw [hb1.cell]; rfl
                          have HB1 := hid hb1
                          have HG1 := hid (HG.out.trans gc)
                          have HU1 := hid (HUa.out.mono gc)
                          clear hb1 gc HB HG HUa
                          go_wp2_with fail
                          go_roundw
                          case rel => exact ⟨j + 1, _, by omega, by go_num, rfl, by omega, by omega, HB1.out, HG1.out, HU1.out, HE.out⟩
                          case measure => simp [intOf]; omega
                      · have h0' : 0 < j := by omega
                        have he : (j : Int) = 1 + sum % 2 := by omega
                        have hz : ((j : Int) == 0) = false := by rw [beq_eq_false_iff_ne]; omega
                        have hq1 : ((j : Int) == 1 + sum % 2) = true := by rw [beq_iff_eq]; exact he
                        have hq2 : ((j : Int) != 1 + sum % 2) = false := by rw [bne, hq1]; rfl
                        have HZ := hid h0
                        clear hskip h0 he
                        cases hask : tellM rs ins f d (under ++ [(k' : Int)]) with
                        | none =>
                          have hgo := HGO.out
                          simp only [hask] at hgo
                          have HE := hid hgo
                          have hcall : Calls Try.prog 16 #[.slice (some ⟨b, off, none⟩) rs.length cap, .slice A2 ins.length cap2, enc d, vu] wr fun e w' => e = .returned (.tuple #[.int .i64 0, .bool false]) ∧ Chg (fun _ => False) wr w' := by
                            have := HCALL.out
                            rw [hask] at this
                            exact this
                          have HC := hid hcall
                          clear hgo hcall HCALL HGO
                          go_wp2_with fail
                          refine HC.out.mono ?_
                          rintro e w1 ⟨rfl, gc⟩
                          go_wp2_with fail
                          go_ret2
                          exact ⟨by rw [HE.out]; rfl, HG.out.trans gc⟩
                        | some nn =>
                          have hgo := HGO.out
                          simp only [hask] at hgo
                          rw [if_neg (fun h => HZ.out h.2), if_neg (by rw [HK1.out]; omega), if_pos HK1.out] at hgo
                          have hnn := (tell_eval HIB.out f d _ nn hask).2
                          try rw [Int.tmod_eq_emod_of_nonneg (show 0 ≤ sum + nn by omega)] at hgo
                          try rw [Int.tmod_eq_emod_of_nonneg hnn.1] at hgo
                          have HE := hid hgo
                          have hcall : Calls Try.prog 16 #[.slice (some ⟨b, off, none⟩) rs.length cap, .slice A2 ins.length cap2, enc d, vu] wr fun e w' => e = .returned (.tuple #[.int .i64 nn, .bool true]) ∧ Chg (fun _ => False) wr w' := by
                            have := HCALL.out
                            rw [hask] at this
                            exact this
                          have HC := hid hcall
                          clear hgo hcall HCALL HGO
                          go_wp2_with fail
                          refine HC.out.mono ?_
                          rintro e w1 ⟨rfl, gc⟩
                          have hb1 := gc.blk HB.out (fun h => h)
                          have e0 : w1.cell? ⟨y, 0, none⟩ = some (.int .i64 kd) := by rw [hb1.cell]; rfl
                          have e1 : w1.cell? ⟨y, 1, none⟩ = some (.slice (some ⟨b', off', none⟩) r.l.length cap') := by rw [hb1.cell]; rfl
                          have HB1 := hid hb1
                          have HG1 := hid (HG.out.trans gc)
                          have HU1 := hid (HUa.out.mono gc)
                          clear hb1 gc HB HG HUa
                          go_wp2_with fail
                          go_ret2
                          exact ⟨by rw [HE.out]; rfl, HG1.out⟩
                  · have hk1b : (kd == 1) = false := beq_eq_false_iff_ne.2 hk1
                    rw [if_neg (fun h => hk1 h.1)] at hgo
                    have HGO := hid hgo
                    clear hgo
                    by_cases hk2 : kd = 2
                    · have hk2b : (kd == 2) = true := by rw [hk2]; rfl
                      have HK2 := hid hk2
                      have HK1 := hid hk1
                      clear hk1 hk2
                      cases hask : tellM rs ins f d (under ++ [(k' : Int)]) with
                      | none =>
                        have hgo := HGO.out
                        simp only [hask] at hgo
                        have HE := hid hgo
                        have hcall : Calls Try.prog 16 #[.slice (some ⟨b, off, none⟩) rs.length cap, .slice A2 ins.length cap2, enc d, vu] wr fun e w' => e = .returned (.tuple #[.int .i64 0, .bool false]) ∧ Chg (fun _ => False) wr w' := by
                          have := HCALL.out
                          rw [hask] at this
                          exact this
                        have HC := hid hcall
                        clear hgo hcall HCALL HGO
                        go_wp2_with fail
                        refine HC.out.mono ?_
                        rintro e w1 ⟨rfl, gc⟩
                        go_wp2_with fail
                        go_ret2
                        exact ⟨by rw [HE.out]; rfl, HG.out.trans gc⟩
                      | some nn =>
                        have hgo := HGO.out
                        simp only [hask] at hgo
                        rw [if_neg (fun h => HK1.out h.1), if_pos HK2.out] at hgo
                        have hnn := (tell_eval HIB.out f d _ nn hask).2
                        try rw [Int.tmod_eq_emod_of_nonneg (show 0 ≤ sum + nn by omega)] at hgo
                        try rw [Int.tmod_eq_emod_of_nonneg hnn.1] at hgo
                        have HE := hid hgo
                        have hcall : Calls Try.prog 16 #[.slice (some ⟨b, off, none⟩) rs.length cap, .slice A2 ins.length cap2, enc d, vu] wr fun e w' => e = .returned (.tuple #[.int .i64 nn, .bool true]) ∧ Chg (fun _ => False) wr w' := by
                          have := HCALL.out
                          rw [hask] at this
                          exact this
                        have HC := hid hcall
                        clear hgo hcall HCALL HGO
                        go_wp2_with fail
                        refine HC.out.mono ?_
                        rintro e w1 ⟨rfl, gc⟩
                        have hb1 := gc.blk HB.out (fun h => h)
                        have e0 : w1.cell? ⟨y, 0, none⟩ = some (.int .i64 kd) := by rw [hb1.cell]; rfl
                        have e1 : w1.cell? ⟨y, 1, none⟩ = some (.slice (some ⟨b', off', none⟩) r.l.length cap') := by rw [hb1.cell]; rfl
                        have HB1 := hid hb1
                        have HG1 := hid (HG.out.trans gc)
                        have HU1 := hid (HUa.out.mono gc)
                        clear hb1 gc HB HG HUa
                        go_wp2_with fail
                        go_ret2
                        exact ⟨by rw [HE.out]; rfl, HG1.out⟩
                    · have hk2b : (kd == 2) = false := beq_eq_false_iff_ne.2 hk2
                      have HK2 := hid hk2
                      have HK1 := hid hk1
                      clear hk1 hk2
                      cases hask : tellM rs ins f d (under ++ [(k' : Int)]) with
                      | none =>
                        have hgo := HGO.out
                        simp only [hask] at hgo
                        have HE := hid hgo
                        have hcall : Calls Try.prog 16 #[.slice (some ⟨b, off, none⟩) rs.length cap, .slice A2 ins.length cap2, enc d, vu] wr fun e w' => e = .returned (.tuple #[.int .i64 0, .bool false]) ∧ Chg (fun _ => False) wr w' := by
                          have := HCALL.out
                          rw [hask] at this
                          exact this
                        have HC := hid hcall
                        clear hgo hcall HCALL HGO
                        go_wp2_with fail
                        refine HC.out.mono ?_
                        rintro e w1 ⟨rfl, gc⟩
                        go_wp2_with fail
                        go_ret2
                        exact ⟨by rw [HE.out]; rfl, HG.out.trans gc⟩
                      | some nn =>
                        have hgo := HGO.out
                        simp only [hask] at hgo
                        rw [if_neg (fun h => HK1.out h.1), if_neg HK2.out, if_neg HK1.out] at hgo
                        have hnn := (tell_eval HIB.out f d _ nn hask).2
                        try rw [Int.tmod_eq_emod_of_nonneg (show 0 ≤ sum + nn by omega)] at hgo
                        try rw [Int.tmod_eq_emod_of_nonneg hnn.1] at hgo
                        have HE := hid hgo
                        have hcall : Calls Try.prog 16 #[.slice (some ⟨b, off, none⟩) rs.length cap, .slice A2 ins.length cap2, enc d, vu] wr fun e w' => e = .returned (.tuple #[.int .i64 nn, .bool true]) ∧ Chg (fun _ => False) wr w' := by
                          have := HCALL.out
                          rw [hask] at this
                          exact this
                        have HC := hid hcall
                        clear hgo hcall HCALL HGO
                        go_wp2_with fail
                        refine HC.out.mono ?_
                        rintro e w1 ⟨rfl, gc⟩
                        have hb1 := gc.blk HB.out (fun h => h)
                        have e0 : w1.cell? ⟨y, 0, none⟩ = some (.int .i64 kd) := by rw [hb1.cell]; rfl
                        have e1 : w1.cell? ⟨y, 1, none⟩ = some (.slice (some ⟨b', off', none⟩) r.l.length cap') := by rw [hb1.cell]; rfl
                        have HB1 := hid hb1
                        have HG1 := hid (HG.out.trans gc)
                        have HU1 := hid (HUa.out.mono gc)
                        clear hb1 gc HB HG HUa
                        go_wp2_with fail
                        go_roundw
                        case rel => exact ⟨j + 1, _, by omega, by go_num, rfl, by omega, by omega, HB1.out, HG1.out, HU1.out, HE.out⟩
                        case measure => simp [intOf]; omega
                · have hje : j = r.l.length := by omega
                  have HE : Hid (tellM rs ins (f + 1) (k' : Int) under = some (sum % 1000)) := hid (by
                    have hgo := HGO.out
                    rw [hje, List.drop_length, tellGo, Int.tmod_eq_emod_of_nonneg hs0] at hgo
                    exact hgo)
                  clear HGO
                  go_wp2_with fail
                  go_ret2
                  exact ⟨by rw [HE.out]; rfl, HG.out⟩
theorem tell_any (rs : List Rule) (ins : List (Int × Int)) (hrl : rs.length ≤ 1000) (hil : ins.length ≤ 1000) (hib : ∀ x ∈ ins, 0 ≤ x.2 ∧ x.2 ≤ 255) (hll : ∀ r ∈ rs, r.l.length ≤ 100) (hok : ∀ r ∈ rs, ok r.kind ∧ ∀ d ∈ r.l, ok d) : ∀ f, TellOK rs ins f := by
  intro f
  induction f with
  | zero =>
    intro A cap A2 cap2 k v under w _ _ _ _ hnd hin hf
    have := few_in hnd hin
    omega
  | succ f ih => exact tell_step rs ins hrl hil hib hll hok f ih
end Go.Proofs.Ytfkedhclhmbpfaa
