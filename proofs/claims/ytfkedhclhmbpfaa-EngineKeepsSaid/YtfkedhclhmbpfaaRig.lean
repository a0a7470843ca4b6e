/-
  The engine's right.
-/
import Derived.Test.YtfkedhclhmbpfaaUnd
import Derived.Outline
namespace Go.Proofs.Ytfkedhclhmbpfaa
open Go.RowKit Go.Maps
set_option linter.unusedVariables false
set_option linter.unusedSimpArgs false

/-- A rules' list as it lies in memory, outside the blocks of F. -/
structure RulesAt (w : World) (F : Nat → Prop) (A : Option Addr) (rs : List Rule) : Prop where
  few : rs.length ≤ 1000
  lens : ∀ r ∈ rs, r.l.length ≤ 100
  ok : ∀ r ∈ rs, ok r.kind ∧ ∀ d ∈ r.l, ok d
  mem : ∀ (i : Nat) (r : Rule), rs[i]? = some r → ∃ b off A' cap', A = some ⟨b, off, none⟩ ∧ ¬ F b ∧ w.cell? ⟨b, off + i * 2, none⟩ = some (.int .i64 r.kind) ∧ w.cell? ⟨b, off + i * 2 + 1, none⟩ = some (.slice A' r.l.length cap') ∧
    ∀ (j : Nat) (d : Int), r.l[j]? = some d → ∃ b' off', A' = some ⟨b', off', none⟩ ∧ ¬ F b' ∧ ∀ (j : Nat) (d : Int), r.l[j]? = some d → w.cell? ⟨b', off' + j, none⟩ = some (.int .i64 d)
theorem RulesAt.chg {w w' : World} {F F' : Nat → Prop} {A : Option Addr} {rs : List Rule} (h : RulesAt w F A rs) (hc : Chg F w w') (hF : ∀ k, F' k → F k ∨ w.heap.size ≤ k) : RulesAt w' F' A rs := by
  refine ⟨h.few, h.lens, h.ok, fun i r hi => ?_⟩
  obtain ⟨b, off, A', cap', hA, hb, h1, h2, h3⟩ := h.mem i r hi
  refine ⟨b, off, A', cap', hA, fun hb' => ?_, hc.cell h1 hb, hc.cell h2 hb, fun j d hj => ?_⟩
  · rcases hF b hb' with h | h
    · exact hb h
    · have := lt_of_cell h1
      dsimp only at this
      omega
  · obtain ⟨b', off', hA', hb', h4⟩ := h3 j d hj
    refine ⟨b', off', hA', fun hb2 => ?_, fun j d hj => hc.cell (h4 j d hj) hb'⟩
    rcases hF b' hb2 with h | h
    · exact hb' h
    · have := lt_of_cell (h4 j d hj)
      dsimp only at this
      omega
theorem RulesAt.got {L : Lay} {rv : Value} {p p' : Fp} {w w' : World} {st st' : St} {A : Option Addr} {rs : List Rule} (h : RulesAt w p.F A rs) (g : Got L rv p w st p' w' st') : RulesAt w' p'.F A rs := h.chg g.chg g.blocks

/-- The rules as an interface's value. -/
def rvOf (A : Option Addr) (rs : List Rule) (cap : Nat) : Value := .iface 31 (.agg #[.slice A rs.length cap])

/-- 'turned' does what it is said to. -/
def TurnedOK (L : Lay) (rv : Value) (A : Option Addr) (rs : List Rule) (turned : St → Int → Option (St × Int)) : Prop :=
  ∀ (w : World) (p : Fp) (st : St) (k : Int) (st' : St) (t : Int), EngAt w L p rv st → RulesAt w p.F A rs → ok k → turned st k = some (st', t) →
    Calls Try.prog 44 #[En L, enc k] w fun e w' => e = .returned (.int .i64 t) ∧ Left L p rv w st st' w'
/-- 'ask' does what it is said to. -/
def AskOK (L : Lay) (rv : Value) (A : Option Addr) (rs : List Rule) (ask : St → Int → Option (St × ByteArray)) : Prop :=
  ∀ (w : World) (p : Fp) (st : St) (k : Int) (st' : St) (s : ByteArray), EngAt w L p rv st → RulesAt w p.F A rs → ok k → ask st k = some (st', s) →
    Calls Try.prog 23 #[En L, enc k] w fun e w' => e = .returned (.string s) ∧ s.size ≤ 1000000 ∧ Left L p rv w st st' w'

theorem wrap_add (n : Int) : wrap64 (wrap64 n + 1) = wrap64 (n + 1) := by
  unfold wrap64
  omega

theorem own_row3 {w : World} {v : Value} {zs : List Int} (h : w.ownsRow 0 3 1 v zs.length (zs.map (Value.int .i64))) :
    ∃ A cap, v = .slice A zs.length cap ∧ zs.length ≤ maxLen ∧ (0 < zs.length → ∃ g o, A = some ⟨g, 0, none⟩ ∧ v.ownBlock = some g ∧ w.heap[g]? = some o ∧ IntRow o ∧ ∀ w' : World, w'.heap[g]? = some o → ∀ (j : Nat) (d : Int), zs[j]? = some d → w'.cell? ⟨g, j, none⟩ = some (.int .i64 d)) := by
  rcases h.2 with ⟨rfl, h0⟩ | ⟨g, cap', cur, rfl, _, hgg, h1, h2, _, ht⟩
  · exact ⟨none, 0, by rw [h0], by rw [h0]; exact Nat.zero_le _, fun hp => by omega⟩
  · refine ⟨_, _, rfl, Nat.le_trans h1 h2, fun _ => ⟨g, _, rfl, rfl, hgg, ⟨_, _, rfl⟩, fun w' hw j d hj => ?_⟩⟩
    have hj' : (zs.map (Value.int .i64))[j]? = some (.int .i64 d) := by rw [List.getElem?_map, hj]; rfl
    rw [← ht, List.getElem?_take] at hj'
    split at hj'
    · rw [cell_of_row w' g j cur 3 (0, 0) hw]
      simpa using hj'
    · cases hj'

set_option maxHeartbeats 4000000 in
theorem right_any (turned : St → Int → Option (St × Int)) (L : Lay) (rv : Value) (A : Option Addr) (rs : List Rule) (hT : TurnedOK L rv A rs turned) (w : World) (p : Fp) (st : St) (k : Int) (c : Cell) (st' : St) (b : Bool)
    (h : EngAt w L p rv st) (hR : RulesAt w p.F A rs) (hk : ∀ d ∈ c.asked, ok d) (hc : st.cells k = some c) (hm : rightM turned k st = some (st', b)) :
    Calls Try.prog 36 #[En L, .pointer (some ⟨p.loc k, 0, none⟩)] w fun e w' => e = .returned (.bool b) ∧ Left L p rv w st st' w' := by
  obtain ⟨loc, wF, uF, F⟩ := p
  obtain ⟨av, h⟩ := h
  dsimp only at h hR ⊢
  unfold rightM at hm
  rw [hc] at hm
  simp only at hm
  have e10 := h.e10
  have f10 := h.f 10
  obtain ⟨A1, cap1, hav, hlen, hrow⟩ := own_row3 (h.cel k c hc).2
  have k1 := h.k1 hc
  rw [hav] at k1
  have hne : L.eb ≠ loc k := h.eb_loc hc
  have hwr := wrap_add st.checks
  have k1' : (w.setCell ⟨L.eb, 10, none⟩ (.int .i64 (wrap64 (st.checks + 1)))).cell? ⟨loc k, 1, none⟩ = some (.slice A1 c.asked.length cap1) := by
    rw [World.cell?_setCell_other _ _ _ _ (by intro e; injection e; omega)]
    exact k1
  have hS : Chg (fun x => x = L.eb) w (w.setCell ⟨L.eb, 10, none⟩ (.int .i64 (wrap64 (st.checks + 1)))) := (Chg.refl (fun x => x = L.eb) w).setCell (p := ⟨L.eb, 10, none⟩) rfl _
  have h1 := h.gotOwn (st' := { st with checks := st.checks + 1 }) hS (h.eng.set_ 10 _) rfl rfl rfl rfl rfl rfl rfl rfl rfl h.rev0 h.rev1
  have hrow1 : 0 < c.asked.length → ∃ g o, A1 = some ⟨g, 0, none⟩ ∧ ¬ wF g ∧ ¬ uF g ∧ w.heap[g]? = some o ∧ IntRow o ∧ ∀ w' : World, w'.heap[g]? = some o → ∀ (j : Nat) (d : Int), c.asked[j]? = some d → w'.cell? ⟨g, j, none⟩ = some (.int .i64 d) := by
    intro hp
    obtain ⟨g, o, r1, r2, r3, r4, r5⟩ := hrow hp
    have := h.aav k g (by rw [hc]; rfl) r2
    exact ⟨g, o, r1, this.1, this.2, r3, r4, r5⟩
  have HROW := hid hrow1
  have H1 := hid h1
  have HH := hid h
  have HR := hid hR
  have HM := hid hm
  have HC := hid hc
  have HK := hid hk
  have HT := hid hT
  unfold maxLen at hlen
  clear hrow hrow1 h1 h hR hm hc hk hT hav k1 hS
  go_enter Try.func36, Try.ntmps36
  go_wp2_with fail
  go_loopw [6, 7, 22] (fun u6 u7 i wx => ∃ (j : Nat) (stj : St) (pj : Fp), j ≤ c.asked.length ∧ i = .int .i64 j ∧ Got L rv ⟨loc, wF, uF, F⟩ w st pj wx stj ∧ rightGo turned k (c.asked.drop j) stj = some (st', b)) (fun _ _ i _ => c.asked.length - (intOf i).toNat)
  case atStart => exact ⟨0, _, _, Nat.zero_le _, rfl, H1.out, HM.out⟩
  case round =>
    obtain ⟨j, stj, pj, hj, rfl, hgot, hgo⟩ := hrel
    have HG := hid hgot
    have HGO := hid hgo
    clear hgot hgo H1 HM k1' e10 f10 hwr hne
    by_cases hlt : j < c.asked.length
    · obtain ⟨g, o, rfl, r1, r2, r3, r4, r5⟩ := HROW.out (by omega)
      have e0 := r5 wr (HG.out.rows g o r3 r4 r1 r2) j c.asked[j] (List.getElem?_eq_getElem hlt)
      have hdr : c.asked.drop j = c.asked[j] :: c.asked.drop (j + 1) := List.drop_eq_getElem_cons hlt
      have hokd := HK.out c.asked[j] (List.getElem_mem hlt)
      obtain ⟨d, hd⟩ : ∃ d, d = c.asked[j] := ⟨_, rfl⟩
      rw [← hd] at e0 hdr hokd
      have hgo := HGO.out
      rw [hdr] at hgo
      unfold rightGo at hgo
      cases ht : turned stj d with
      | none => rw [ht] at hgo; cases hgo
      | some x =>
        obtain ⟨st1, t⟩ := x
        rw [ht] at hgo
        simp only at hgo
        have HGO2 := hid hgo
        have HTD := hid ht
        have HOKD := hid hokd
        clear hgo ht hd hdr hokd r1 r2 r3 r4 r5 HGO
        go_wp2_with fail
        refine (HT.out wr pj stj d st1 t HG.out.eng (HR.out.got HG.out) HOKD.out HTD.out).mono ?_
        rintro e w1 ⟨rfl, p1, g1⟩
        have hg1 := HG.out.trans g1
        have HG1 := hid hg1
        obtain ⟨⟨loc1, wF1, uF1, F1⟩, rfl⟩ : ∃ q, q = p1 := ⟨_, rfl⟩
        obtain ⟨av1, h1⟩ := id g1.eng
        dsimp only at h1
        have e8 := h1.e8
        have HE1 := hid h1
        clear g1 hg1 h1 e0 HG
        cases hcy : st1.cycle with
        | true =>
          rw [hcy] at e8
          have hgo := HGO2.out
          rw [if_pos hcy] at hgo
          simp only [Option.some.injEq, Prod.mk.injEq] at hgo
          obtain ⟨rfl, rfl⟩ := hgo
          clear hcy
          go_wp2_with fail
          go_ret
          exact ⟨rfl, _, HG1.out⟩
        | false =>
          rw [hcy] at e8
          have hgo := HGO2.out
          rw [if_neg (by rw [hcy]; simp)] at hgo
          cases hc1 : st1.cells k with
          | none => rw [hc1] at hgo; cases hgo
          | some c1 =>
            rw [hc1] at hgo
            simp only at hgo
            have k2 := HE1.out.k2 hc1
            have hlk : loc1 k = loc k := (HG1.out.loc k (by rw [HC.out]; rfl)).2
            rw [hlk] at k2
            obtain ⟨a, ha⟩ : ∃ a, a = c1.at_ := ⟨_, rfl⟩
            rw [← ha] at k2 hgo
            by_cases hlt2 : a < t
            · rw [if_pos hlt2] at hgo
              simp only [Option.some.injEq, Prod.mk.injEq] at hgo
              obtain ⟨rfl, rfl⟩ := hgo
              clear hc1 hcy hlk ha
              go_wp2_with fail
              go_ret
              exact ⟨rfl, _, HG1.out⟩
            · rw [if_neg hlt2] at hgo
              have HGO3 := hid hgo
              clear hc1 hcy hlk ha hgo
              go_wp2_with fail
              go_roundw
              case rel => exact ⟨j + 1, st1, _, by omega, by go_num, HG1.out, HGO3.out⟩
              case measure => simp [intOf]; omega
    · have hje : j = c.asked.length := by omega
      have hgo := HGO.out
      rw [hje, List.drop_length] at hgo
      unfold rightGo at hgo
      obtain ⟨⟨loc1, wF1, uF1, F1⟩, rfl⟩ : ∃ q, q = pj := ⟨_, rfl⟩
      obtain ⟨av1, h1⟩ := id HG.out.eng
      dsimp only at h1
      cases hc1 : stj.cells k with
      | none => rw [hc1] at hgo; cases hgo
      | some c1 =>
        rw [hc1] at hgo
        simp only [Option.some.injEq, Prod.mk.injEq] at hgo
        obtain ⟨rfl, rfl⟩ := hgo
        have e1 := h1.e1
        have k2 := h1.k2 hc1
        have f2 := h1.kf hc1 2
        have hlk : loc1 k = loc k := (HG.out.loc k (by rw [HC.out]; rfl)).2
        rw [hlk] at k2 f2
        have HE1 := hid h1
        have HC1 := hid hc1
        have HLK := hid hlk
        clear h1 hc1 hlk hje HGO
        go_wp2_with fail
        go_ret
        have hS : Chg (fun x => x = loc k) wr (wr.setCell ⟨loc k, 2, none⟩ (.int .i64 stj.rev)) := (Chg.refl (fun x => x = loc k) wr).setCell (p := ⟨loc k, 2, none⟩) rfl _
        have hb := (HE1.out.cel k c1 HC1.out).1.set_ 2 (.int .i64 stj.rev)
        rw [HLK.out] at hb
        have h7 := HE1.out.gotCell (c := { c1 with at_ := stj.rev }) HC1.out (by rw [HLK.out]; exact hS) (by rw [HLK.out]; exact hb) rfl (HE1.out.celt k c1 HC1.out)
        exact ⟨rfl, _, HG.out.trans h7⟩
end Go.Proofs.Ytfkedhclhmbpfaa
