/-
  The closure that step hands to a rule: it notes the key, and asks.
-/
import Derived.Test.YtfkedhclhmbpfaaTxt
import Derived.ProofKit
namespace Go.Proofs.Ytfkedhclhmbpfaa
open Go.RowKit Go.Maps
set_option linter.unusedVariables false
set_option linter.unusedSimpArgs false

theorem RulesAt.sub {w : World} {F F' : Nat → Prop} {A : Option Addr} {rs : List Rule} (h : RulesAt w F A rs) (hF : ∀ k, F' k → F k) : RulesAt w F' A rs := by
  refine ⟨h.few, h.lens, h.ok, fun i r hi => ?_⟩
  obtain ⟨b, off, A', cap', hA, hb, h1, h2, h3⟩ := h.mem i r hi
  refine ⟨b, off, A', cap', hA, fun hb' => hb (hF b hb'), h1, h2, fun j d hj => ?_⟩
  obtain ⟨b', off', hA', hb', h4⟩ := h3 j d hj
  exact ⟨b', off', hA', fun hb2 => hb' (hF b' hb2), h4⟩
/-- A change outside the engine, in blocks that are newer than w0. -/
theorem Got.side {L : Lay} {rv : Value} {p0 p : Fp} {w0 w w' : World} {st0 st : St} {S : Nat → Prop} (h : Got L rv p0 w0 st0 p w st) (hc : Chg S w w') (hs : ∀ k, S k → ¬ p.F k ∧ w0.heap.size ≤ k) : Got L rv p0 w0 st0 p w' st :=
  ⟨h.eng.chg hc (fun k hk h => (hs k h).1 hk), h.loc, h.blocks, h.blocksW, h.blocksU, h.chg.into hc (fun k hk h => by have := (hs k h).2; omega), fun g o hg ho hw hu => by
    have := h.rows g o hg ho hw hu
    exact (hc.block g (Array.getElem?_eq_some_iff.1 this).1 (fun h => by have := (hs g h).2; have := (Array.getElem?_eq_some_iff.1 hg).1; omega)).trans this⟩

/-- What step's closure holds: the engine (in block x), and the keys that were asked (block a). -/
def StepJ (L : Lay) (rv : Value) (p0 : Fp) (w0 : World) (st0 : St) (a x : Nat) (n : Nat) (O : Nat → Prop) (s : St × List Int) (W : World) : Prop :=
  ∃ p v, Got L rv p0 w0 st0 p W s.1 ∧ Blk W a 41 #[v] ∧ W.ownsRow w0.heap.size 3 1 v s.2.length (s.2.map (Value.int .i64)) ∧ Blk W x 26 #[En L] ∧ s.2.length ≤ n ∧ (∀ k, O k ↔ p.F k ∨ k = a ∨ v.ownBlock = some k) ∧ ¬ p.F a ∧ ¬ p.F x ∧ (∀ g, v.ownBlock = some g → ¬ p.F g) ∧ w0.heap.size ≤ a ∧ w0.heap.size ≤ x ∧ ∀ d ∈ s.2, ok d

theorem infoI : (Try.prog.info? 3).map (fun i => (i.zero, i.size, i.bytes)) = some (some (.int .i64 0), 1, 8) := by kernel_rfl
theorem own_zero {w : World} {base n : Nat} {v : Value} {xs : List Value} (h : w.ownsRow base 3 1 v n xs) : w.ownsRow 0 3 1 v n xs := by
  refine ⟨h.1, ?_⟩
  rcases h.2 with hn | ⟨g, cap, cur, rfl, hb, rest⟩
  · exact .inl hn
  · exact .inr ⟨g, cap, cur, rfl, Nat.zero_le _, rest⟩

set_option maxRecDepth 100000 in
set_option maxHeartbeats 4000000 in
theorem note_any (L : Lay) (rv : Value) (A : Option Addr) (rs : List Rule) (ask : St → Int → Option (St × ByteArray)) (hA : AskOK L rv A rs ask) (p0 : Fp) (w0 : World) (st0 : St) (a x : Nat) (n : Nat) (O : Nat → Prop) (s : St × List Int) (d : Int) (W : World) (s1 : St × List Int) (t : ByteArray)
    (hn : n < 100) (hj : StepJ L rv p0 w0 st0 a x n O s W) (hR : RulesAt W O A rs) (hd : ok d) (hm : noteM ask s d = some (s1, t)) :
    Calls Try.prog 45 #[enc d, .pointer (some ⟨a, 0, none⟩), .pointer (some ⟨x, 0, none⟩)] W fun e W' => e = .returned (.string t) ∧ t.size ≤ 1000000 ∧ ∃ O', StepJ L rv p0 w0 st0 a x (n + 1) O' s1 W' ∧ (∀ k, O' k → O k ∨ W.heap.size ≤ k) ∧ Chg O W W' := by
  obtain ⟨i0, hi0, hz0, hz1, hz2⟩ := info_parts infoI
  obtain ⟨st, asked⟩ := s
  obtain ⟨p, v, hg, hb, ho, hx, hl, hO, ha1, hx1, hv1, ha2, hx2, hok⟩ := hj
  dsimp only at hg hb ho hx hl
  unfold noteM at hm
  dsimp only at hm
  cases hk : ask st d with
  | none => rw [hk] at hm; cases hm
  | some y =>
    obtain ⟨st1, t1⟩ := y
    rw [hk] at hm
    simp only [Option.some.injEq, Prod.mk.injEq] at hm
    obtain ⟨rfl, rfl⟩ := hm
    obtain ⟨as1, has1⟩ : ∃ as1, as1 = if d ∈ asked then asked else asked ++ [d] := ⟨_, rfl⟩
    rw [← has1]
    have HAS := hid has1
    have HOK : Hid (∀ y ∈ as1, ok y) := hid (by
      rw [has1]
      intro y hy
      split at hy
      · exact hok y hy
      · rcases List.mem_append.1 hy with hy | hy
        · exact hok y hy
        · rw [List.mem_singleton.1 hy]; exact hd)
    clear hok
    clear has1
    have e0 : W.cell? ⟨a, 0, none⟩ = some v := by rw [hb.cell]; rfl
    have e1 : W.cell? ⟨x, 0, none⟩ = some (En L) := by rw [hx.cell]; rfl
    have hbl := hb.lt
    have HISL := hid (own_isL (base := w0.heap.size) ho)
    have HSZ := hid hg.chg.size
    have HGOT := hid hg
    have HBLK := hid hb
    have HROW := hid ho
    have HX := hid hx
    have HO := hid hO
    have HP : Hid (¬ p.F a ∧ ¬ p.F x ∧ (∀ g, v.ownBlock = some g → ¬ p.F g) ∧ w0.heap.size ≤ a ∧ w0.heap.size ≤ x) := hid ⟨ha1, hx1, hv1, ha2, hx2⟩
    have hR0 := hid hR
    have HR : Hid (RulesAt W p.F A rs) := hid (hR.sub (fun k hk => (hO k).2 (.inl hk)))
    have HD := hid hd
    have HK := hid hk
    have HA := hid hA
    have hax : a ≠ x := blk_ne hb hx (by decide)
    clear hg hb ho hx hO ha1 hx1 hv1 ha2 hx2 hR hd hk hA
    by_cases hin : d ∈ asked
    · have hd1 : decide (d ∈ asked) = true := decide_eq_true hin
      have HIN := hid hin
      clear hin
      go_enter Try.func45, Try.ntmps45
      go_wp2_with fail
      refine (contains_any _ v asked d HISL.out (by omega)).mono ?_
      rintro e w1 ⟨rfl, rfl⟩
      rw [hd1]
      clear hd1
      go_wp2_with fail
      refine (HA.out W p st d st1 t1 HGOT.out.eng HR.out HD.out HK.out).mono ?_
      rintro e w1 ⟨rfl, hts, p1, g1⟩
      have HG1 := hid g1
      have HTS := hid hts
      clear g1 hts e0 e1
      go_wp2_with fail
      go_ret
      obtain ⟨ha1, hx1, hv1, ha2, hx2⟩ := HP.out
      obtain rfl : as1 = asked := HAS.out.trans (if_pos HIN.out)
      have hnew : ∀ k, k < W.heap.size → ¬ p.F k → ¬ p1.F k := fun k hk hn h => by
        rcases HG1.out.blocks k h with h | h
        · exact hn h
        · omega
      refine ⟨rfl, HTS.out, fun k => p1.F k ∨ k = a ∨ v.ownBlock = some k, ⟨p1, v, HGOT.out.trans HG1.out, HG1.out.chg.blk HBLK.out ha1, own_chg HROW.out HG1.out.chg hv1, HG1.out.chg.blk HX.out hx1, Nat.le_succ_of_le hl, fun k => Iff.rfl, hnew a hbl ha1, hnew x HX.out.lt hx1, fun g hg => hnew g (HROW.out.lt g hg).2 (hv1 g hg), ha2, hx2, HOK.out⟩, fun k hk => ?_, HG1.out.chg.weaken (fun k _ h => (HO.out k).2 (.inl h))⟩
      rcases hk with hk | hk
      · rcases HG1.out.blocks k hk with h | h
        · exact .inl ((HO.out k).2 (.inl h))
        · exact .inr h
      · exact .inl ((HO.out k).2 (.inr hk))
    · have hd1 : decide (d ∈ asked) = false := decide_eq_false hin
      have HIN := hid hin
      have fa := HBLK.out.frozen 0
      clear hin
      go_enter Try.func45, Try.ntmps45
      go_wp2_with fail
      refine (contains_any _ v asked d HISL.out (by omega)).mono ?_
      rintro e w1 ⟨rfl, rfl⟩
      rw [hd1]
      clear hd1
      go_wp2_with (first
          | (at_builtin
             refine wpList_append_own_at _ rfl (.tmp 9) (.tmp 11) 41 rfl w0.heap.size 3 i0 (.int .i64 0) 1 8 Try.underlying41 hi0 hz0 hz1 hz2 rfl (by decide) v asked.length (asked.map (Value.int .i64)) rfl (own_chg HROW.out ((Chg.refl (fun _ => False) _).alloc _) (fun _ _ h => h)) ⟨W.heap.size, 0, none⟩ 1 1 [.int .i64 d] rfl rfl (news1 _ _ _ _ rfl) (by simp [Value.oneCell']) (by unfold maxLen; omega) (by omega) (by have := HSZ.out; simp; omega) ?_
             intro v' w2 hown1 hgrow hnil hat
             obtain ⟨g', cap', rfl⟩ := ownsRow_succ hown1
             have hg1 : Chg (fun k => v.ownBlock = some k) W w2 := ((Chg.refl _ _).alloc _).trans ((chg_of_grown hgrow).weaken (fun k _ e => e.symm))
             have hb1 := hg1.blk HBLK.out (fun e => own_ne_b HROW.out HBLK.out (by decide) _ e rfl)
             have hb2 := hg1.blk HX.out (fun e => own_ne_b HROW.out HX.out (by decide) _ e rfl)
             have f2 := hb1.frozen 0
             have c3 : (w2.setCell ⟨a, 0, none⟩ (.slice (some ⟨g', 0, none⟩) (asked.length + 1) cap')).cell? ⟨x, 0, none⟩ = some (En L) := by
               rw [(hb2.far (p := ⟨a, 0, none⟩) (fun e => hax e.symm) _).cell]; rfl
             have c4 : w2.cell? ⟨a, 0, none⟩ = some v := by rw [hb1.cell]; rfl
             have HG1 := hid hg1
             have HB1 := hid hb1
             have HB2 := hid hb2
             have HO1 := hid hown1
             have HAT := hid hat
             clear hg1 hb1 hb2 hown1 hgrow hnil hat))
      obtain ⟨ha1, hx1, hv1, ha2, hx2⟩ := HP.out
      obtain ⟨W3, hW3⟩ : ∃ W3, w2.setCell ⟨a, 0, none⟩ (.slice (some ⟨g', 0, none⟩) (asked.length + 1) cap') = W3 := ⟨_, rfl⟩
      have hst : Chg (fun k => k = a) w2 W3 := by rw [← hW3]; exact (Chg.refl (fun k => k = a) w2).setCell (p := ⟨a, 0, none⟩) rfl _
      have hall : Chg (fun k => k = a ∨ v.ownBlock = some k) W W3 := (HG1.out.weaken (fun k _ e => .inr e)).trans (hst.weaken (fun k _ e => .inl e))
      have hg3 := HGOT.out.side hall (fun k hk => by
        rcases hk with rfl | hk
        · exact ⟨ha1, ha2⟩
        · exact ⟨hv1 k hk, (HROW.out.lt k hk).1⟩)
      have hb3 : Blk W3 a 41 #[.slice (some ⟨g', 0, none⟩) (asked.length + 1) cap'] := by rw [← hW3]; exact HB1.out.set_ 0 _
      have hx3 : Blk W3 x 26 #[En L] := by rw [← hW3]; exact HB2.out.far (p := ⟨a, 0, none⟩) (fun e => hax e.symm) _
      have hga := own_ne_b HO1.out HB1.out (by decide) g' rfl
      have ho3 : W3.ownsRow w0.heap.size 3 1 (.slice (some ⟨g', 0, none⟩) (asked.length + 1) cap') (asked ++ [d]).length ((asked ++ [d]).map (Value.int .i64)) := by
        rw [List.length_append, List.map_append]
        exact own_chg HO1.out hst (fun y hy => by simp [Value.ownBlock] at hy; subst hy; exact hga)
      have hg'p : ¬ p.F g' := by
        rcases HAT.out with h | h
        · exact hv1 g' (by rw [← h]; rfl)
        · simp [Value.ownBlock] at h
          intro hf
          have := HGOT.out.eng.lt g' hf
          omega
      have hg'o : v.ownBlock = some g' ∨ W.heap.size ≤ g' := by
        rcases HAT.out with h | h
        · exact .inl (by rw [← h]; rfl)
        · simp [Value.ownBlock] at h
          exact .inr (by omega)
      rw [hW3]
      have HG3 := hid hg3
      have HB3 := hid hb3
      have HX3 := hid hx3
      have HO3 := hid ho3
      have HALL := hid hall
      have HGP := hid hg'p
      have HGO := hid hg'o
      have HR3 : Hid (RulesAt W3 p.F A rs) := hid (by
        have h1 := HR.out
        refine ⟨h1.few, h1.lens, h1.ok, fun i r hi => ?_⟩
        have hh := hR0.out
        obtain ⟨b, off, A', cap', hA', hb', q1, q2, q3⟩ := hh.mem i r hi
        have hnb : ∀ k, ¬ O k → ¬ (k = a ∨ v.ownBlock = some k) := fun k hk hk2 => hk ((HO.out k).2 (.inr hk2))
        refine ⟨b, off, A', cap', hA', fun h => hb' ((HO.out b).2 (.inl h)), HALL.out.cell q1 (hnb b hb'), HALL.out.cell q2 (hnb b hb'), fun j dd hj => ?_⟩
        obtain ⟨b', off', hA2, hb2, q4⟩ := q3 j dd hj
        exact ⟨b', off', hA2, fun h => hb2 ((HO.out b').2 (.inl h)), fun j dd hj => HALL.out.cell (q4 j dd hj) (hnb b' hb2)⟩)
      clear hst hall hg3 hb3 hx3 hga ho3 hg'p hg'o hW3 c3 c4 f2 e0 e1 ha1 hx1 hv1 ha2 hx2 HG1 HB1 HB2 HO1 HAT
      refine (HA.out W3 p st d st1 t1 HG3.out.eng HR3.out HD.out HK.out).mono ?_
      rintro e w1 ⟨rfl, hts, p1, g1⟩
      have HG1 := hid g1
      have HTS := hid hts
      clear g1 hts
      go_wp2_with fail
      go_ret
      obtain ⟨ha1, hx1, hv1, ha2, hx2⟩ := HP.out
      obtain rfl : as1 = asked ++ [d] := HAS.out.trans (if_neg HIN.out)
      have hnew : ∀ k, k < W3.heap.size → ¬ p.F k → ¬ p1.F k := fun k hk hn h => by
        rcases HG1.out.blocks k h with h | h
        · exact hn h
        · omega
      have hsz := HALL.out.size
      refine ⟨rfl, HTS.out, fun k => p1.F k ∨ k = a ∨ k = g', ⟨p1, _, HG3.out.trans HG1.out, HG1.out.chg.blk HB3.out ha1, own_chg HO3.out HG1.out.chg (fun y hy => by simp [Value.ownBlock] at hy; subst hy; exact HGP.out), HG1.out.chg.blk HX3.out hx1, by rw [List.length_append]; simp; omega, fun k => by simp [Value.ownBlock, eq_comm], hnew a (by omega) ha1, hnew x HX3.out.lt hx1, fun y hy => by simp [Value.ownBlock] at hy; subst hy; exact hnew g' (HO3.out.lt g' rfl).2 HGP.out, ha2, hx2, HOK.out⟩, fun k hk => ?_, (HALL.out.weaken (fun k _ h => (HO.out k).2 (.inr h))).into HG1.out.chg (fun k _ h => (HO.out k).2 (.inl h))⟩
      rcases hk with hk | rfl | rfl
      · rcases HG1.out.blocks k hk with h | h
        · exact .inl ((HO.out k).2 (.inl h))
        · exact .inr (by omega)
      · exact .inl ((HO.out k).2 (.inr (.inl rfl)))
      · rcases HGO.out with h | h
        · exact .inl ((HO.out k).2 (.inr (.inr h)))
        · exact .inr h

theorem note_asker (L : Lay) (rv : Value) (A : Option Addr) (rs : List Rule) (ask : St → Int → Option (St × ByteArray)) (hA : AskOK L rv A rs ask) (p0 : Fp) (w0 : World) (st0 : St) (a x : Nat) :
    Asker (noteM ask) (StepJ L rv p0 w0 st0 a x) 45 #[.pointer (some ⟨a, 0, none⟩), .pointer (some ⟨x, 0, none⟩)] A rs where
  enters := enters_of Try.func45 (by kernel_rfl) rfl
  mono := by
    rintro n O s W W' ⟨p, v, hg, hb, ho, hx, hl, hO, ha1, hx1, hv1, ha2, hx2, hok⟩ hc
    exact ⟨p, v, hg.mono hc, hc.blk hb (fun h => h), own_chg ho hc (fun _ _ h => h), hc.blk hx (fun h => h), hl, hO, ha1, hx1, hv1, ha2, hx2, hok⟩
  lt := by
    rintro n O s W ⟨p, v, hg, hb, ho, hx, hl, hO, ha1, hx1, hv1, ha2, hx2, hok⟩ k hk
    rcases (hO k).1 hk with h | rfl | h
    · exact hg.eng.lt k h
    · exact hb.lt
    · exact (ho.lt k h).2
  call := fun n O s d W s1 t hn hj hR hd hm => note_any L rv A rs ask hA p0 w0 st0 a x n O s d W s1 t hn hj hR hd hm
end Go.Proofs.Ytfkedhclhmbpfaa
