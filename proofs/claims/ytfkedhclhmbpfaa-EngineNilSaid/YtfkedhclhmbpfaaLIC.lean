/-
  A list of keys in memory: Use and Drop.
-/
import Derived.Test.YtfkedhclhmbpfaaLIB
namespace Go.Proofs.Ytfkedhclhmbpfaa.LI
open Go.RowKit Go.Maps
set_option linter.unusedVariables false
set_option linter.unusedSimpArgs false

section
variable {w w' : World} {b : Nat} {F G : Nat → Prop} {ks : List Int} {g cap mb N : Nat} {ky : Nat → Int} {nx pv : Nat → Nat} {fv : Value} {ps fr : List Nat} {f : Int → Option Value}
theorem Made.keys_idx (h : Made w b F ks g cap mb N ky nx pv fv ps fr f) (hn : ks.Nodup) {t : Nat} (ht : t < ps.length) {k : Int} (hk : ky ps[t] = k) : (ps.eraseIdx t).map ky = dropL ks k := by
  have hlen : ps.length = ks.length := by rw [← h.keys, List.length_map]
  have hkt : ks[t]'(by omega) = k := by
    have h2 := h.keys
    subst h2
    rw [List.getElem_map]
    exact hk
  rw [map_eraseIdx', h.keys, ← hkt, dropL_idx hn]
theorem Made.links (h : Made w b F ks g cap mb N ky nx pv fv ps fr f) {t : Nat} (ht : t < ps.length) : ps[t] < N ∧ nx ps[t] < N ∧ pv ps[t] < N ∧ 0 < N ∧ ps[t] ≠ 0 ∧ ps[t] ∉ 0 :: ps.eraseIdx t := by
  obtain ⟨h1, h2, _⟩ := ring_out h.ring h.nd1 ht
  have hN : 0 < N := by have := h.count; omega
  have h0 : ps[t] ≠ 0 := fun e => (List.nodup_cons.1 h.nd1).1 (e ▸ List.getElem_mem ht)
  refine ⟨h.ps_lt _ (List.getElem_mem ht), by rw [h1]; exact rg_lt hN h.ps_lt _, by rw [h2]; exact rg_lt hN h.ps_lt _, hN, h0, ?_⟩
  intro hm
  rcases List.mem_cons.1 hm with hm | hm
  · exact h0 hm
  · exact not_mem_eraseIdx (List.nodup_cons.1 h.nd1).2 ht hm
end

set_option maxHeartbeats 1000000 in
theorem use_old (w : World) (b : Nat) (F : Nat → Prop) (ks : List Int) (k : Int) (h : Lst w b F ks) (hk : k ∈ ks) :
    Calls Try.prog 33 #[.pointer (some ⟨b, 0, none⟩), enc k] w fun e w' => e = .returned (.tuple #[]) ∧ Lst w' b (Ext F w w') (useL ks k) ∧ Chg F w w' := by
  obtain ⟨⟨g, cap, mb, N, ky, nx, pv, fv, ps, fr, f, hm⟩, h1, h2, h3⟩ := h
  have hok := h2 k hk
  have hl := Lst.look hm hok
  obtain ⟨t, ht, hkt, hft⟩ := at_some hm.at_ (k := k) (by rw [hm.keys]; exact hk)
  rw [hft] at hl
  have c2 := hm.raw.cell2
  obtain ⟨l1, l2, l3, l4, l5, l6⟩ := hm.links ht
  obtain ⟨_, _, hring1⟩ := ring_out hm.ring hm.nd1 ht
  obtain ⟨i, hi⟩ : ∃ i, i = ps[t] := ⟨_, rfl⟩
  rw [← hi] at hl l1 l2 l3 l5 l6 hring1 hkt
  simp only [Option.getD_some, Option.isSome_some] at hl
  have HM := hid hm
  have HI := hid hi
  have H1 := hid h1
  have H2 := hid h2
  have H3 := hid h3
  have HKT := hid hkt
  have HR := hid hring1
  have hfew := hm.few
  have HL6 := hid l6
  clear hm hi h1 h2 h3 hkt hft hring1 l6 hk hok
  go_enter Try.func33, Try.ntmps33
  go_wp2_with fail
  refine (out_any _ b g cap mb N i ky nx pv fv fr HM.out.raw hfew l1 l2 l3).mono ?_
  rintro e w1 ⟨rfl, r1, g1⟩
  have HR1 := hid r1
  clear r1 hl c2
  go_wp2_with fail
  have hnd : (0 :: ps.eraseIdx t).Nodup := HM.out.nd1.sublist (List.Sublist.cons_cons 0 (List.eraseIdx_sublist _ _))
  have hpl : ∀ p ∈ ps.eraseIdx t, p < N := fun p hp => HM.out.ps_lt p ((List.eraseIdx_sublist _ _).subset hp)
  obtain ⟨hf0, hring2⟩ := ring_front HR.out hnd HL6.out
  have hfl : (upd nx (pv i) (nx i)) 0 < N := by rw [hf0]; exact rg_lt l4 hpl _
  have hfi : i ≠ (upd nx (pv i) (nx i)) 0 := by rw [hf0]; exact fun e => rg_ne HL6.out 1 e.symm
  refine (front_any _ b g cap mb N i ky _ _ fv fr HR1.out hfew l1 hfl hfi l5).mono ?_
  rintro e w2 ⟨rfl, r2, g2⟩
  have HR2 := hid r2
  have HRI2 := hid hring2
  clear r2 hring2 hf0 hfl hfi hnd hpl
  go_wp2_with fail
  go_end0
  have hm := HM.out
  have hcG : Chg (fun k => k = g) w w2 := g1.trans g2
  have hcF : Chg F w w2 := hcG.weaken (fun k _ e => by rw [e]; exact hm.fg)
  have hie : i :: ps.eraseIdx t = ps[t] :: ps.eraseIdx t := by rw [HI.out]
  have hperm : ∀ p, p ∈ i :: ps.eraseIdx t ↔ p ∈ ps := fun p => by rw [hie]; exact mem_move ht p
  have hpp : (i :: ps.eraseIdx t).Perm ps := by
    rw [hie]
    exact perm_move ht
  refine ⟨rfl, ⟨⟨g, cap, mb, N, ky, _, _, fv, i :: ps.eraseIdx t, fr, f, ⟨Or.inl hm.fb, Or.inl hm.fg, Or.inl hm.fm, fun x hx => Or.inl (hm.ff x hx), HR2.out, ?_, ?_, HRI2.out, ?_, ?_, ?_, ?_, hfew⟩⟩, useL_nodup H1.out k, ?_, ?_⟩, hcF⟩
  · rw [hpp.length_eq]
    exact hm.map.chg hcG (fun e => hm.mg e.symm)
  · rw [hie]
    exact at_move hm.at_ ht
  · exact ((hpp.append_right fr).cons 0).nodup_iff.2 hm.distinct
  · intro p hp
    refine hm.inside p ?_
    rcases List.mem_append.1 hp with hp | hp
    · exact List.mem_append_left _ ((hperm p).1 hp)
    · exact List.mem_append_right _ hp
  · rw [hpp.length_eq]
    exact hm.count
  · rw [List.map_cons, HKT.out, hm.keys_idx H1.out ht (k := k) (by rw [← HI.out]; exact HKT.out)]
    rfl
  · intro x hx
    rcases useL_mem.1 hx with rfl | hx
    · refine H2.out _ ?_
      rw [← hm.keys, ← HKT.out]
      exact List.mem_map.2 ⟨i, by rw [HI.out]; exact List.getElem_mem _, rfl⟩
    · exact H2.out x hx
  · intro x hx
    rcases hx with hx | hx
    · exact Nat.lt_of_lt_of_le (H3.out x hx) hcF.size
    · exact hx.2

set_option maxHeartbeats 1000000 in
theorem use_new (w : World) (b : Nat) (F : Nat → Prop) (ks : List Int) (k : Int) (h : Lst w b F ks) (hk : k ∉ ks) (hok : ok k) (hlen : ks.length ≤ 99990) :
    Calls Try.prog 33 #[.pointer (some ⟨b, 0, none⟩), enc k] w fun e w' => e = .returned (.tuple #[]) ∧ Lst w' b (Ext F w w') (useL ks k) ∧ Chg F w w' := by
  have HL := hid h
  obtain ⟨⟨g, cap, mb, N, ky, nx, pv, fv, ps, fr, f, hm⟩, h1, h2, h3⟩ := h
  have hl := Lst.look hm hok
  rw [at_none hm.at_ (k := k) (by rw [hm.keys]; exact hk)] at hl
  simp only [Option.getD_none, Option.isSome_none] at hl
  have c2 := hm.raw.cell2
  have H1 := hid h1
  have H2 := hid h2
  have H3 := hid h3
  have HK := hid hk
  have HOK := hid hok
  clear hm h1 h2 h3 hk hok
  go_enter Try.func33, Try.ntmps33
  go_wp2_with fail
  refine (place_any w b F ks HL.out hlen).mono ?_
  rintro e w1 ⟨i, g1, cap1, mb1, N1, ky1, nx1, pv1, fv1, ps1, fr1, f1, rfl, hp, hc1⟩
  have d0 := hp.raw.cell0
  have hi : i < N1 := hp.inside i (by simp)
  have hfew := hp.few
  have d1 := hp.raw.key hi
  have k1 := own_frozen hp.raw.row (i * 3)
  have d2 := hp.raw.cell2
  have hgb := hp.raw.gb
  have HP := hid hp
  have hset := hp.raw.set (i * 3) (enc k) (cellsOf_ky enc ky1 nx1 pv1 hi k)
  have hst : Chg (fun k => k = g1) w1 (w1.setCell ⟨g1, i * 3, none⟩ (enc k)) := (Chg.refl (fun k => k = g1) w1).setCell (p := ⟨g1, i * 3, none⟩) rfl _
  obtain ⟨w2, hrun, hm2, hg2, hz2⟩ := (hp.map.chg hst (fun e => own_ne_m hp.raw.row hp.map g1 rfl e.symm)).store keyK Try.underlying88 HOK.out (.int .i64 (i : Int))
  have hknot : f1 k = none := at_none hp.at_ (by rw [hp.keys]; exact HK.out)
  rw [hknot] at hm2
  simp only [Option.isSome_none] at hm2
  have hraw2 := hset.chg hg2 (fun e => blk_ne_m hp.raw.blk hp.map e) (fun e => own_ne_m hp.raw.row hp.map g1 rfl e) (fun x hx e => own_ne_m hp.raw.free hp.map x hx e)
  have HR2 := hid hraw2
  have HM2 := hid hm2
  have HST := hid hst
  have HG2 := hid hg2
  have HC1 := hid hc1
  clear hp hset hst hm2 hg2 hz2 hknot hraw2 hc1 hl c2
  go_wp2_with fail
  have hp := HP.out
  have hnd : (0 :: ps1).Nodup := by
    have := hp.distinct
    exact this.sublist (List.Sublist.cons_cons 0 ((List.sublist_cons_self i ps1).trans (List.sublist_append_left _ fr1)))
  have hi2 : i ∉ 0 :: ps1 := by
    intro hmem
    have hd := hp.distinct
    obtain ⟨hd1, hd2⟩ := List.nodup_cons.1 hd
    rcases List.mem_cons.1 hmem with e | hmem
    · exact hd1 (by rw [← e]; simp)
    · rw [List.cons_append] at hd2
      exact (List.nodup_cons.1 hd2).1 (List.mem_append_left _ hmem)
  have hi0 : i ≠ 0 := fun e => hi2 (by simp [e])
  obtain ⟨hf0, hring2⟩ := ring_front hp.ring hnd hi2
  have hfl : nx1 0 < N1 := by rw [hf0]; exact rg_lt (by omega) (fun p hp' => hp.inside p (by simp [hp'])) _
  have hfi : i ≠ nx1 0 := by rw [hf0]; exact fun e => rg_ne hi2 1 e.symm
  refine (front_any _ b g1 cap1 mb1 N1 i _ _ _ fv1 fr1 HR2.out hfew hi hfl hfi hi0).mono ?_
  rintro e w3 ⟨rfl, r3, g3⟩
  have HR3 := hid r3
  have HRI3 := hid hring2
  have HI2 := hid hi2
  clear r3 hring2 hf0 hfl hfi hnd hp hi2
  go_wp2_with fail
  go_end0
  have hp := HP.out
  have hsub : ∀ k, Ext F w w1 k → Ext F w w3 k := fun k hk => by
    rcases hk with hk | hk
    · exact Or.inl hk
    · have := ((HST.out.weaken (S' := fun _ => True) (fun _ _ _ => trivial)).trans (HG2.out.weaken (fun _ _ _ => trivial))).trans (g3.weaken (fun _ _ _ => trivial))
      have hz := this.size
      exact Or.inr ⟨hk.1, by omega⟩
  have hcF : Chg F w w3 := by
    refine ((HC1.out.into HST.out ?_).into HG2.out ?_).into g3 ?_
    · intro k hk e
      rcases hp.fg with h | h
      · rw [e]; exact h
      · omega
    · intro k hk e
      rcases hp.fm with h | h
      · rw [e]; exact h
      · omega
    · intro k hk e
      rcases hp.fg with h | h
      · rw [e]; exact h
      · omega
  have hip : i ∉ ps1 := fun h => HI2.out (List.mem_cons_of_mem _ h)
  refine ⟨rfl, ⟨⟨g1, cap1, mb1, N1, _, _, _, fv1, i :: ps1, fr1, _, ⟨hsub _ hp.fb, hsub _ hp.fg, hsub _ hp.fm, fun x hx => hsub _ (hp.ff x hx), HR3.out, HM2.out.chg g3 (fun e => own_ne_m hp.raw.row hp.map g1 rfl e.symm), at_put hp.at_ hip (by rw [hp.keys]; exact HK.out), HRI3.out, hp.distinct, hp.inside, ?_, ?_, hfew⟩⟩, useL_nodup H1.out k, ?_, ?_⟩, hcF⟩
  · rw [hp.count]
    simp
  · rw [List.map_cons, upd_same, map_upd hip, hp.keys]
    unfold useL
    rw [dropL_none HK.out]
  · intro x hx
    rcases useL_mem.1 hx with rfl | hx
    · exact HOK.out
    · exact H2.out x hx
  · intro x hx
    rcases hx with hx | hx
    · exact Nat.lt_of_lt_of_le (H3.out x hx) hcF.size
    · exact hx.2

theorem use_any (w : World) (b : Nat) (F : Nat → Prop) (ks : List Int) (k : Int) (h : Lst w b F ks) (hok : ok k) (hlen : ks.length ≤ 99990) :
    Calls Try.prog 33 #[.pointer (some ⟨b, 0, none⟩), enc k] w fun e w' => e = .returned (.tuple #[]) ∧ Lst w' b (Ext F w w') (useL ks k) ∧ Chg F w w' := by
  by_cases hk : k ∈ ks
  · exact use_old w b F ks k h hk
  · exact use_new w b F ks k h hk hok hlen
end Go.Proofs.Ytfkedhclhmbpfaa.LI
