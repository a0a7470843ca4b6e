/-
  A list of keys in memory: Drop.
-/
import Derived.Test.YtfkedhclhmbpfaaLIC
namespace Go.Proofs.Ytfkedhclhmbpfaa.LI
open Go.RowKit Go.Maps
set_option linter.unusedVariables false
set_option linter.unusedSimpArgs false

theorem infoI : (Try.prog.info? 3).map (fun i => (i.zero, i.size, i.bytes)) = some (some (.int .i64 0), 1, 8) := by kernel_rfl

set_option maxHeartbeats 1000000 in
theorem drop_none (w : World) (b : Nat) (F : Nat → Prop) (ks : List Int) (k : Int) (h : Lst w b F ks) (hk : k ∉ ks) (hok : ok k) :
    Calls Try.prog 30 #[.pointer (some ⟨b, 0, none⟩), enc k] w fun e w' => e = .returned (.bool false) ∧ w = w' := by
  obtain ⟨⟨g, cap, mb, N, ky, nx, pv, fv, ps, fr, f, hm⟩, h1, h2, h3⟩ := h
  have hl := Lst.look hm hok
  rw [at_none hm.at_ (k := k) (by rw [hm.keys]; exact hk)] at hl
  simp only [Option.getD_none, Option.isSome_none] at hl
  have c2 := hm.raw.cell2
  clear hm h1 h2 h3 hk hok
  go_enter Try.func30, Try.ntmps30
  go_wp2
  go_ret
  exact ⟨rfl, rfl⟩

set_option maxHeartbeats 1000000 in
theorem drop_some (w : World) (b : Nat) (F : Nat → Prop) (ks : List Int) (k : Int) (h : Lst w b F ks) (hk : k ∈ ks) :
    Calls Try.prog 30 #[.pointer (some ⟨b, 0, none⟩), enc k] w fun e w' => e = .returned (.bool true) ∧ Lst w' b (Ext F w w') (dropL ks k) ∧ Chg F w w' := by
  obtain ⟨i0, hi0, hz0, hz1, hz2⟩ := info_parts infoI
  obtain ⟨⟨g, cap, mb, N, ky, nx, pv, fv, ps, fr, f, hm⟩, h1, h2, h3⟩ := h
  have hok := h2 k hk
  have hl := Lst.look hm hok
  obtain ⟨t, ht, hkt, hft⟩ := at_some hm.at_ (k := k) (by rw [hm.keys]; exact hk)
  rw [hft] at hl
  have c2 := hm.raw.cell2
  obtain ⟨l1, l2, l3, l4, l5, l6⟩ := hm.links ht
  obtain ⟨_, _, hring1⟩ := ring_out hm.ring hm.nd1 ht
  obtain ⟨i, hi⟩ : ∃ i, i = ps[t] := ⟨_, rfl⟩
  rw [← hi] at hl l1 l2 l3 l5 l6 hring1 hkt
  simp only [Option.getD_some, Option.isSome_some] at hl
  have HM := hid hm
  have HI := hid hi
  have H1 := hid h1
  have H2 := hid h2
  have H3 := hid h3
  have HKT := hid hkt
  have HFT := hid hft
  have HR := hid hring1
  have hfew := hm.few
  have hfrl : fr.length ≤ 100000 := by have := hm.count; omega
  have HL6 := hid l6
  have HOK := hid hok
  clear hm hi h1 h2 h3 hkt hft hring1 l6 hk hok
  go_enter Try.func30, Try.ntmps30
  go_wp2_with fail
  refine (out_any _ b g cap mb N i ky nx pv fv fr HM.out.raw hfew l1 l2 l3).mono ?_
  rintro e w1 ⟨rfl, r1, g1⟩
  have d0 := r1.cell0
  have d1 := r1.cell1
  have d2 := r1.cell2
  have q0 := r1.key l1
  have q1 := r1.next l1
  have q2 := r1.prev l1
  have f0 := own_frozen r1.row (i * 3)
  have f1 := own_frozen r1.row (i * 3 + 1)
  have f2 := own_frozen r1.row (i * 3 + 2)
  have hgb := r1.gb
  have hraw := (((r1.set (i * 3) (.int .i64 0) (cellsOf_ky enc ky _ _ l1 0)).set (i * 3 + 1) (.int .i64 0) (by simpa using cellsOf_nx enc _ _ _ l1 0)).set (i * 3 + 2) (.int .i64 0) (by simpa using cellsOf_pv enc _ _ _ l1 0))
  have HR1 := hid hraw
  have hbl := r1.blk.lt
  have hgl := own_lt r1.row
  have f3 := r1.blk.frozen 1
  clear r1 hl c2 hraw
  go_wp2_with (first
    | (at_builtin
       refine wpList_append_own_at _ rfl (.tmp 34) (.tmp 36) 41 rfl 0 3 i0 (.int .i64 0) 1 8 Try.underlying41 hi0 hz0 hz1 hz2 rfl (by decide) fv fr.length (fr.map fun i : Nat => Value.int .i64 (i : Int)) rfl (own_chg HR1.out.free ((Chg.refl (fun _ => False) _).alloc _) (fun _ _ h => h)) ⟨w1.heap.size, 0, none⟩ 1 1 [.int .i64 (i : Int)] rfl rfl (news1 _ _ _ _ (by simp [World.setCell])) (by simp [Value.oneCell']) (by unfold maxLen; omega) (by omega) (Nat.zero_le _) ?_
       intro v' w2 hown1 hgrow hnil hat
       obtain ⟨fb', fcap', rfl⟩ := ownsRow_succ hown1
       have hgw : Chg (fun x => some x = fv.ownBlock) _ w2 := ((Chg.refl (fun x => some x = fv.ownBlock) _).alloc _).trans (chg_of_grown hgrow)
       have hb2 := hgw.blk HR1.out.blk (fun e => HR1.out.fb b e.symm rfl)
       have hst : Chg (fun x => x = b) w2 (w2.setCell ⟨b, 1, none⟩ (.slice (some ⟨fb', 0, none⟩) (fr.length + 1) fcap')) := (Chg.refl (fun x => x = b) w2).setCell (p := ⟨b, 1, none⟩) rfl _
       have hW : Chg (fun x => x = g) w1 _ := ((((Chg.refl (fun x => x = g) w1).setCell (p := ⟨g, i * 3, none⟩) rfl (.int .i64 0)).setCell (p := ⟨g, i * 3 + 1, none⟩) rfl (.int .i64 0)).setCell (p := ⟨g, i * 3 + 2, none⟩) rfl (.int .i64 0))
       have hm3 := (((HM.out.map.chg (g1.trans hW) (fun e => HM.out.mg e.symm)).chg hgw (fun e => HM.out.mf mb e.symm rfl)).chg hst (fun e => HM.out.mbb e.symm))
       obtain ⟨w4, hrun, hm4, hg4, hz4⟩ := hm3.del keyK Try.underlying88 HOK.out
       rw [HFT.out] at hm4
       simp only [Option.isSome_some, if_true] at hm4
       have hgr := hgrow.size
       have hraw4 : Raw w4 b g cap mb N (upd ky i (0)) (upd (upd nx (pv i) (nx i)) i 0) (upd (upd pv (nx i) (pv i)) i 0) (.slice (some ⟨fb', 0, none⟩) (fr.length + 1) fcap') (fr ++ [i]) := by
         have hlen : (fr ++ [i]).length = fr.length + 1 := by simp
         have hr3 : Raw (w2.setCell ⟨b, 1, none⟩ (.slice (some ⟨fb', 0, none⟩) (fr.length + 1) fcap')) b g cap mb N (upd ky i (0)) (upd (upd nx (pv i) (nx i)) i 0) (upd (upd pv (nx i) (pv i)) i 0) (.slice (some ⟨fb', 0, none⟩) (fr.length + 1) fcap') (fr ++ [i]) :=
           ⟨hb2.set_ 1 _, own_chg (own_chg HR1.out.row hgw (fun x hx e => by simp [Value.ownBlock] at hx; subst hx; exact HR1.out.fg g e.symm rfl)) hst (fun x hx e => by simp [Value.ownBlock] at hx; subst hx; exact hgb e), by rw [hlen, List.map_append]; exact own_chg hown1 hst (fun x hx e => own_ne_b hown1 hb2 (by decide) x hx e)⟩
         exact hr3.chg hg4 (fun e => HM.out.mbb e) (fun e => HM.out.mg e) (fun x hx e => own_ne_m hr3.free hm3 x hx e)
       have HR4 := hid hraw4
       have HM4 := hid hm4
       have HAT := hid hat
       have HF1 : Hid (Chg F w w2) := (((g1.trans hW).weaken (fun x _ e => by rw [e]; exact HM.out.fg)).trans (hgw.weaken (fun x _ e => HM.out.ff x e.symm)))
       have HF2 : Hid (Chg F w2 w4) := (hst.weaken (S' := F) (fun x _ e => by rw [e]; exact HM.out.fb)).trans (hg4.weaken (fun x _ e => by rw [e]; exact HM.out.fm))
       have e0 : w2.cell? ⟨b, 0, none⟩ = some (.slice (some ⟨g, 0, none⟩) N cap) := by rw [hb2.cell]; rfl
       have e1 : w2.cell? ⟨b, 1, none⟩ = some fv := by rw [hb2.cell]; rfl
       have e2 : w2.cell? ⟨b, 2, none⟩ = some (.map (some mb)) := by rw [hb2.cell]; rfl
       have k1 := hb2.frozen 1
       have hsW : w1.heap.size ≤ w2.heap.size := Nat.le_trans hW.size hgw.size
       clear hown1 hgrow hnil hat hgw hb2 hst hW hm3 hm4 hg4 hz4 hraw4))
  go_ret
  have hm := HM.out
  have hcF : Chg F w w4 := HF1.out.trans HF2.out
  have hr4 := HR4.out
  have hlt4 := hr4.free.lt fb' (by simp [Value.ownBlock])
  have hlen : (ps.eraseIdx t).length + 1 = ps.length := by rw [List.length_eraseIdx_of_lt ht]; omega
  have hpp : (i :: ps.eraseIdx t).Perm ps := by rw [HI.out]; exact perm_move ht
  refine ⟨rfl, ⟨⟨g, cap, mb, N, _, _, _, _, ps.eraseIdx t, fr ++ [i], delF f k, ⟨Or.inl hm.fb, Or.inl hm.fg, Or.inl hm.fm, ?_, hr4, ?_, ?_, ?_, ?_, ?_, ?_, ?_, hfew⟩⟩, dropL_nodup H1.out k, ?_, ?_⟩, hcF⟩
  · intro x hx
    rcases HAT.out with h | h
    · exact Or.inl (hm.ff x (h ▸ hx))
    · rw [h] at hx
      simp at hx
      have := hr4.free.lt x (by rw [h]; simpa using hx)
      have h1 := g1.size
      exact Or.inr ⟨by omega, this.2⟩
  · rw [show (ps.eraseIdx t).length = ps.length - 1 by omega]
    exact HM4.out
  · rw [← HKT.out, HI.out]
    exact at_del hm.at_ (List.nodup_cons.1 hm.nd1).2 (by rw [hm.keys]; exact H1.out) ht _
  · exact ring_upd HR.out HL6.out _ _
  · refine List.Perm.nodup_iff ?_ |>.1 hm.distinct
    refine List.Perm.cons 0 ?_
    refine (hpp.symm.append_right fr).trans ?_
    rw [List.cons_append, ← List.append_assoc]
    exact (List.perm_append_singleton i _).symm
  · intro p hp
    rw [← List.append_assoc] at hp
    rcases List.mem_append.1 hp with hp | hp
    · refine hm.inside p ?_
      rcases List.mem_append.1 hp with hp | hp
      · exact List.mem_append_left _ ((List.eraseIdx_sublist _ _).subset hp)
      · exact List.mem_append_right _ hp
    · simp at hp
      subst hp
      exact l1
  · have := hm.count
    rw [List.length_append]
    simp only [List.length_cons, List.length_nil]
    omega
  · rw [map_upd (by rw [HI.out]; exact not_mem_eraseIdx (List.nodup_cons.1 hm.nd1).2 ht), hm.keys_idx H1.out ht (k := k) (by rw [← HI.out]; exact HKT.out)]
  · intro x hx
    exact H2.out x (dropL_mem.1 hx).1
  · intro x hx
    rcases hx with hx | hx
    · exact Nat.lt_of_lt_of_le (H3.out x hx) hcF.size
    · exact hx.2
end Go.Proofs.Ytfkedhclhmbpfaa.LI
