/-
  The engine's Numbers.
-/
import Derived.Test.YtfkedhclhmbpfaaTop
import Derived.StillTailTactics
namespace Go.Proofs.Ytfkedhclhmbpfaa
open Go.RowKit Go.Maps
set_option linter.unusedVariables false
set_option linter.unusedSimpArgs false

/-- Numbers as a struct. -/
def numsV (st : St) : Value := .agg #[.int .i64 st.rev, .int .i64 (wrap64 st.steps), .int .i64 (wrap64 st.checks), .int .i64 (wrap64 st.hits), .int .i64 st.nc, .int .i64 st.used.length, .int .i64 st.budget, .int .i64 st.charged, .int .i64 st.high]
theorem Numbers_nil (w : World) : Calls Try.prog 15 #[.pointer none] w fun e w' => e = .returned (.agg #[.int .i64 0, .int .i64 0, .int .i64 0, .int .i64 0, .int .i64 0, .int .i64 0, .int .i64 0, .int .i64 0, .int .i64 0]) ∧ Chg (fun _ => False) w w' := by
  go_enter Try.func15, Try.ntmps15
  go_wp2_with fail
  refine bodyPost_ret (v := .agg #[.int .i64 0, .int .i64 0, .int .i64 0, .int .i64 0, .int .i64 0, .int .i64 0, .int .i64 0, .int .i64 0, .int .i64 0]) (by simp [results, Try.results15, go_sem]) rfl ⟨rfl, ?_⟩
  exact (Chg.refl _ _).alloc _

set_option maxRecDepth 100000 in
set_option maxHeartbeats 4000000 in
theorem Numbers_any (w : World) (L : Lay) (p : Fp) (rv : Value) (st : St) (h : EngAt w L p rv st) : Calls Try.prog 15 #[En L] w fun e w' => e = .returned (numsV st) ∧ Chg (fun _ => False) w w' := by
  obtain ⟨loc, wF, uF, F⟩ := p
  obtain ⟨av, h⟩ := h
  dsimp only at h
  obtain ⟨w1, hw1⟩ : ∃ w1, w.alloc (.cells #[.int .i64 0, .int .i64 0, .int .i64 0, .int .i64 0, .int .i64 0, .int .i64 0, .int .i64 0, .int .i64 0, .int .i64 0] 39) = w1 := ⟨_, rfl⟩
  have g1 : Chg (fun _ => False) w w1 := by rw [← hw1]; exact (Chg.refl _ _).alloc _
  have b1 : Blk w1 w.heap.size 39 #[.int .i64 0, .int .i64 0, .int .i64 0, .int .i64 0, .int .i64 0, .int .i64 0, .int .i64 0, .int .i64 0, .int .i64 0] := by rw [← hw1]; exact Blk.new w 39 _
  have h1 := h.mono g1
  have e5 := h1.e5
  have hled := h1.led
  have HW := hid hw1
  have HE1 := hid h1
  have HG1 := hid g1
  have HB1 := hid b1
  clear h g1 b1 h1 hw1
  go_enter Try.func15, Try.ntmps15
  go_upto_region 3 with fail
  rw [show w.alloc (.cells #[.int .i64 0, .int .i64 0, .int .i64 0, .int .i64 0, .int .i64 0, .int .i64 0, .int .i64 0, .int .i64 0, .int .i64 0] 39) = w1 from HW.out]
  go_wp2_with fail
  refine (LE.numbers_any L.lb st.budget st.charged st.high w1 hled).mono ?_
  rintro e w2 ⟨rfl, n2, rfl⟩
  obtain ⟨w2, hw2⟩ : ∃ w2, w1.drewN n2 = w2 := ⟨_, rfl⟩
  have g2 : Chg (fun _ => False) w1 w2 := by rw [← hw2]; exact (Chg.refl _ _).drewN _
  have h2 := HE1.out.mono g2
  have h2d := HE1.out.mono (g2.drew)
  have hb2 := g2.blk HB1.out (fun h => h)
  have HC : Hid (Calls Try.prog 25 #[.pointer (some ⟨L.ub, 0, none⟩)] w2.drew fun e w'' => e = .returned (.int .i64 st.used.length) ∧ w'' = w2.drew) := hid ((LI.len_any _ _ _ _ h2d.usd).mono (fun e w'' h => ⟨h.1, h.2.symm⟩))
  have e1 := h2.e1
  have e3 := h2.e3
  have e6 := h2.e6
  have e9 := h2.e9
  have e10 := h2.e10
  have e11 := h2.e11
  have hln := fun ty => h2d.cls.len_ (P := Try.prog) Try.underlying60 ty
  have c0 := (hb2.cell 0)
  have f0 := hb2.frozen 0
  rw [hw2]
  have HG2 := hid (HG1.out.trans g2)
  have HB2 := hid hb2
  clear hw2 g2 h2 h2d hb2 e5 hled HW HG1 HB1
  go_upto_region 4 with fail
  refine wp_region_still_tail 33 (by kernel_rfl) (by kernel_rfl) ?_
  simp only [List.take_succ_cons, List.take_zero, List.drop_succ_cons, List.drop_zero]
  repeat still_step
  still_call HC.out
  repeat still_step
  refine wpStill_nil ?_
  obtain ⟨w3, hw3⟩ : ∃ w3, w2.drew = w3 := ⟨_, rfl⟩
  have hb3 : Blk w3 w.heap.size 39 #[.int .i64 0, .int .i64 0, .int .i64 0, .int .i64 0, .int .i64 0, .int .i64 0, .int .i64 0, .int .i64 0, .int .i64 0] := by rw [← hw3]; exact HB2.out.drew
  have hg3 : Chg (fun _ => False) w w3 := by rw [← hw3]; exact HG2.out.drew
  change wpList _ _ _ _ _ w2.drew
  rw [hw3]
  have q0 : w3.cell? ⟨w.heap.size, 0, none⟩ = some (.int .i64 0) := by rw [hb3.cell]; rfl
  have q1 : w3.cell? ⟨w.heap.size, 1, none⟩ = some (.int .i64 0) := by rw [hb3.cell]; rfl
  have q2 : w3.cell? ⟨w.heap.size, 2, none⟩ = some (.int .i64 0) := by rw [hb3.cell]; rfl
  have q3 : w3.cell? ⟨w.heap.size, 3, none⟩ = some (.int .i64 0) := by rw [hb3.cell]; rfl
  have q4 : w3.cell? ⟨w.heap.size, 4, none⟩ = some (.int .i64 0) := by rw [hb3.cell]; rfl
  have q5 : w3.cell? ⟨w.heap.size, 5, none⟩ = some (.int .i64 0) := by rw [hb3.cell]; rfl
  have q6 : w3.cell? ⟨w.heap.size, 6, none⟩ = some (.int .i64 0) := by rw [hb3.cell]; rfl
  have q7 : w3.cell? ⟨w.heap.size, 7, none⟩ = some (.int .i64 0) := by rw [hb3.cell]; rfl
  have q8 : w3.cell? ⟨w.heap.size, 8, none⟩ = some (.int .i64 0) := by rw [hb3.cell]; rfl
  have fz := fun i => hb3.frozen i
  have HB3 := hid hb3
  have HG3 := hid hg3
  clear hw3 hb3 hg3 HC HG2 HB2 e1 e3 e6 e9 e10 e11 hln c0 f0
  go_wp2_with fail
  have hb4 := (((((((((HB3.out.set_ 0 (.int .i64 st.rev)).set_ 1 (.int .i64 (wrap64 st.steps))).set_ 2 (.int .i64 (wrap64 st.checks))).set_ 3 (.int .i64 (wrap64 st.hits))).set_ 4 (.int .i64 st.nc)).set_ 5 (.int .i64 st.used.length)).set_ 6 (.int .i64 st.budget)).set_ 7 (.int .i64 st.charged)).set_ 8 (.int .i64 st.high))
  have hc4 := ((((((((((Chg.refl (fun q => q = w.heap.size) w3).setCell (p := ⟨w.heap.size, 0, none⟩) rfl (.int .i64 st.rev)).setCell (p := ⟨w.heap.size, 1, none⟩) rfl (.int .i64 (wrap64 st.steps))).setCell (p := ⟨w.heap.size, 2, none⟩) rfl (.int .i64 (wrap64 st.checks))).setCell (p := ⟨w.heap.size, 3, none⟩) rfl (.int .i64 (wrap64 st.hits))).setCell (p := ⟨w.heap.size, 4, none⟩) rfl (.int .i64 st.nc)).setCell (p := ⟨w.heap.size, 5, none⟩) rfl (.int .i64 st.used.length)).setCell (p := ⟨w.heap.size, 6, none⟩) rfl (.int .i64 st.budget)).setCell (p := ⟨w.heap.size, 7, none⟩) rfl (.int .i64 st.charged)).setCell (p := ⟨w.heap.size, 8, none⟩) rfl (.int .i64 st.high))
  obtain ⟨w4, hw4⟩ : ∃ w4, (((((((((w3.setCell ⟨w.heap.size, 0, none⟩ (.int .i64 st.rev)).setCell ⟨w.heap.size, 1, none⟩ (.int .i64 (wrap64 st.steps))).setCell ⟨w.heap.size, 2, none⟩ (.int .i64 (wrap64 st.checks))).setCell ⟨w.heap.size, 3, none⟩ (.int .i64 (wrap64 st.hits))).setCell ⟨w.heap.size, 4, none⟩ (.int .i64 (st.nc : Int))).setCell ⟨w.heap.size, 5, none⟩ (.int .i64 (st.used.length : Int))).setCell ⟨w.heap.size, 6, none⟩ (.int .i64 st.budget)).setCell ⟨w.heap.size, 7, none⟩ (.int .i64 st.charged)).setCell ⟨w.heap.size, 8, none⟩ (.int .i64 st.high)) = w4 := ⟨_, rfl⟩
  rw [hw4] at hb4 hc4 ⊢
  clear hw4
  have hb5 : Blk w4 w.heap.size 39 #[.int .i64 st.rev, .int .i64 (wrap64 st.steps), .int .i64 (wrap64 st.checks), .int .i64 (wrap64 st.hits), .int .i64 st.nc, .int .i64 st.used.length, .int .i64 st.budget, .int .i64 st.charged, .int .i64 st.high] := hb4
  clear q0 q1 q2 q3 q4 q5 q6 q7 q8 fz hb4
  exact bodyPost_ret (results_cell_row (fn := Try.f15) Try.results15 _ w4 w.heap.size 39 _ (0, 0) _ rfl hb5 Try.underlying39 rfl (by kernel_rfl)) rfl ⟨rfl, HG3.out.into hc4 (fun q hq h => by omega)⟩
end Go.Proofs.Ytfkedhclhmbpfaa
