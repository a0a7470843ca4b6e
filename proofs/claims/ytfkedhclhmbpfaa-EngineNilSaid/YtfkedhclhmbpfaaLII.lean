/-
  A list of keys in memory: Keys of no list.
-/
import Derived.Test.YtfkedhclhmbpfaaLIH
namespace Go.Proofs.Ytfkedhclhmbpfaa.LI
open Go.RowKit Go.Maps Go.Shelf
set_option linter.unusedVariables false
set_option linter.unusedSimpArgs false
attribute [local go_sem] Oper.semAt_some

set_option maxRecDepth 100000 in
set_option maxHeartbeats 2000000 in
theorem keys_nil_in (n : Nat) (hn : 5 ≤ n) (w : World) :
    CallsIn Fence.wide n Try.prog 29 #[.pointer none] w (KeysAt w []) := by
  have h1 : 1 ≤ n := by omega
  have hmk : ∀ w, (Instr.makeSlice 41 (.int .i64 0) (.int .i64 0)).run Try.prog w = .ok (.slice (some ⟨w.heap.size, 0, none⟩) 0 0) (w.alloc (.cells #[] 3)) := fun w => by kernel_rfl
  refine callsIn_of_wp_marks Try.func29 rfl trivial ?_ rfl
  simp only [Try.ntmps29, List.size_toArray, List.length_cons, List.length_nil, Nat.reduceAdd, Nat.reduceSub, Array.replicate_succ, Array.replicate_zero, List.push_toArray, List.append_toArray, List.nil_append, List.cons_append]
  gi_wp2
  refine ⟨trivial, ?_⟩
  refine (callsIn_wide.2 (len_nil _)).mono ?_
  rintro e w' ⟨rfl, rfl⟩
  gi_wp2
  refine ⟨trivial, ?_⟩
  refine (back_in Fence.wide (n - 1) trivial rfl _ _).mono ?_
  rintro e w' ⟨rfl, rfl⟩
  gi_wp2
  obtain ⟨W0, hW0⟩ : ∃ W0, (((w.alloc (.cells #[.int .i64 0] 3)).alloc (.cells #[] 3)).alloc (.cells #[.slice (some ⟨w.heap.size + 1, 0, none⟩) 0 0] 41)).alloc (.cells #[.pointer none] 63) = W0 := ⟨_, rfl⟩
  have ch := fun (v : World) (o : Obj) => (Chg.refl (fun _ => False) v).alloc o
  have hs0 : W0.heap.size = w.heap.size + 4 := by rw [← hW0]; simp
  have hC0 : Chg (fun _ => False) w W0 := by rw [← hW0]; exact (((ch w _).alloc _).alloc _).alloc _
  have hB1 : Blk W0 (w.heap.size + 1) 3 #[] := by
    rw [← hW0]
    have := Blk.new (w.alloc (.cells #[.int .i64 0] 3)) 3 #[]
    rw [World.size_alloc] at this
    exact (this.alloc _).alloc _
  have hB2 : Blk W0 (w.heap.size + 2) 41 #[.slice (some ⟨w.heap.size + 1, 0, none⟩) 0 0] := by
    rw [← hW0]
    have := Blk.new ((w.alloc (.cells #[.int .i64 0] 3)).alloc (.cells #[] 3)) 41 #[.slice (some ⟨w.heap.size + 1, 0, none⟩) 0 0]
    rw [World.size_alloc, World.size_alloc] at this
    exact this.alloc _
  have hB3 : Blk W0 (w.heap.size + 3) 63 #[.pointer none] := by
    rw [← hW0]
    have := Blk.new (((w.alloc (.cells #[.int .i64 0] 3)).alloc (.cells #[] 3)).alloc (.cells #[.slice (some ⟨w.heap.size + 1, 0, none⟩) 0 0] 41)) 63 #[.pointer none]
    rw [World.size_alloc, World.size_alloc, World.size_alloc] at this
    exact this
  rw [hW0]
  have HWS := hid hs0
  have HGl : ∀ k, (k = w.heap.size + 3) → k < W0.heap.size := fun k hk => by omega
  clear hmk
  refine wpIn_rangeFunc_ownG (F := Fence.wide) rfl h1 (gf := 49) (lb := #[.pointer (some ⟨w.heap.size + 3, 0, none⟩)]) rfl trivial (enters_of Try.func49 (by kernel_rfl) rfl)
    (back_stops_nil Fence.wide (n - 1) trivial rfl (w.heap.size + 3) (fun k => k = w.heap.size + 3) W0 (by omega) (by rw [hB3.cell]; rfl)) Kp.t (Kp.b HGl) (Below.refl _ _) (fun _ => rfl)
    (fun pre W => W.cell? ⟨w.heap.size + 2, 0, none⟩ = some (.slice (some ⟨w.heap.size + 1, 0, none⟩) 0 0) ∧ Blk W (w.heap.size + 1) 3 #[] ∧ Chg (fun _ => False) w W)
    (fun c pre W => False)
    ?hI ?hIx ?h0
    (fun x => { tmps := #[.pointer none, undef, .slice none 0 0, .pointer (some ⟨w.heap.size, 0, none⟩), .pointer (some ⟨w.heap.size + 1 + 1, 0, none⟩), enc x, .pointer none, .int .i64 0, .int .i64 0, .slice (some ⟨w.heap.size + 1, 0, none⟩) 0 0, .pointer none, .func (.func 49) #[] #[.pointer (some ⟨w.heap.size + 3, 0, none⟩)], enc x, undef, undef, undef, undef, undef, undef, undef], defers := [] }) ?assign ?body ?done ?stop
  case hI =>
    rintro s A B row ⟨q3, hb, hc⟩ hg hr
    have hrr : ∀ r, row = some r → ∃ o : Obj, A.heap[r]? = some o ∧ o.isCells = false := fun r e => (hr r e).2
    have hcg : Chg (fun k => W0.heap.size ≤ k) A B := ⟨hg.os, hg.tape, hg.output, hg.size, fun k hk hn => hg.block k hk (fun e => by have := (hr k e.symm).1; omega)⟩
    exact ⟨cell_kept q3 hg hrr, hcg.blk hb (fun h => by omega), hc.into hcg (fun k hk e => by omega)⟩
  case hIx =>
    rintro c s A B row h hg hr
    exact h
  case h0 =>
    exact ⟨by rw [hB2.cell]; rfl, hB1, hC0⟩
  case assign =>
    intro l x W K hK
    gi_wp2
    exact hK
  case body =>
    rintro l pre x W _ hl
    exact absurd hl (Nat.not_lt_zero _)
  case done =>
    rintro D xs W hDl hall ⟨q3, hb, hc⟩ hD
    have HB := hid hb
    have HC := hid hc
    have HDL := hid hDl
    clear hb hc hall hDl
    gi_wp2
    refine ⟨by simp, .inl ⟨_, _, rfl, run_takeDeferred hD, ?_⟩⟩
    have hg := grownBy_putObj' W D (.deferred none)
    have hch : Chg (fun k => k = D) W (W.putObj D (.deferred none)) :=
      ⟨hg.os, hg.tape, hg.output, hg.size, fun k hk hn => hg.block k hk (fun e => by cases e; exact hn rfl)⟩
    refine ⟨.slice (some ⟨w.heap.size + 1, 0, none⟩) 0 0, ?_, w.heap.size + 1, rfl, by omega, ?_, HC.out.into hch (fun k hk e => by have := HDL.out; have := HWS.out; omega)⟩
    · simp [results, Try.f29, go_sem, Try.results29]
    · exact hch.blk HB.out (fun e => by have := HDL.out; have := HWS.out; omega)
  case stop =>
    rintro D c pre W _ _ hF _
    exact hF.elim
theorem keys_nil (w : World) : Calls Try.prog 29 #[.pointer none] w (KeysAt w []) :=
  callsIn_wide.1 (keys_nil_in 5 (Nat.le_refl _) w)
end Go.Proofs.Ytfkedhclhmbpfaa.LI
