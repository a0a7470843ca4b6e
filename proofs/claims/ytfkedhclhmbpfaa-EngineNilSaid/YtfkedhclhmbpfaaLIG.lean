/-
  A list of keys in memory: LastBut of no list, Last, Keys.
-/
import Derived.Test.YtfkedhclhmbpfaaLIF
namespace Go.Proofs.Ytfkedhclhmbpfaa.LI
open Go.RowKit Go.Maps Go.Shelf
set_option linter.unusedVariables false
set_option linter.unusedSimpArgs false
attribute [local go_sem] Oper.semAt_some

set_option maxRecDepth 100000 in
set_option maxHeartbeats 2000000 in
theorem lastbut_nil_in (n : Nat) (hn : 5 ≤ n) (w : World) (gf : Nat) (cap : Array Value) :
    CallsIn Fence.wide n Try.prog 38 #[.pointer none, .func (.func gf) #[] cap] w fun e W' => e = .returned (lastV none) ∧ Chg (fun _ => False) w W' := by
  have h1 : 1 ≤ n := by omega
  refine callsIn_of_wp_marks Try.func38 rfl trivial ?_ rfl
  simp only [Try.ntmps38, List.size_toArray, List.length_cons, List.length_nil, Nat.reduceAdd, Nat.reduceSub, Array.replicate_succ, Array.replicate_zero, List.push_toArray, List.append_toArray, List.nil_append, List.cons_append]
  gi_wp2
  refine ⟨trivial, ?_⟩
  refine (back_in Fence.wide (n - 1) trivial rfl _ _).mono ?_
  rintro e w' ⟨rfl, rfl⟩
  gi_wp2
  obtain ⟨W0, hW0⟩ : ∃ W0, (((w.alloc (.cells #[.func (.func gf) #[] cap] 91)).alloc (.cells #[.int .i64 0] 3)).alloc (.cells #[.bool false] 4)).alloc (.cells #[.pointer none] 63) = W0 := ⟨_, rfl⟩
  have ch := fun (v : World) (o : Obj) => (Chg.refl (fun _ => False) v).alloc o
  have hs0 : W0.heap.size = w.heap.size + 4 := by rw [← hW0]; simp
  have hC0 : Chg (fun _ => False) w W0 := by rw [← hW0]; exact (((ch w _).alloc _).alloc _).alloc _
  have hB1 : Blk W0 (w.heap.size + 1) 3 #[.int .i64 0] := by
    rw [← hW0]
    have := Blk.new (w.alloc (.cells #[.func (.func gf) #[] cap] 91)) 3 #[.int .i64 0]
    rw [World.size_alloc] at this
    exact (this.alloc _).alloc _
  have hB2 : Blk W0 (w.heap.size + 2) 4 #[.bool false] := by
    rw [← hW0]
    have := Blk.new ((w.alloc (.cells #[.func (.func gf) #[] cap] 91)).alloc (.cells #[.int .i64 0] 3)) 4 #[.bool false]
    rw [World.size_alloc, World.size_alloc] at this
    exact this.alloc _
  have hB3 : Blk W0 (w.heap.size + 3) 63 #[.pointer none] := by
    rw [← hW0]
    have := Blk.new (((w.alloc (.cells #[.func (.func gf) #[] cap] 91)).alloc (.cells #[.int .i64 0] 3)).alloc (.cells #[.bool false] 4)) 63 #[.pointer none]
    rw [World.size_alloc, World.size_alloc, World.size_alloc] at this
    exact this
  rw [hW0]
  have HWS := hid hs0
  have HGl : ∀ k, (k = w.heap.size + 3) → k < W0.heap.size := fun k hk => by omega
  refine wpIn_rangeFunc_ownG (F := Fence.wide) rfl h1 (gf := 49) (lb := #[.pointer (some ⟨w.heap.size + 3, 0, none⟩)]) rfl trivial (enters_of Try.func49 (by kernel_rfl) rfl)
    (back_stops_nil Fence.wide (n - 1) trivial rfl (w.heap.size + 3) (fun k => k = w.heap.size + 3) W0 (by omega) (by rw [hB3.cell]; rfl)) Kp.t (Kp.b HGl) (Below.refl _ _) (fun _ => rfl)
    (fun pre W => ((W.cell? ⟨w.heap.size + 1, 0, none⟩ = some (.int .i64 0) ∧ W.frozen? ⟨w.heap.size + 1, 0, none⟩ = false) ∧ (W.cell? ⟨w.heap.size + 2, 0, none⟩ = some (.bool false) ∧ W.frozen? ⟨w.heap.size + 2, 0, none⟩ = false)) ∧ Chg (fun _ => False) w W)
    (fun c pre W => False)
    ?hI ?hIx ?h0
    (fun x => { tmps := #[.pointer none, .func (.func gf) #[] cap, undef, .pointer (some ⟨w.heap.size, 0, none⟩), .pointer (some ⟨w.heap.size + 1, 0, none⟩), .pointer (some ⟨w.heap.size + 2, 0, none⟩), enc x, undef, .pointer none, .func (.func 49) #[] #[.pointer (some ⟨w.heap.size + 3, 0, none⟩)], enc x, undef, undef, undef, undef, undef, undef], defers := [] }) ?assign ?body ?done ?stop
  case hI =>
    rintro s A B row ⟨⟨⟨q1, q2⟩, q3, q4⟩, hc⟩ hg hr
    have hrr : ∀ r, row = some r → ∃ o : Obj, A.heap[r]? = some o ∧ o.isCells = false := fun r e => (hr r e).2
    have hcg : Chg (fun k => w.heap.size ≤ k) A B := ⟨hg.os, hg.tape, hg.output, hg.size, fun k hk hn => hg.block k hk (fun e => by have := (hr k e.symm).1; omega)⟩
    exact ⟨⟨⟨cell_kept q1 hg hrr, (frozen_kept q1 hg hrr).trans q2⟩, cell_kept q3 hg hrr, (frozen_kept q3 hg hrr).trans q4⟩, hc.into hcg (fun k hk e => by omega)⟩
  case hIx =>
    rintro c s A B row h hg hr
    exact h
  case h0 =>
    exact ⟨⟨⟨by rw [hB1.cell]; rfl, hB1.frozen 0⟩, by rw [hB2.cell]; rfl, hB2.frozen 0⟩, hC0⟩
  case assign =>
    intro l x W K hK
    gi_wp2
    exact hK
  case body =>
    rintro l pre x W _ hl
    exact absurd hl (Nat.not_lt_zero _)
  case done =>
    rintro D xs W hDl hall ⟨⟨⟨q1, q2⟩, q3, q4⟩, hc⟩ hD
    have HC := hid hc
    have HDL := hid hDl
    clear hc hall hDl
    gi_wp2
    have hK' := ((KeepsOthers.setCell W ⟨w.heap.size + 1, 0, none⟩ (.int .i64 0)).trans (KeepsOthers.setCell _ ⟨w.heap.size + 2, 0, none⟩ (.bool false))).same D _ hD rfl
    refine ⟨by simp, .inl ⟨_, _, rfl, run_takeDeferred hK', ?_⟩⟩
    have hr : ∀ r, some D = some r → ∃ o : Obj, ((W.setCell ⟨w.heap.size + 1, 0, none⟩ (.int .i64 0)).setCell ⟨w.heap.size + 2, 0, none⟩ (.bool false)).heap[r]? = some o ∧ o.isCells = false := fun r e => by cases e; exact ⟨_, hK', rfl⟩
    have hg := grownBy_putObj' ((W.setCell ⟨w.heap.size + 1, 0, none⟩ (.int .i64 0)).setCell ⟨w.heap.size + 2, 0, none⟩ (.bool false)) D (.deferred none)
    have c1 := cell_kept (a := ⟨w.heap.size + 1, 0, none⟩) (v := .int .i64 0) (by
      rw [far2 _ w.heap.size 2 1 (by decide)]
      exact World.cell?_setCell_same' _ _ _ (by rw [q1]; rfl)) hg hr
    have c2 := cell_kept (a := ⟨w.heap.size + 2, 0, none⟩) (v := .bool false) (by
      refine World.cell?_setCell_same' _ _ _ ?_
      rw [far2 _ w.heap.size 1 2 (by decide), q3]; rfl) hg hr
    have hch : Chg (fun k => w.heap.size ≤ k) W (((W.setCell ⟨w.heap.size + 1, 0, none⟩ (.int .i64 0)).setCell ⟨w.heap.size + 2, 0, none⟩ (.bool false)).putObj D (.deferred none)) :=
      ((((Chg.refl _ _).setCell (p := ⟨w.heap.size + 1, 0, none⟩) (by show w.heap.size ≤ w.heap.size + 1; omega) _).setCell (p := ⟨w.heap.size + 2, 0, none⟩) (by show w.heap.size ≤ w.heap.size + 2; omega) _)).into
        ⟨hg.os, hg.tape, hg.output, hg.size, fun k hk hn => hg.block k hk (fun e => by cases e; exact hn rfl)⟩ (S' := fun k => k = D) (fun k hk e => by have := HDL.out; have := HWS.out; omega)
    refine ⟨_, ?_, rfl, HC.out.into hch (fun k hk e => by omega)⟩
    simp [results, Try.f38, go_sem, c1, c2, Try.results38, lastV]
  case stop =>
    rintro D c pre W _ hF _ _
    exact hF.elim

theorem lastbut_nil (w : World) (gf : Nat) (cap : Array Value) : Calls Try.prog 38 #[.pointer none, .func (.func gf) #[] cap] w fun e W' => e = .returned (lastV none) ∧ Chg (fun _ => False) w W' :=
  callsIn_wide.1 (lastbut_nil_in 5 (Nat.le_refl _) w gf cap)
theorem lastbut_any (w : World) (b : Nat) (F : Nat → Prop) (ks : List Int) (h : Lst w b F ks) (gf : Nat) (cap : Array Value) (J : List Int → World → Prop) (kp : Int → Bool) (S : Nat → Prop) (hk : Keeper w F ks gf cap J kp S) (h0 : J [] w) :
    Calls Try.prog 38 #[.pointer (some ⟨b, 0, none⟩), .func (.func gf) #[] cap] w fun e W' => e = .returned (lastV (scanR kp ks.reverse)) ∧ J (scanA kp ks.reverse) W' ∧ Chg S w W' :=
  callsIn_wide.1 (lastbut_in 5 (Nat.le_refl _) w b F ks h gf cap J kp S hk h0)

--@need Last
theorem lastf_any (w : World) (x : Value) : Calls Try.prog 39 #[x] w fun e w' => e = .returned (.bool false) ∧ w = w' := by
  go_enter Try.func39, Try.ntmps39
  go_wp2
  go_ret
  exact ⟨rfl, rfl⟩

theorem scan_none (l : List Int) : scanR (fun _ => false) l = l.head? := by cases l <;> rfl

set_option maxHeartbeats 1000000 in
theorem last_any (w : World) (b : Nat) (F : Nat → Prop) (ks : List Int) (h : Lst w b F ks) :
    Calls Try.prog 28 #[.pointer (some ⟨b, 0, none⟩)] w fun e w' => e = .returned (lastV ks.getLast?) ∧ Chg (fun _ => False) w w' := by
  have HL := hid h
  clear h
  go_enter Try.func28, Try.ntmps28
  go_wp2_with fail
  refine (lastbut_any w b F ks HL.out 39 #[] (fun _ _ => True) (fun _ => false) (fun _ => False) ⟨enters_of Try.func39 (by kernel_rfl) rfl, fun k hk => hk.elim, fun _ _ _ _ _ => trivial, fun pre x W hx _ _ => (lastf_any W (enc x)).mono ?_⟩ trivial).mono ?_
  · rintro e w' ⟨he, rfl⟩
    exact ⟨he, trivial, Chg.refl _ _⟩
  rintro e w' ⟨rfl, -, hc⟩
  rw [scan_none, List.head?_reverse]
  have HC := hid hc
  clear hc
  unfold lastV
  go_wp2
  refine bodyPost_ret (by simp [results, Try.results28, go_sem]; rfl) rfl ?_
  exact ⟨rfl, HC.out⟩

set_option maxHeartbeats 1000000 in
theorem last_nil (w : World) : Calls Try.prog 28 #[.pointer none] w fun e w' => e = .returned (lastV none) ∧ Chg (fun _ => False) w w' := by
  go_enter Try.func28, Try.ntmps28
  go_wp2_with fail
  refine (lastbut_nil w 39 #[]).mono ?_
  rintro e w' ⟨rfl, hc⟩
  have HC := hid hc
  clear hc
  unfold lastV
  go_wp2
  refine bodyPost_ret (by simp [results, Try.results28, go_sem]; rfl) rfl ?_
  exact ⟨rfl, HC.out⟩
--@end
end Go.Proofs.Ytfkedhclhmbpfaa.LI
