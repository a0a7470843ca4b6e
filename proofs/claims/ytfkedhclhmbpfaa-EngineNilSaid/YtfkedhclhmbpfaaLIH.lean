/-
  A list of keys in memory: Keys.
-/
import Derived.Laws.MakeOwn
import Derived.Test.YtfkedhclhmbpfaaLIG
namespace Go.Proofs.Ytfkedhclhmbpfaa.LI
open Go.RowKit Go.Maps Go.Shelf
set_option linter.unusedVariables false
set_option linter.unusedSimpArgs false
attribute [local go_sem] Oper.semAt_some

theorem mk_keys (n : Nat) (h : n ≤ 100000) (w : World) : (Instr.makeSlice 41 (.int .i64 (n : Nat)) (.int .i64 (n : Nat))).run Try.prog w = .ok (.slice (some ⟨w.heap.size, 0, none⟩) n n) (w.alloc (.cells (madeCells #[.int .i64 0] n) 3)) := by
  have := run_make (P := Try.prog) w 41 3 Try.t3 (.int .i64 0) Try.underlying41 (by kernel_rfl) (by kernel_rfl) .i64 .i64 n n (by omega) (Int.le_refl _) (by show ((8 : Nat) : Int) * (n : Nat) ≤ _; omega) (by omega)
  have e1 : Try.t3.size = 1 := by kernel_rfl
  rw [e1] at this
  simpa [Value.cells] using this

/-- What Keys answers. -/
def KeysAt (w : World) (ks : List Int) (e : Ending) (w' : World) : Prop :=
  ∃ g, e = .returned (.slice (some ⟨g, 0, none⟩) ks.length ks.length) ∧ w.heap.size ≤ g ∧ Blk w' g 3 (ks.map enc).toArray ∧ Chg (fun _ => False) w w'

theorem keys_row (ks : List Int) (cs : Array Value) (h1 : cs.size = ks.length) (h2 : ∀ (t : Nat) (ht : t < ks.reverse.length), cs[ks.length - 1 - t]? = some (enc (ks.reverse[t]))) : cs = (ks.map enc).toArray := by
  apply Array.ext
  · simp [h1]
  · intro i hi _
    have hl : i < ks.length := by omega
    have := h2 (ks.length - 1 - i) (by rw [List.length_reverse]; omega)
    rw [List.getElem_reverse] at this
    have e1 : ks.length - 1 - (ks.length - 1 - i) = i := by omega
    simp only [e1] at this
    rw [Array.getElem?_eq_getElem hi] at this
    simp only [Option.some.injEq] at this
    rw [this]
    simp

set_option maxRecDepth 100000 in
set_option maxHeartbeats 2000000 in
theorem keys_in (n : Nat) (hn : 5 ≤ n) (w : World) (b : Nat) (F : Nat → Prop) (ks : List Int) (h : Lst w b F ks) :
    CallsIn Fence.wide n Try.prog 29 #[.pointer (some ⟨b, 0, none⟩)] w (KeysAt w ks) := by
  have h1 : 1 ≤ n := by omega
  have hlen : ks.length ≤ 100000 := by
    obtain ⟨⟨g, cap, mb, N, ky, nx, pv, fv, ps, fr, f, hm⟩, _, _, _⟩ := h
    have := hm.count
    have := hm.few
    have : ps.length = ks.length := by rw [← hm.keys, List.length_map]
    omega
  have HL := hid h
  clear h
  obtain ⟨m, hm⟩ : ∃ m, m = ks.length := ⟨_, rfl⟩
  rw [← hm] at hlen
  have hmk := mk_keys m hlen
  have HM := hid hm
  refine callsIn_of_wp_marks Try.func29 rfl trivial ?_ rfl
  simp only [Try.ntmps29, List.size_toArray, List.length_cons, List.length_nil, Nat.reduceAdd, Nat.reduceSub, Array.replicate_succ, Array.replicate_zero, List.push_toArray, List.append_toArray, List.nil_append, List.cons_append]
  gi_wp2
  refine ⟨trivial, ?_⟩
  refine (callsIn_wide.2 (len_any _ b F ks HL.out)).mono ?_
  rintro e w' ⟨rfl, rfl⟩
  rw [← hm]
  clear hm
  gi_wp2
  refine ⟨trivial, ?_⟩
  refine (back_in Fence.wide (n - 1) trivial rfl _ _).mono ?_
  rintro e w' ⟨rfl, rfl⟩
  gi_wp2
  obtain ⟨W0, hW0⟩ : ∃ W0, (((w.alloc (.cells #[.int .i64 (m : Nat)] 3)).alloc (.cells (madeCells #[.int .i64 0] m) 3)).alloc (.cells #[.slice (some ⟨w.heap.size + 1, 0, none⟩) m m] 41)).alloc (.cells #[.pointer (some ⟨b, 0, none⟩)] 63) = W0 := ⟨_, rfl⟩
  have ch := fun (v : World) (o : Obj) => (Chg.refl (fun _ => False) v).alloc o
  have hs0 : W0.heap.size = w.heap.size + 4 := by rw [← hW0]; simp
  have hC0 : Chg (fun _ => False) w W0 := by rw [← hW0]; exact (((ch w _).alloc _).alloc _).alloc _
  have hB0 : Blk W0 w.heap.size 3 #[.int .i64 (m : Nat)] := by
    rw [← hW0]; exact (((Blk.new w _ _).alloc _).alloc _).alloc _
  have hB1 : Blk W0 (w.heap.size + 1) 3 (madeCells #[.int .i64 0] m) := by
    rw [← hW0]
    have := Blk.new (w.alloc (.cells #[.int .i64 (m : Nat)] 3)) 3 (madeCells #[.int .i64 0] m)
    rw [World.size_alloc] at this
    exact (this.alloc _).alloc _
  have hB2 : Blk W0 (w.heap.size + 2) 41 #[.slice (some ⟨w.heap.size + 1, 0, none⟩) m m] := by
    rw [← hW0]
    have := Blk.new ((w.alloc (.cells #[.int .i64 (m : Nat)] 3)).alloc (.cells (madeCells #[.int .i64 0] m) 3)) 41 #[.slice (some ⟨w.heap.size + 1, 0, none⟩) m m]
    rw [World.size_alloc, World.size_alloc] at this
    exact this.alloc _
  have hB3 : Blk W0 (w.heap.size + 3) 63 #[.pointer (some ⟨b, 0, none⟩)] := by
    rw [← hW0]
    have := Blk.new (((w.alloc (.cells #[.int .i64 (m : Nat)] 3)).alloc (.cells (madeCells #[.int .i64 0] m) 3)).alloc (.cells #[.slice (some ⟨w.heap.size + 1, 0, none⟩) m m] 41)) 63 #[.pointer (some ⟨b, 0, none⟩)]
    rw [World.size_alloc, World.size_alloc, World.size_alloc] at this
    exact this
  have hL0 := HL.out.chg hC0 (fun _ _ h => h)
  rw [hW0]
  have HWS := hid hs0
  have HGl : ∀ k, (F k ∨ k = w.heap.size + 3) → k < W0.heap.size := fun k hk => by
    rcases hk with hk | hk
    · exact hL0.lt k hk
    · omega
  clear hmk
  refine wpIn_rangeFunc_ownG (F := Fence.wide) rfl h1 (gf := 49) (lb := #[.pointer (some ⟨w.heap.size + 3, 0, none⟩)]) rfl trivial (enters_of Try.func49 (by kernel_rfl) rfl)
    (back_stops Fence.wide (n - 1) trivial rfl (by omega) (w.heap.size + 3) b F (fun k => F k ∨ k = w.heap.size + 3) ks W0 (fun k hk => Or.inl hk) (Or.inr rfl) HGl (by rw [hB3.cell]; rfl) hL0) Kp.t (Kp.b HGl) (Below.refl _ _) (fun _ => rfl)
    (fun pre W => (W.cell? ⟨w.heap.size, 0, none⟩ = some (.int .i64 ((m : Int) - (pre.length : Nat))) ∧ W.frozen? ⟨w.heap.size, 0, none⟩ = false) ∧ W.cell? ⟨w.heap.size + 2, 0, none⟩ = some (.slice (some ⟨w.heap.size + 1, 0, none⟩) m m) ∧ (∃ cs, Blk W (w.heap.size + 1) 3 cs ∧ cs.size = m ∧ ∀ (t : Nat) (ht : t < pre.length), cs[m - 1 - t]? = some (enc (pre[t]).1)) ∧ Chg (fun _ => False) w W)
    (fun c pre W => False)
    ?hI ?hIx ?h0
    (fun x => { tmps := #[.pointer (some ⟨b, 0, none⟩), undef, .slice none 0 0, .pointer (some ⟨w.heap.size, 0, none⟩), .pointer (some ⟨w.heap.size + 1 + 1, 0, none⟩), enc x.1, .pointer (some ⟨b, 0, none⟩), .int .i64 (m : Nat), .int .i64 (m : Nat), .slice (some ⟨w.heap.size + 1, 0, none⟩) m m, .pointer (some ⟨b, 0, none⟩), .func (.func 49) #[] #[.pointer (some ⟨w.heap.size + 3, 0, none⟩)], enc x.1, undef, undef, undef, undef, undef, undef, undef], defers := [] }) ?assign ?body ?done ?stop
  case hI =>
    rintro s A B row ⟨⟨q1, q2⟩, q3, ⟨cs, hb, hcs⟩, hc⟩ hg hr
    have hrr : ∀ r, row = some r → ∃ o : Obj, A.heap[r]? = some o ∧ o.isCells = false := fun r e => (hr r e).2
    have hcg : Chg (fun k => W0.heap.size ≤ k) A B := ⟨hg.os, hg.tape, hg.output, hg.size, fun k hk hn => hg.block k hk (fun e => by have := (hr k e.symm).1; omega)⟩
    have hcb : Blk B (w.heap.size + 1) 3 cs := hcg.blk hb (fun h => by omega)
    exact ⟨⟨cell_kept q1 hg hrr, (frozen_kept q1 hg hrr).trans q2⟩, cell_kept q3 hg hrr, ⟨cs, hcb, hcs⟩, hc.into hcg (fun k hk e => by omega)⟩
  case hIx =>
    rintro c s A B row h hg hr
    exact h
  case h0 =>
    refine ⟨⟨by rw [hB0.cell]; simp, hB0.frozen 0⟩, by rw [hB2.cell]; rfl, ⟨_, hB1, size_madeCells _ _, fun t ht => absurd ht (Nat.not_lt_zero _)⟩, hC0⟩
  case assign =>
    intro l x W K hK
    gi_wp2
    exact hK
  case body =>
    rintro l pre x W ⟨⟨q1, q2⟩, q3, ⟨cs, hb, hcs, hct⟩, hc⟩ hl
    have HB := hid hb
    have HC := hid hc
    have HCT := hid hct
    have HCS := hid hcs
    have hlm : pre.length < m := by have := HM.out; omega
    obtain ⟨u, hat⟩ : ∃ u, W.cell? ⟨w.heap.size + 1, m - pre.length - 1, none⟩ = some u := ⟨_, by
      rw [hb.cell]
      exact Array.getElem?_eq_getElem (by omega)⟩
    have hfr : W.frozen? ⟨w.heap.size + 1, m - pre.length - 1, none⟩ = false := hb.frozen _
    clear hcs hct hc hb
    gi_wp2
    have hch : Chg (fun k => k = w.heap.size ∨ k = w.heap.size + 1) W ((W.setCell ⟨w.heap.size, 0, none⟩ (.int .i64 ((m : Int) - (pre.length : Nat) - 1))).setCell ⟨w.heap.size + 1, m - pre.length - 1, none⟩ (enc x.1)) :=
      ((Chg.refl _ _).setCell (p := ⟨w.heap.size, 0, none⟩) (Or.inl rfl) _).setCell (p := ⟨w.heap.size + 1, m - pre.length - 1, none⟩) (Or.inr rfl) _
    have hb2 := ((HB.out.far (p := ⟨w.heap.size, 0, none⟩) (by simp) (.int .i64 ((m : Int) - (pre.length : Nat) - 1))).set_ (m - pre.length - 1) (enc x.1))
    refine ⟨((KeepsOthers.setCell _ _ _).trans (KeepsOthers.setCell _ _ _)).from _, ?_, ⟨?_, ?_⟩, hch.cell q3 (by simp), ⟨_, hb2, by rw [Array.size_setIfInBounds]; exact HCS.out, ?_⟩, HC.out.into hch (fun k hk e => by omega)⟩
    · refine hch.weaken (fun k hk he hg => ?_)
      rcases hg with hg | hg
      · have := HL.out.lt k hg
        omega
      · omega
    · rw [World.cell?_setCell_other _ _ _ _ (by intro e; injection e with e; omega), World.cell?_setCell_same' _ _ _ (by rw [q1]; rfl)]
      simp only [List.length_append, List.length_cons, List.length_nil]
      congr 2
      omega
    · rw [World.frozen?_setCell, World.frozen?_setCell]
      exact q2
    · intro t ht
      simp only [List.length_append, List.length_cons, List.length_nil] at ht
      by_cases h : t < pre.length
      · rw [Array.getElem?_setIfInBounds_ne (by omega), List.getElem_append_left h]
        exact HCT.out t h
      · have e : t = pre.length := by omega
        subst e
        rw [show m - 1 - pre.length = m - pre.length - 1 by omega, Array.getElem?_setIfInBounds_self_of_lt (by have := HCS.out; omega)]
        simp
  case done =>
    rintro D xs W hDl hall ⟨⟨q1, q2⟩, q3, ⟨cs, hb, hcs, hct⟩, hc⟩ hD
    have HB := hid hb
    have HC := hid hc
    have HCT := hid hct
    have HCS := hid hcs
    have HALL := hid hall
    have HDL := hid hDl
    clear hb hc hct hcs hall hDl
    gi_wp2
    refine ⟨by simp, .inl ⟨_, _, rfl, run_takeDeferred hD, ?_⟩⟩
    have hg := grownBy_putObj' W D (.deferred none)
    have hch : Chg (fun k => k = D) W (W.putObj D (.deferred none)) :=
      ⟨hg.os, hg.tape, hg.output, hg.size, fun k hk hn => hg.block k hk (fun e => by cases e; exact hn rfl)⟩
    have hcs : cs = (ks.map enc).toArray := keys_row ks cs (by rw [HCS.out, HM.out]) (fun t ht => by
      have e := HALL.out
      have hx : t < xs.length := by
        have := congrArg List.length e
        simp only [List.length_map] at this
        omega
      have h := HCT.out t hx
      rw [HM.out] at h
      rw [h]
      congr 2
      simp only [← e, List.getElem_map])
    refine ⟨.slice (some ⟨w.heap.size + 1, 0, none⟩) m m, ?_, w.heap.size + 1, ?_, by omega, ?_, HC.out.into hch (fun k hk e => by have := HDL.out; have := HWS.out; omega)⟩
    · simp [results, Try.f29, go_sem, Try.results29]
    · rw [← HM.out]
    · rw [← hcs]
      exact hch.blk HB.out (fun e => by have := HDL.out; have := HWS.out; omega)
  case stop =>
    rintro D c pre W _ _ hF _
    exact hF.elim
theorem keys_any (w : World) (b : Nat) (F : Nat → Prop) (ks : List Int) (h : Lst w b F ks) : Calls Try.prog 29 #[.pointer (some ⟨b, 0, none⟩)] w (KeysAt w ks) :=
  callsIn_wide.1 (keys_in 5 (Nat.le_refl _) w b F ks h)
end Go.Proofs.Ytfkedhclhmbpfaa.LI
