/-
  A list of keys in memory (keys of one kind): the inner functions out, front and place.
-/
import Derived.Test.YtfkedhclhmbpfaaRows
import Derived.Test.YtfkedhclhmbpfaaRing
import Derived.WalkKit
import Derived.WalkSpells
import Derived.WalkLawsBesides
import Derived.Deep.QuietTactic
import Derived.BigQuiet
import Derived.BigRegion
import Derived.Maps.AppendAt
import Derived.Deep.AppendLies
namespace Go.Proofs.Ytfkedhclhmbpfaa.LI
open Go.RowKit Go.Maps
set_option linter.unusedVariables false
set_option linter.unusedSimpArgs false

abbrev enc (k : Int) : Value := .int .i64 k
def ok (k : Int) : Prop := (Lit.int .i64 k).wf = true
theorem keyK : KeyOfT Try.prog 3 enc ok := ⟨int_keyed Try.underlying3, fun h => by injection h, fun {x} h => ⟨_, keyOf_int_mk Try.underlying3 h⟩⟩

/-- A list as it lies in memory: its block, its cells, its free places. -/
structure Raw (w : World) (b g cap mb N : Nat) (ky : Nat → Int) (nx pv : Nat → Nat) (fv : Value) (fr : List Nat) : Prop where
  blk : Blk w b 90 #[.slice (some ⟨g, 0, none⟩) N cap, fv, .map (some mb)]
  row : w.ownsRow 0 103 3 (.slice (some ⟨g, 0, none⟩) N cap) N (cellsOf enc ky nx pv N)
  free : w.ownsRow 0 3 1 fv fr.length (fr.map fun i : Nat => Value.int .i64 (i : Int))

section
variable {w w' : World} {b g cap mb N : Nat} {ky : Nat → Int} {nx pv : Nat → Nat} {fv : Value} {fr : List Nat}
theorem Raw.gb (h : Raw w b g cap mb N ky nx pv fv fr) : g ≠ b := own_ne_b h.row h.blk (by decide) g rfl
theorem Raw.fb (h : Raw w b g cap mb N ky nx pv fv fr) : ∀ f, fv.ownBlock = some f → f ≠ b := own_ne_b h.free h.blk (by decide)
theorem Raw.fg (h : Raw w b g cap mb N ky nx pv fv fr) : ∀ f, fv.ownBlock = some f → f ≠ g := fun f hf e => own_ne_o h.free h.row (by decide) f hf (by rw [e]; rfl)
theorem Raw.chg {S : Nat → Prop} (h : Raw w b g cap mb N ky nx pv fv fr) (hc : Chg S w w') (hb : ¬ S b) (hg : ¬ S g) (hf : ∀ f, fv.ownBlock = some f → ¬ S f) : Raw w' b g cap mb N ky nx pv fv fr :=
  ⟨hc.blk h.blk hb, own_chg h.row hc (fun x hx => by simp [Value.ownBlock] at hx; subst hx; exact hg), own_chg h.free hc hf⟩
theorem Raw.drew (h : Raw w b g cap mb N ky nx pv fv fr) : Raw w.drew b g cap mb N ky nx pv fv fr := h.chg ((Chg.refl (fun _ => False) w).drew) (fun h => h) (fun h => h) (fun _ _ h => h)
theorem Raw.alloc (h : Raw w b g cap mb N ky nx pv fv fr) (o : Obj) : Raw (w.alloc o) b g cap mb N ky nx pv fv fr := h.chg ((Chg.refl (fun _ => False) w).alloc o) (fun h => h) (fun h => h) (fun _ _ h => h)
/-- A store into the cells. -/
theorem Raw.set (h : Raw w b g cap mb N ky nx pv fv fr) (j : Nat) (u : Value) {ky' : Nat → Int} {nx' pv' : Nat → Nat} (he : (cellsOf enc ky nx pv N).set j u = cellsOf enc ky' nx' pv' N) : Raw (w.setCell ⟨g, j, none⟩ u) b g cap mb N ky' nx' pv' fv fr := by
  have hgb := h.gb
  refine ⟨h.blk.far (p := ⟨g, j, none⟩) (fun e => hgb e.symm) u, by rw [← he]; exact own_set h.row j u, own_chg h.free ((Chg.refl (fun k => k = g) w).setCell (p := ⟨g, j, none⟩) rfl u) (fun f hf => h.fg f hf)⟩
theorem Raw.cell0 (h : Raw w b g cap mb N ky nx pv fv fr) : w.cell? ⟨b, 0, none⟩ = some (.slice (some ⟨g, 0, none⟩) N cap) := by rw [h.blk.cell]; rfl
theorem Raw.cell1 (h : Raw w b g cap mb N ky nx pv fv fr) : w.cell? ⟨b, 1, none⟩ = some fv := by rw [h.blk.cell]; rfl
theorem Raw.cell2 (h : Raw w b g cap mb N ky nx pv fv fr) : w.cell? ⟨b, 2, none⟩ = some (.map (some mb)) := by rw [h.blk.cell]; rfl
theorem Raw.key (h : Raw w b g cap mb N ky nx pv fv fr) {i : Nat} (hi : i < N) : w.cell? ⟨g, i * 3, none⟩ = some (enc (ky i)) := own_cell h.row (cellsOf_at enc ky nx pv hi).1
theorem Raw.next (h : Raw w b g cap mb N ky nx pv fv fr) {i : Nat} (hi : i < N) : w.cell? ⟨g, i * 3 + 1, none⟩ = some (.int .i64 (nx i : Int)) := own_cell h.row (cellsOf_at enc ky nx pv hi).2.1
theorem Raw.prev (h : Raw w b g cap mb N ky nx pv fv fr) {i : Nat} (hi : i < N) : w.cell? ⟨g, i * 3 + 2, none⟩ = some (.int .i64 (pv i : Int)) := own_cell h.row (cellsOf_at enc ky nx pv hi).2.2
end

set_option maxRecDepth 100000 in
set_option maxHeartbeats 1000000 in
theorem out_any (w : World) (b g cap mb N i : Nat) (ky : Nat → Int) (nx pv : Nat → Nat) (fv : Value) (fr : List Nat) (h : Raw w b g cap mb N ky nx pv fv fr) (hN : N ≤ 100000) (hi : i < N) (hn : nx i < N) (hp : pv i < N) :
    Calls Try.prog 41 #[.pointer (some ⟨b, 0, none⟩), .int .i64 (i : Int)] w fun e w' => e = .returned (.tuple #[]) ∧ Raw w' b g cap mb N ky (upd nx (pv i) (nx i)) (upd pv (nx i) (pv i)) fv fr ∧ Chg (fun k => k = g) w w' := by
  obtain ⟨n, hnn⟩ : ∃ n, n = nx i := ⟨_, rfl⟩
  obtain ⟨p, hpp⟩ : ∃ p, p = pv i := ⟨_, rfl⟩
  have c0 := h.cell0
  have e0 := h.key hi
  have e1 := h.next hi
  have e2 := h.prev hi
  rw [← hnn] at e1 hn
  rw [← hpp] at e2 hp
  rw [← hnn, ← hpp]
  have q1 := h.next hp
  have q2 := h.prev hn
  have f1 := own_frozen h.row (p * 3 + 1)
  have f2 := own_frozen h.row (n * 3 + 2)
  have hgl := own_lt h.row
  have hbl := h.blk.lt
  have HH := hid h
  clear hnn hpp h
  go_enter Try.func41, Try.ntmps41
  go_wp2_with fail
  go_region
  go_wp2_with fail
  go_end0
  exact ⟨rfl, (((HH.out.set _ _ (cellsOf_nx enc ky nx pv hp n)).set _ _ (cellsOf_pv enc ky _ pv hn p)).alloc _).drew, ((((Chg.refl (fun k => k = g) w).setCell (p := ⟨g, p * 3 + 1, none⟩) rfl _).setCell (p := ⟨g, n * 3 + 2, none⟩) rfl _).alloc _).drew⟩

set_option maxRecDepth 100000 in
set_option maxHeartbeats 1000000 in
theorem front_any (w : World) (b g cap mb N i : Nat) (ky : Nat → Int) (nx pv : Nat → Nat) (fv : Value) (fr : List Nat) (h : Raw w b g cap mb N ky nx pv fv fr) (hN : N ≤ 100000) (hi : i < N) (hf : nx 0 < N) (hif : i ≠ nx 0) (hi0 : i ≠ 0) :
    Calls Try.prog 43 #[.pointer (some ⟨b, 0, none⟩), .int .i64 (i : Int)] w fun e w' => e = .returned (.tuple #[]) ∧ Raw w' b g cap mb N ky (upd (upd nx i (nx 0)) 0 i) (upd (upd pv i 0) (nx 0) i) fv fr ∧ Chg (fun k => k = g) w w' := by
  obtain ⟨n, hnn⟩ : ∃ n, n = nx 0 := ⟨_, rfl⟩
  have h0 : 0 < N := by omega
  have c0 := h.cell0
  have e1 := h.next h0
  rw [← hnn] at e1 hf hif
  rw [Nat.zero_mul, Nat.zero_add] at e1
  have q1 := h.prev hi
  have q2 := h.next hi
  have q3 := h.prev hf
  have f0 := own_frozen h.row 1
  have f1 := own_frozen h.row (i * 3 + 1)
  have f2 := own_frozen h.row (i * 3 + 2)
  have f3 := own_frozen h.row (n * 3 + 2)
  have hgl := own_lt h.row
  have hbl := h.blk.lt
  have hgb := h.gb
  have HH := hid h
  rw [← hnn]
  have HNN := hid hnn
  have r1 : ((w.setCell ⟨g, i * 3 + 2, none⟩ (.int .i64 0)).setCell ⟨g, i * 3 + 1, none⟩ (.int .i64 (n : Int))).cell? ⟨g, 1, none⟩ = some (.int .i64 (n : Int)) := by
    rw [World.cell?_setCell_other _ _ _ _ (by simp <;> omega), World.cell?_setCell_other _ _ _ _ (by simp <;> omega)]
    exact e1
  clear hnn h
  go_enter Try.func43, Try.ntmps43
  go_wp2_with fail
  go_region
  go_wp2_with fail
  go_region
  go_wp2_with fail
  go_end0
  exact ⟨rfl, (((((HH.out.set _ _ (by simpa using cellsOf_pv enc ky nx pv hi 0)).set _ _ (cellsOf_nx enc ky nx _ hi n)).set _ _ (cellsOf_pv enc ky _ _ hf i)).set _ _ (by simpa using cellsOf_nx enc ky _ _ h0 i)).drew).drew, ((((((Chg.refl (fun k => k = g) w).setCell (p := ⟨g, i * 3 + 2, none⟩) rfl _).setCell (p := ⟨g, i * 3 + 1, none⟩) rfl _).setCell (p := ⟨g, n * 3 + 2, none⟩) rfl _).setCell (p := ⟨g, 1, none⟩) rfl _).drew).drew⟩

set_option maxHeartbeats 1000000 in
theorem place_free (w : World) (b g cap mb N i : Nat) (ky : Nat → Int) (nx pv : Nat → Nat) (fv : Value) (fr : List Nat) (h : Raw w b g cap mb N ky nx pv fv (fr ++ [i])) (hl : fr.length ≤ 100000) :
    Calls Try.prog 42 #[.pointer (some ⟨b, 0, none⟩)] w fun e w' => e = .returned (.int .i64 (i : Int)) ∧ (∃ fv', Raw w' b g cap mb N ky nx pv fv' fr ∧ fv'.ownBlock = fv.ownBlock) ∧ Chg (fun k => k = b) w w' := by
  have hfree := h.free
  rw [show (fr ++ [i]).length = fr.length + 1 by simp] at hfree
  obtain ⟨f, fcap, rfl⟩ := ownsRow_succ hfree
  have hcap := own_cap hfree
  unfold maxLen at hcap
  have c1 := h.cell1
  have e1 : w.cell? ⟨f, fr.length, none⟩ = some (.int .i64 (i : Int)) := own_cell hfree (by simp)
  have f1 := h.blk.frozen 1
  have hc1 := hcap.1
  have hc2 := hcap.2
  have HH := hid h
  clear h hfree hcap
  go_enter Try.func42, Try.ntmps42
  go_wp2
  go_ret
  have hfr := HH.out.free
  rw [show (fr ++ [i]).length = fr.length + 1 by simp, List.map_append] at hfr
  have hcut := own_cut hfr (m := fr.length) (by omega)
  rw [Nat.mul_one, List.take_left' (by simp)] at hcut
  have hst : Chg (fun k => k = b) w (w.setCell ⟨b, 1, none⟩ (.slice (some ⟨f, 0, none⟩) fr.length fcap)) := (Chg.refl (fun k => k = b) w).setCell (p := ⟨b, 1, none⟩) rfl _
  exact ⟨rfl, ⟨_, ⟨HH.out.blk.set_ 1 _, own_chg HH.out.row hst (fun x hx => by simp [Value.ownBlock] at hx; subst hx; exact HH.out.gb), own_chg hcut hst (fun x hx => HH.out.fb x hx)⟩, rfl⟩, hst⟩

theorem infoC : (Try.prog.info? 103).map (fun i => (i.zero, i.size, i.bytes)) = some (some (.agg #[.int .i64 0, .int .i64 0, .int .i64 0]), 3, 24) := by kernel_rfl

set_option maxHeartbeats 1000000 in
theorem place_new (w : World) (b g cap mb N : Nat) (ky : Nat → Int) (nx pv : Nat → Nat) (fv : Value) (h : Raw w b g cap mb N ky nx pv fv []) (hN : N ≤ 100000) :
    Calls Try.prog 42 #[.pointer (some ⟨b, 0, none⟩)] w fun e w' => e = .returned (.int .i64 (N : Int)) ∧ (∃ g' cap', Raw w' b g' cap' mb (N + 1) (upd ky N 0) (upd nx N 0) (upd pv N 0) fv [] ∧ (g' = g ∨ w.heap.size ≤ g')) ∧ Chg (fun k => k = b ∨ k = g) w w' := by
  obtain ⟨i0, hi, hz0, hz1, hz2⟩ := info_parts infoC
  obtain ⟨A, fcap, rfl⟩ : ∃ A fcap, fv = .slice A 0 fcap := by
    rcases h.free.2 with ⟨rfl, _⟩ | ⟨f, fc, cur, rfl, _⟩
    · exact ⟨_, _, rfl⟩
    · exact ⟨_, _, rfl⟩
  have c0 := h.cell0
  have c1 := h.cell1
  have hrow := h.row
  have hgb := h.gb
  have hbl := h.blk.lt
  have f0 := h.blk.frozen 0
  have HH := hid h
  clear h
  go_enter Try.func42, Try.ntmps42
  go_wp2_with (first
    | (at_builtin
       go_loud (refine wpList_append_own_at _ rfl (.tmp 35) (.tmp 37) 87 rfl 0 103 i0 (.agg #[.int .i64 0, .int .i64 0, .int .i64 0]) 3 24 Try.underlying87 hi hz0 hz1 hz2 rfl (by decide) (.slice (some ⟨g, 0, none⟩) N cap) N (cellsOf enc ky nx pv N) rfl (own_chg hrow ((Chg.refl (fun _ => False) _).alloc _) (fun _ _ h => h)) ⟨w.heap.size, 0, none⟩ 1 1 [.int .i64 0, .int .i64 0, .int .i64 0] rfl rfl (World.news_of_block (cs := #[.int .i64 0, .int .i64 0, .int .i64 0]) (t := 103) (fr := (0, 0)) (heap_alloc_new w _)) (by simp [Value.oneCell']) (by unfold maxLen; omega) (by omega) (Nat.zero_le _) ?_)
       intro v' w1 hown1 hgrow hnil hat
       obtain ⟨g', cap', rfl⟩ := ownsRow_succ hown1
       have hg1 : Chg (fun k => k = g) w w1 := ((Chg.refl _ _).alloc _).trans ((chg_of_grown hgrow).weaken (fun k _ e => by simpa [Value.ownBlock] using e))
       have hb1 := hg1.blk HH.out.blk (fun e => hgb e.symm)
       have d0 : w1.cell? ⟨b, 0, none⟩ = some (.slice (some ⟨g, 0, none⟩) N cap) := by rw [hb1.cell]; rfl
       have g0 := hb1.frozen 0))
  go_ret
  have hst : Chg (fun k => k = b) w1 (w1.setCell ⟨b, 0, none⟩ (.slice (some ⟨g', 0, none⟩) (N + 1) cap')) := (Chg.refl (fun k => k = b) w1).setCell (p := ⟨b, 0, none⟩) rfl _
  have hgb' := own_ne_b hown1 hb1 (by decide)
  have hrow2 : w1.ownsRow 0 103 3 (.slice (some ⟨g', 0, none⟩) (N + 1) cap') (N + 1) (cellsOf enc (upd ky N 0) (upd nx N 0) (upd pv N 0) (N + 1)) := by
    rw [cellsOf_new]
    exact hown1
  refine ⟨rfl, ⟨g', cap', ⟨hb1.set_ 0 _, own_chg hrow2 hst (fun x hx => hgb' x hx), own_chg (own_chg HH.out.free hg1 (fun x hx => HH.out.fg x hx)) hst (fun x hx => HH.out.fb x hx)⟩, ?_⟩, (hg1.weaken (fun k _ e => Or.inr e)).trans (hst.weaken (fun k _ e => Or.inl e))⟩
  rcases hat with h | h
  · simp [Value.ownBlock] at h
    exact Or.inl h
  · simp [Value.ownBlock] at h
    exact Or.inr (by omega)
end Go.Proofs.Ytfkedhclhmbpfaa.LI
