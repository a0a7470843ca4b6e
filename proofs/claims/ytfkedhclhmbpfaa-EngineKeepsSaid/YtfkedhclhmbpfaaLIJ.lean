/-
  A list of keys in memory (keys of one kind): the inner functions out, front and place.
  A list of keys in memory: New, Use, Drop, Has, Len.
  A list of keys in memory: Use and Drop.
  A list of keys in memory: Drop.
  A list of keys in memory: the iterator from the last key on.
  A list of keys in memory: LastBut.
  A list of keys in memory: LastBut of no list, Last, Keys.
  A list of keys in memory: Keys.
  A list of keys in memory: Keys of no list.
  Lists of keys that are a call's own.
-/
import Derived.Test.YtfkedhclhmbpfaaRows
import Derived.Test.YtfkedhclhmbpfaaRing
import Derived.WalkKit
import Derived.WalkSpells
import Derived.WalkLawsBesides
import Derived.Deep.QuietTactic
import Derived.BigQuiet
import Derived.BigRegion
import Derived.Maps.AppendAt
import Derived.Deep.AppendLies
import Derived.RangeFuncNested
import Derived.RangeFuncBound
import Derived.RangeFuncCalls
import Derived.RangeFuncLeaves
import Derived.Shelf.Abstract
import Derived.OwnWalkIn
import Derived.TacticsInMore
import Derived.LoopNIn
import Derived.LoopIn
import Derived.Laws.MakeOwn

section
namespace Go.Proofs.Ytfkedhclhmbpfaa.LI
open Go.RowKit Go.Maps
set_option linter.unusedVariables false
set_option linter.unusedSimpArgs false

abbrev enc (k : Int) : Value := .int .i64 k
def ok (k : Int) : Prop := (Lit.int .i64 k).wf = true
theorem keyK : KeyOfT Try.prog 3 enc ok := ⟨int_keyed Try.underlying3, fun h => by injection h, fun {x} h => ⟨_, keyOf_int_mk Try.underlying3 h⟩⟩

/-- A list as it lies in memory: its block, its cells, its free places. -/
structure Raw (w : World) (b g cap mb N : Nat) (ky : Nat → Int) (nx pv : Nat → Nat) (fv : Value) (fr : List Nat) : Prop where
  blk : Blk w b 90 #[.slice (some ⟨g, 0, none⟩) N cap, fv, .map (some mb)]
  row : w.ownsRow 0 103 3 (.slice (some ⟨g, 0, none⟩) N cap) N (cellsOf enc ky nx pv N)
  free : w.ownsRow 0 3 1 fv fr.length (fr.map fun i : Nat => Value.int .i64 (i : Int))

section
variable {w w' : World} {b g cap mb N : Nat} {ky : Nat → Int} {nx pv : Nat → Nat} {fv : Value} {fr : List Nat}
theorem Raw.gb (h : Raw w b g cap mb N ky nx pv fv fr) : g ≠ b := own_ne_b h.row h.blk (by decide) g rfl
theorem Raw.fb (h : Raw w b g cap mb N ky nx pv fv fr) : ∀ f, fv.ownBlock = some f → f ≠ b := own_ne_b h.free h.blk (by decide)
theorem Raw.fg (h : Raw w b g cap mb N ky nx pv fv fr) : ∀ f, fv.ownBlock = some f → f ≠ g := fun f hf e => own_ne_o h.free h.row (by decide) f hf (by rw [e]; rfl)
theorem Raw.chg {S : Nat → Prop} (h : Raw w b g cap mb N ky nx pv fv fr) (hc : Chg S w w') (hb : ¬ S b) (hg : ¬ S g) (hf : ∀ f, fv.ownBlock = some f → ¬ S f) : Raw w' b g cap mb N ky nx pv fv fr :=
  ⟨hc.blk h.blk hb, own_chg h.row hc (fun x hx => by simp [Value.ownBlock] at hx; subst hx; exact hg), own_chg h.free hc hf⟩
theorem Raw.drew (h : Raw w b g cap mb N ky nx pv fv fr) : Raw w.drew b g cap mb N ky nx pv fv fr := h.chg ((Chg.refl (fun _ => False) w).drew) (fun h => h) (fun h => h) (fun _ _ h => h)
theorem Raw.alloc (h : Raw w b g cap mb N ky nx pv fv fr) (o : Obj) : Raw (w.alloc o) b g cap mb N ky nx pv fv fr := h.chg ((Chg.refl (fun _ => False) w).alloc o) (fun h => h) (fun h => h) (fun _ _ h => h)
/-- A store into the cells. -/
theorem Raw.set (h : Raw w b g cap mb N ky nx pv fv fr) (j : Nat) (u : Value) {ky' : Nat → Int} {nx' pv' : Nat → Nat} (he : (cellsOf enc ky nx pv N).set j u = cellsOf enc ky' nx' pv' N) : Raw (w.setCell ⟨g, j, none⟩ u) b g cap mb N ky' nx' pv' fv fr := by
  have hgb := h.gb
  refine ⟨h.blk.far (p := ⟨g, j, none⟩) (fun e => hgb e.symm) u, by rw [← he]; exact own_set h.row j u, own_chg h.free ((Chg.refl (fun k => k = g) w).setCell (p := ⟨g, j, none⟩) rfl u) (fun f hf => h.fg f hf)⟩
theorem Raw.cell0 (h : Raw w b g cap mb N ky nx pv fv fr) : w.cell? ⟨b, 0, none⟩ = some (.slice (some ⟨g, 0, none⟩) N cap) := by rw [h.blk.cell]; rfl
theorem Raw.cell1 (h : Raw w b g cap mb N ky nx pv fv fr) : w.cell? ⟨b, 1, none⟩ = some fv := by rw [h.blk.cell]; rfl
theorem Raw.cell2 (h : Raw w b g cap mb N ky nx pv fv fr) : w.cell? ⟨b, 2, none⟩ = some (.map (some mb)) := by rw [h.blk.cell]; rfl
theorem Raw.key (h : Raw w b g cap mb N ky nx pv fv fr) {i : Nat} (hi : i < N) : w.cell? ⟨g, i * 3, none⟩ = some (enc (ky i)) := own_cell h.row (cellsOf_at enc ky nx pv hi).1
theorem Raw.next (h : Raw w b g cap mb N ky nx pv fv fr) {i : Nat} (hi : i < N) : w.cell? ⟨g, i * 3 + 1, none⟩ = some (.int .i64 (nx i : Int)) := own_cell h.row (cellsOf_at enc ky nx pv hi).2.1
theorem Raw.prev (h : Raw w b g cap mb N ky nx pv fv fr) {i : Nat} (hi : i < N) : w.cell? ⟨g, i * 3 + 2, none⟩ = some (.int .i64 (pv i : Int)) := own_cell h.row (cellsOf_at enc ky nx pv hi).2.2
end

set_option maxRecDepth 100000 in
set_option maxHeartbeats 1000000 in
theorem out_any (w : World) (b g cap mb N i : Nat) (ky : Nat → Int) (nx pv : Nat → Nat) (fv : Value) (fr : List Nat) (h : Raw w b g cap mb N ky nx pv fv fr) (hN : N ≤ 100000) (hi : i < N) (hn : nx i < N) (hp : pv i < N) :
    Calls Try.prog 41 #[.pointer (some ⟨b, 0, none⟩), .int .i64 (i : Int)] w fun e w' => e = .returned (.tuple #[]) ∧ Raw w' b g cap mb N ky (upd nx (pv i) (nx i)) (upd pv (nx i) (pv i)) fv fr ∧ Chg (fun k => k = g) w w' := by
  obtain ⟨n, hnn⟩ : ∃ n, n = nx i := ⟨_, rfl⟩
  obtain ⟨p, hpp⟩ : ∃ p, p = pv i := ⟨_, rfl⟩
  have c0 := h.cell0
  have e0 := h.key hi
  have e1 := h.next hi
  have e2 := h.prev hi
  rw [← hnn] at e1 hn
  rw [← hpp] at e2 hp
  rw [← hnn, ← hpp]
  have q1 := h.next hp
  have q2 := h.prev hn
  have f1 := own_frozen h.row (p * 3 + 1)
  have f2 := own_frozen h.row (n * 3 + 2)
  have hgl := own_lt h.row
  have hbl := h.blk.lt
  have HH := hid h
  clear hnn hpp h
  go_enter Try.func41, Try.ntmps41
  go_wp2_with fail
  go_region
  go_wp2_with fail
  go_end0
  exact ⟨rfl, (((HH.out.set _ _ (cellsOf_nx enc ky nx pv hp n)).set _ _ (cellsOf_pv enc ky _ pv hn p)).alloc _).drew, ((((Chg.refl (fun k => k = g) w).setCell (p := ⟨g, p * 3 + 1, none⟩) rfl _).setCell (p := ⟨g, n * 3 + 2, none⟩) rfl _).alloc _).drew⟩

set_option maxRecDepth 100000 in
set_option maxHeartbeats 1000000 in
theorem front_any (w : World) (b g cap mb N i : Nat) (ky : Nat → Int) (nx pv : Nat → Nat) (fv : Value) (fr : List Nat) (h : Raw w b g cap mb N ky nx pv fv fr) (hN : N ≤ 100000) (hi : i < N) (hf : nx 0 < N) (hif : i ≠ nx 0) (hi0 : i ≠ 0) :
    Calls Try.prog 43 #[.pointer (some ⟨b, 0, none⟩), .int .i64 (i : Int)] w fun e w' => e = .returned (.tuple #[]) ∧ Raw w' b g cap mb N ky (upd (upd nx i (nx 0)) 0 i) (upd (upd pv i 0) (nx 0) i) fv fr ∧ Chg (fun k => k = g) w w' := by
  obtain ⟨n, hnn⟩ : ∃ n, n = nx 0 := ⟨_, rfl⟩
  have h0 : 0 < N := by omega
  have c0 := h.cell0
  have e1 := h.next h0
  rw [← hnn] at e1 hf hif
  rw [Nat.zero_mul, Nat.zero_add] at e1
  have q1 := h.prev hi
  have q2 := h.next hi
  have q3 := h.prev hf
  have f0 := own_frozen h.row 1
  have f1 := own_frozen h.row (i * 3 + 1)
  have f2 := own_frozen h.row (i * 3 + 2)
  have f3 := own_frozen h.row (n * 3 + 2)
  have hgl := own_lt h.row
  have hbl := h.blk.lt
  have hgb := h.gb
  have HH := hid h
  rw [← hnn]
  have HNN := hid hnn
  have r1 : ((w.setCell ⟨g, i * 3 + 2, none⟩ (.int .i64 0)).setCell ⟨g, i * 3 + 1, none⟩ (.int .i64 (n : Int))).cell? ⟨g, 1, none⟩ = some (.int .i64 (n : Int)) := by
    rw [World.cell?_setCell_other _ _ _ _ (by simp <;> omega), World.cell?_setCell_other _ _ _ _ (by simp <;> omega)]
    exact e1
  clear hnn h
  go_enter Try.func43, Try.ntmps43
  go_wp2_with fail
  go_region
  go_wp2_with fail
  go_region
  go_wp2_with fail
  go_end0
  exact ⟨rfl, (((((HH.out.set _ _ (by simpa using cellsOf_pv enc ky nx pv hi 0)).set _ _ (cellsOf_nx enc ky nx _ hi n)).set _ _ (cellsOf_pv enc ky _ _ hf i)).set _ _ (by simpa using cellsOf_nx enc ky _ _ h0 i)).drew).drew, ((((((Chg.refl (fun k => k = g) w).setCell (p := ⟨g, i * 3 + 2, none⟩) rfl _).setCell (p := ⟨g, i * 3 + 1, none⟩) rfl _).setCell (p := ⟨g, n * 3 + 2, none⟩) rfl _).setCell (p := ⟨g, 1, none⟩) rfl _).drew).drew⟩

set_option maxHeartbeats 1000000 in
theorem place_free (w : World) (b g cap mb N i : Nat) (ky : Nat → Int) (nx pv : Nat → Nat) (fv : Value) (fr : List Nat) (h : Raw w b g cap mb N ky nx pv fv (fr ++ [i])) (hl : fr.length ≤ 100000) :
    Calls Try.prog 42 #[.pointer (some ⟨b, 0, none⟩)] w fun e w' => e = .returned (.int .i64 (i : Int)) ∧ (∃ fv', Raw w' b g cap mb N ky nx pv fv' fr ∧ fv'.ownBlock = fv.ownBlock) ∧ Chg (fun k => k = b) w w' := by
  have hfree := h.free
  rw [show (fr ++ [i]).length = fr.length + 1 by simp] at hfree
  obtain ⟨f, fcap, rfl⟩ := ownsRow_succ hfree
  have hcap := own_cap hfree
  unfold maxLen at hcap
  have c1 := h.cell1
  have e1 : w.cell? ⟨f, fr.length, none⟩ = some (.int .i64 (i : Int)) := own_cell hfree (by simp)
  have f1 := h.blk.frozen 1
  have hc1 := hcap.1
  have hc2 := hcap.2
  have HH := hid h
  clear h hfree hcap
  go_enter Try.func42, Try.ntmps42
  go_wp2
  go_ret
  have hfr := HH.out.free
  rw [show (fr ++ [i]).length = fr.length + 1 by simp, List.map_append] at hfr
  have hcut := own_cut hfr (m := fr.length) (by omega)
  rw [Nat.mul_one, List.take_left' (by simp)] at hcut
  have hst : Chg (fun k => k = b) w (w.setCell ⟨b, 1, none⟩ (.slice (some ⟨f, 0, none⟩) fr.length fcap)) := (Chg.refl (fun k => k = b) w).setCell (p := ⟨b, 1, none⟩) rfl _
  exact ⟨rfl, ⟨_, ⟨HH.out.blk.set_ 1 _, own_chg HH.out.row hst (fun x hx => by simp [Value.ownBlock] at hx; subst hx; exact HH.out.gb), own_chg hcut hst (fun x hx => HH.out.fb x hx)⟩, rfl⟩, hst⟩

theorem infoC : (Try.prog.info? 103).map (fun i => (i.zero, i.size, i.bytes)) = some (some (.agg #[.int .i64 0, .int .i64 0, .int .i64 0]), 3, 24) := by kernel_rfl

set_option maxHeartbeats 1000000 in
theorem place_new (w : World) (b g cap mb N : Nat) (ky : Nat → Int) (nx pv : Nat → Nat) (fv : Value) (h : Raw w b g cap mb N ky nx pv fv []) (hN : N ≤ 100000) :
    Calls Try.prog 42 #[.pointer (some ⟨b, 0, none⟩)] w fun e w' => e = .returned (.int .i64 (N : Int)) ∧ (∃ g' cap', Raw w' b g' cap' mb (N + 1) (upd ky N 0) (upd nx N 0) (upd pv N 0) fv [] ∧ (g' = g ∨ w.heap.size ≤ g')) ∧ Chg (fun k => k = b ∨ k = g) w w' := by
  obtain ⟨i0, hi, hz0, hz1, hz2⟩ := info_parts infoC
  obtain ⟨A, fcap, rfl⟩ : ∃ A fcap, fv = .slice A 0 fcap := by
    rcases h.free.2 with ⟨rfl, _⟩ | ⟨f, fc, cur, rfl, _⟩
    · exact ⟨_, _, rfl⟩
    · exact ⟨_, _, rfl⟩
  have c0 := h.cell0
  have c1 := h.cell1
  have hrow := h.row
  have hgb := h.gb
  have hbl := h.blk.lt
  have f0 := h.blk.frozen 0
  have HH := hid h
  clear h
  go_enter Try.func42, Try.ntmps42
  go_wp2_with (first
    | (at_builtin
       go_loud (refine wpList_append_own_at _ rfl (.tmp 35) (.tmp 37) 87 rfl 0 103 i0 (.agg #[.int .i64 0, .int .i64 0, .int .i64 0]) 3 24 Try.underlying87 hi hz0 hz1 hz2 rfl (by decide) (.slice (some ⟨g, 0, none⟩) N cap) N (cellsOf enc ky nx pv N) rfl (own_chg hrow ((Chg.refl (fun _ => False) _).alloc _) (fun _ _ h => h)) ⟨w.heap.size, 0, none⟩ 1 1 [.int .i64 0, .int .i64 0, .int .i64 0] rfl rfl (World.news_of_block (cs := #[.int .i64 0, .int .i64 0, .int .i64 0]) (t := 103) (fr := (0, 0)) (heap_alloc_new w _)) (by simp [Value.oneCell']) (by unfold maxLen; omega) (by omega) (Nat.zero_le _) ?_)
       intro v' w1 hown1 hgrow hnil hat
       obtain ⟨g', cap', rfl⟩ := ownsRow_succ hown1
       have hg1 : Chg (fun k => k = g) w w1 := ((Chg.refl _ _).alloc _).trans ((chg_of_grown hgrow).weaken (fun k _ e => by simpa [Value.ownBlock] using e))
       have hb1 := hg1.blk HH.out.blk (fun e => hgb e.symm)
       have d0 : w1.cell? ⟨b, 0, none⟩ = some (.slice (some ⟨g, 0, none⟩) N cap) := by rw [hb1.cell]; rfl
       have g0 := hb1.frozen 0))
  go_ret
  have hst : Chg (fun k => k = b) w1 (w1.setCell ⟨b, 0, none⟩ (.slice (some ⟨g', 0, none⟩) (N + 1) cap')) := (Chg.refl (fun k => k = b) w1).setCell (p := ⟨b, 0, none⟩) rfl _
  have hgb' := own_ne_b hown1 hb1 (by decide)
  have hrow2 : w1.ownsRow 0 103 3 (.slice (some ⟨g', 0, none⟩) (N + 1) cap') (N + 1) (cellsOf enc (upd ky N 0) (upd nx N 0) (upd pv N 0) (N + 1)) := by
    rw [cellsOf_new]
    exact hown1
  refine ⟨rfl, ⟨g', cap', ⟨hb1.set_ 0 _, own_chg hrow2 hst (fun x hx => hgb' x hx), own_chg (own_chg HH.out.free hg1 (fun x hx => HH.out.fg x hx)) hst (fun x hx => HH.out.fb x hx)⟩, ?_⟩, (hg1.weaken (fun k _ e => Or.inr e)).trans (hst.weaken (fun k _ e => Or.inl e))⟩
  rcases hat with h | h
  · simp [Value.ownBlock] at h
    exact Or.inl h
  · simp [Value.ownBlock] at h
    exact Or.inr (by omega)
end Go.Proofs.Ytfkedhclhmbpfaa.LI
end

section
namespace Go.Proofs.Ytfkedhclhmbpfaa.LI
open Go.RowKit Go.Maps
set_option linter.unusedVariables false
set_option linter.unusedSimpArgs false

/-- Of what a list is made. -/
structure Made (w : World) (b : Nat) (F : Nat → Prop) (ks : List Int) (g cap mb N : Nat) (ky : Nat → Int) (nx pv : Nat → Nat) (fv : Value) (ps fr : List Nat) (f : Int → Option Value) : Prop where
  fb : F b
  fg : F g
  fm : F mb
  ff : ∀ x, fv.ownBlock = some x → F x
  raw : Raw w b g cap mb N ky nx pv fv fr
  map : Mp w enc ok mb f ps.length
  at_ : AtF f ps ky
  ring : Ring nx pv ps
  distinct : (0 :: (ps ++ fr)).Nodup
  inside : ∀ p ∈ ps ++ fr, p < N
  count : N = 1 + ps.length + fr.length
  keys : ps.map ky = ks
  few : N ≤ 100000

/-- Block b is a list of the keys ks, the first one first; all that it is made of lies in blocks of F. -/
structure Lst (w : World) (b : Nat) (F : Nat → Prop) (ks : List Int) : Prop where
  ex : ∃ g cap mb N ky nx pv fv ps fr f, Made w b F ks g cap mb N ky nx pv fv ps fr f
  nodup : ks.Nodup
  good : ∀ k ∈ ks, ok k
  lt : ∀ k, F k → k < w.heap.size

section
variable {w w' : World} {b : Nat} {F G : Nat → Prop} {ks : List Int} {g cap mb N : Nat} {ky : Nat → Int} {nx pv : Nat → Nat} {fv : Value} {ps fr : List Nat} {f : Int → Option Value}
theorem Made.chg {S : Nat → Prop} (h : Made w b F ks g cap mb N ky nx pv fv ps fr f) (hc : Chg S w w') (hs : ∀ k, F k → ¬ S k) : Made w' b F ks g cap mb N ky nx pv fv ps fr f :=
  ⟨h.fb, h.fg, h.fm, h.ff, h.raw.chg hc (hs _ h.fb) (hs _ h.fg) (fun x hx => hs _ (h.ff x hx)), h.map.chg hc (hs _ h.fm), h.at_, h.ring, h.distinct, h.inside, h.count, h.keys, h.few⟩
theorem Made.more (h : Made w b F ks g cap mb N ky nx pv fv ps fr f) (hg : ∀ k, F k → G k) : Made w b G ks g cap mb N ky nx pv fv ps fr f :=
  ⟨hg _ h.fb, hg _ h.fg, hg _ h.fm, fun x hx => hg _ (h.ff x hx), h.raw, h.map, h.at_, h.ring, h.distinct, h.inside, h.count, h.keys, h.few⟩
theorem Lst.chg {S : Nat → Prop} (h : Lst w b F ks) (hc : Chg S w w') (hs : ∀ k, F k → ¬ S k) : Lst w' b F ks := by
  obtain ⟨⟨g, cap, mb, N, ky, nx, pv, fv, ps, fr, f, hm⟩, h1, h2, h3⟩ := h
  exact ⟨⟨g, cap, mb, N, ky, nx, pv, fv, ps, fr, f, hm.chg hc hs⟩, h1, h2, fun k hk => Nat.lt_of_lt_of_le (h3 k hk) hc.size⟩
theorem Lst.weaken (h : Lst w b F ks) (hg : ∀ k, F k → G k) (hl : ∀ k, G k → k < w.heap.size) : Lst w b G ks := by
  obtain ⟨⟨g, cap, mb, N, ky, nx, pv, fv, ps, fr, f, hm⟩, h1, h2, h3⟩ := h
  exact ⟨⟨g, cap, mb, N, ky, nx, pv, fv, ps, fr, f, hm.more hg⟩, h1, h2, hl⟩
theorem Made.nd1 (h : Made w b F ks g cap mb N ky nx pv fv ps fr f) : (0 :: ps).Nodup := h.distinct.sublist (List.Sublist.cons_cons 0 (List.sublist_append_left ps fr))
theorem Made.ps_lt (h : Made w b F ks g cap mb N ky nx pv fv ps fr f) : ∀ p ∈ ps, p < N := fun p hp => h.inside p (List.mem_append_left _ hp)
theorem Made.mg (h : Made w b F ks g cap mb N ky nx pv fv ps fr f) : g ≠ mb := own_ne_m h.raw.row h.map g rfl
theorem Made.mf (h : Made w b F ks g cap mb N ky nx pv fv ps fr f) : ∀ x, fv.ownBlock = some x → x ≠ mb := own_ne_m h.raw.free h.map
theorem Made.mbb (h : Made w b F ks g cap mb N ky nx pv fv ps fr f) : b ≠ mb := blk_ne_m h.raw.blk h.map
end

/-- The footprint behind a call: what it was, and what is new. -/
def Ext (F : Nat → Prop) (w w' : World) : Nat → Prop := fun k => F k ∨ w.heap.size ≤ k ∧ k < w'.heap.size

theorem zeroI (w : World) : (zeroValue 3).run Try.prog w = .ok (.int .i64 0) w := by kernel_rfl

theorem Lst.look {w : World} {b : Nat} {F : Nat → Prop} {ks : List Int} {g cap mb N : Nat} {ky : Nat → Int} {nx pv : Nat → Nat} {fv : Value} {ps fr : List Nat} {f : Int → Option Value} (h : Made w b F ks g cap mb N ky nx pv fv ps fr f) {k : Int} (hk : ok k) :
    (Instr.lookup 88 (.map (some mb)) (enc k) true).run Try.prog w = .ok (.tuple #[(f k).getD (.int .i64 0), .bool (f k).isSome]) w := by
  have := h.map.look keyK Try.underlying88 (zeroI w) true hk
  simpa using this

set_option maxHeartbeats 1000000 in
theorem len_any (w : World) (b : Nat) (F : Nat → Prop) (ks : List Int) (h : Lst w b F ks) :
    Calls Try.prog 25 #[.pointer (some ⟨b, 0, none⟩)] w fun e w' => e = .returned (.int .i64 ks.length) ∧ w = w' := by
  obtain ⟨⟨g, cap, mb, N, ky, nx, pv, fv, ps, fr, f, hm⟩, h1, h2, h3⟩ := h
  have c2 := hm.raw.cell2
  have hl := fun ty => hm.map.len_ (P := Try.prog) Try.underlying88 ty
  have hlen : ps.length = ks.length := by rw [← hm.keys, List.length_map]
  rw [hlen] at hl
  clear h1 h2 h3 hm hlen
  go_enter Try.func25, Try.ntmps25
  go_wp2
  go_ret
  exact ⟨rfl, rfl⟩

set_option maxHeartbeats 1000000 in
theorem len_nil (w : World) : Calls Try.prog 25 #[.pointer none] w fun e w' => e = .returned (.int .i64 0) ∧ w = w' := by
  go_enter Try.func25, Try.ntmps25
  go_wp2
  go_ret
  exact ⟨rfl, rfl⟩

set_option maxHeartbeats 1000000 in
theorem use_nil (w : World) (k : Int) : Calls Try.prog 33 #[.pointer none, enc k] w fun e w' => e = .returned (.tuple #[]) ∧ w = w' := by
  go_enter Try.func33, Try.ntmps33
  go_wp2
  exact bodyPost_ret (results_none rfl _ _ _) rfl ⟨rfl, rfl⟩

set_option maxHeartbeats 1000000 in
theorem drop_nil (w : World) (k : Int) : Calls Try.prog 30 #[.pointer none, enc k] w fun e w' => e = .returned (.bool false) ∧ w = w' := by
  go_enter Try.func30, Try.ntmps30
  go_wp2
  go_ret
  exact ⟨rfl, rfl⟩

set_option maxHeartbeats 1000000 in
theorem new_any (w : World) : Calls Try.prog 21 #[] w fun e w' => e = .returned (.pointer (some ⟨w.heap.size + 2, 0, none⟩)) ∧ Lst w' (w.heap.size + 2) (fun k => w.heap.size ≤ k ∧ k < w.heap.size + 3) [] ∧ Chg (fun _ => False) w w' := by
  have hmm := @run_makeMap Try.prog
  have hmk : ∀ w, (Instr.makeSlice 87 (.int .i64 1) (.int .i64 1)).run Try.prog w = .ok (.slice (some ⟨w.heap.size, 0, none⟩) 1 1) (w.alloc (.cells #[.int .i64 0, .int .i64 0, .int .i64 0] 103)) := fun _ => by kernel_rfl
  go_enter Try.func21, Try.ntmps21
  go_wp2
  go_ret
  have r0 : (w.alloc (.cells #[.int .i64 0, .int .i64 0, .int .i64 0] 103)).ownsRow 0 103 3 (.slice (some ⟨w.heap.size, 0, none⟩) 1 1) 1 (cellsOf enc (fun _ => 0) (fun _ => 0) (fun _ => 0) 1) :=
    ⟨by simp [cellsOf], .inr ⟨w.heap.size, 1, #[.int .i64 0, .int .i64 0, .int .i64 0], rfl, Nat.zero_le _, heap_alloc_new w _, by omega, by unfold maxLen; omega, rfl, rfl⟩⟩
  have m0 : Mp ((w.alloc (.cells #[.int .i64 0, .int .i64 0, .int .i64 0] 103)).alloc (.map #[] 0)) enc ok (w.heap.size + 1) (fun _ => none) 0 := by
    have := Mp.made (w.alloc (.cells #[.int .i64 0, .int .i64 0, .int .i64 0] 103)) enc ok
    rwa [World.size_alloc] at this
  have b0 := Blk.new ((w.alloc (.cells #[.int .i64 0, .int .i64 0, .int .i64 0] 103)).alloc (.map #[] 0)) 90 #[.slice (some ⟨w.heap.size, 0, none⟩) 1 1, .slice none 0 0, .map (some (w.heap.size + 1))]
  rw [World.size_alloc, World.size_alloc] at b0
  have ch := fun (v : World) (o : Obj) => (Chg.refl (fun _ => False) v).alloc o
  refine ⟨rfl, ⟨⟨w.heap.size, 1, w.heap.size + 1, 1, fun _ => 0, fun _ => 0, fun _ => 0, .slice none 0 0, [], [], fun _ => none, ⟨⟨by omega, by omega⟩, ⟨by omega, by omega⟩, ⟨by omega, by omega⟩, by simp [Value.ownBlock], ⟨b0, own_chg (own_chg r0 (ch _ _) (fun _ _ h => h)) (ch _ _) (fun _ _ h => h), World.ownsRow_nil _ _ _ _⟩, m0.chg (ch _ _) (fun h => h), at_start _, ring_start, by simp, by simp, rfl, rfl, by omega⟩⟩, by simp, by simp, ?_⟩, ((ch w _).alloc _).alloc _⟩
  intro k hk
  simp
  omega

/-- A list behind place: a place i that is free. -/
structure Placed (w : World) (b : Nat) (F : Nat → Prop) (ks : List Int) (i g cap mb N : Nat) (ky : Nat → Int) (nx pv : Nat → Nat) (fv : Value) (ps fr : List Nat) (f : Int → Option Value) : Prop where
  fb : F b
  fg : F g
  fm : F mb
  ff : ∀ x, fv.ownBlock = some x → F x
  raw : Raw w b g cap mb N ky nx pv fv fr
  map : Mp w enc ok mb f ps.length
  at_ : AtF f ps ky
  ring : Ring nx pv ps
  distinct : (0 :: (i :: ps ++ fr)).Nodup
  inside : ∀ p ∈ i :: ps ++ fr, p < N
  count : N = 1 + (ps.length + 1) + fr.length
  keys : ps.map ky = ks
  few : N ≤ 100000
def PlacedAt (w : World) (b : Nat) (F : Nat → Prop) (ks : List Int) (e : Ending) (w' : World) : Prop :=
  ∃ i g cap mb N ky nx pv fv ps fr f, e = .returned (.int .i64 (i : Nat)) ∧ Placed w' b (Ext F w w') ks i g cap mb N ky nx pv fv ps fr f ∧ Chg F w w'

theorem place_any (w : World) (b : Nat) (F : Nat → Prop) (ks : List Int) (h : Lst w b F ks) (hl : ks.length ≤ 99990) :
    Calls Try.prog 42 #[.pointer (some ⟨b, 0, none⟩)] w (PlacedAt w b F ks) := by
  obtain ⟨⟨g, cap, mb, N, ky, nx, pv, fv, ps, fr, f, hm⟩, h1, h2, h3⟩ := h
  have hlen : ps.length = ks.length := by rw [← hm.keys, List.length_map]
  have hcount := hm.count
  rcases List.eq_nil_or_concat fr with rfl | ⟨fr', i, rfl⟩
  · refine (place_new w b g cap mb N ky nx pv fv hm.raw hm.few).mono ?_
    rintro e w' ⟨he, ⟨g', cap', hr, hg⟩, hc⟩
    have hcF : Chg F w w' := hc.weaken (fun k _ hk => by rcases hk with rfl | rfl; exact hm.fb; exact hm.fg)
    have hNi : N ∉ 0 :: ps := by
      intro hmem
      rcases List.mem_cons.1 hmem with h0 | hp
      · omega
      · have := hm.ps_lt N hp
        omega
    have hNp : N ∉ ps := fun hp => hNi (List.mem_cons_of_mem _ hp)
    refine ⟨N, g', cap', mb, N + 1, _, _, _, fv, ps, [], f, he, ⟨Or.inl hm.fb, ?_, Or.inl hm.fm, fun x hx => Or.inl (hm.ff x hx), hr, hm.map.chg hc (fun hk => by rcases hk with hk | hk; exact hm.mbb hk.symm; exact hm.mg hk.symm), at_upd hm.at_ hNp _, ring_upd hm.ring hNi _ _, ?_, ?_, by simp only [List.length_nil] at hcount ⊢; omega, by rw [map_upd hNp]; exact hm.keys, by simp only [List.length_nil] at hcount; omega⟩, hcF⟩
    · rcases hg with rfl | hg
      · exact Or.inl hm.fg
      · exact Or.inr ⟨hg, own_lt hr.row⟩
    · have hd := hm.distinct
      rw [List.append_nil] at hd ⊢
      obtain ⟨hd1, hd2⟩ := List.nodup_cons.1 hd
      refine List.nodup_cons.2 ⟨?_, List.nodup_cons.2 ⟨hNp, hd2⟩⟩
      intro h0
      rcases List.mem_cons.1 h0 with h0 | h0
      · omega
      · exact hd1 h0
    · intro p hp
      rw [List.append_nil] at hp
      rcases List.mem_cons.1 hp with rfl | hp
      · omega
      · have := hm.ps_lt p hp
        omega
  · rw [List.concat_eq_append] at hm hcount
    rw [List.length_append] at hcount
    simp only [List.length_cons, List.length_nil] at hcount
    have hraw := hm.raw
    refine (place_free w b g cap mb N i ky nx pv fv fr' hraw (by have := hm.few; omega)).mono ?_
    rintro e w' ⟨he, ⟨fv', hr, hf⟩, hc⟩
    have hcF : Chg F w w' := hc.weaken (fun k _ hk => by rw [hk]; exact hm.fb)
    have hperm : (0 :: (ps ++ (fr' ++ [i]))).Perm (0 :: (i :: ps ++ fr')) := by
      refine List.Perm.cons 0 ?_
      rw [← List.append_assoc]
      exact List.perm_append_singleton i (ps ++ fr')
    refine ⟨i, g, cap, mb, N, _, _, _, fv', ps, fr', f, he, ⟨Or.inl hm.fb, Or.inl hm.fg, Or.inl hm.fm, fun x hx => Or.inl (hm.ff x (hf ▸ hx)), hr, hm.map.chg hc (fun hk => hm.mbb hk.symm), hm.at_, hm.ring, hperm.nodup_iff.1 hm.distinct, ?_, by omega, hm.keys, hm.few⟩, hcF⟩
    intro p hp
    refine hm.inside p ?_
    have := (hperm.mem_iff (a := p)).2 (List.mem_cons_of_mem _ hp)
    rcases List.mem_cons.1 this with rfl | h
    · have hd := hperm.nodup_iff.1 hm.distinct
      exact absurd hp (List.nodup_cons.1 hd).1
    · exact h
end Go.Proofs.Ytfkedhclhmbpfaa.LI
end

section
namespace Go.Proofs.Ytfkedhclhmbpfaa.LI
open Go.RowKit Go.Maps
set_option linter.unusedVariables false
set_option linter.unusedSimpArgs false

section
variable {w w' : World} {b : Nat} {F G : Nat → Prop} {ks : List Int} {g cap mb N : Nat} {ky : Nat → Int} {nx pv : Nat → Nat} {fv : Value} {ps fr : List Nat} {f : Int → Option Value}
theorem Made.keys_idx (h : Made w b F ks g cap mb N ky nx pv fv ps fr f) (hn : ks.Nodup) {t : Nat} (ht : t < ps.length) {k : Int} (hk : ky ps[t] = k) : (ps.eraseIdx t).map ky = dropL ks k := by
  have hlen : ps.length = ks.length := by rw [← h.keys, List.length_map]
  have hkt : ks[t]'(by omega) = k := by
    have h2 := h.keys
    subst h2
    rw [List.getElem_map]
    exact hk
  rw [map_eraseIdx', h.keys, ← hkt, dropL_idx hn]
theorem Made.links (h : Made w b F ks g cap mb N ky nx pv fv ps fr f) {t : Nat} (ht : t < ps.length) : ps[t] < N ∧ nx ps[t] < N ∧ pv ps[t] < N ∧ 0 < N ∧ ps[t] ≠ 0 ∧ ps[t] ∉ 0 :: ps.eraseIdx t := by
  obtain ⟨h1, h2, _⟩ := ring_out h.ring h.nd1 ht
  have hN : 0 < N := by have := h.count; omega
  have h0 : ps[t] ≠ 0 := fun e => (List.nodup_cons.1 h.nd1).1 (e ▸ List.getElem_mem ht)
  refine ⟨h.ps_lt _ (List.getElem_mem ht), by rw [h1]; exact rg_lt hN h.ps_lt _, by rw [h2]; exact rg_lt hN h.ps_lt _, hN, h0, ?_⟩
  intro hm
  rcases List.mem_cons.1 hm with hm | hm
  · exact h0 hm
  · exact not_mem_eraseIdx (List.nodup_cons.1 h.nd1).2 ht hm
end

set_option maxHeartbeats 1000000 in
theorem use_old (w : World) (b : Nat) (F : Nat → Prop) (ks : List Int) (k : Int) (h : Lst w b F ks) (hk : k ∈ ks) :
    Calls Try.prog 33 #[.pointer (some ⟨b, 0, none⟩), enc k] w fun e w' => e = .returned (.tuple #[]) ∧ Lst w' b (Ext F w w') (useL ks k) ∧ Chg F w w' := by
  obtain ⟨⟨g, cap, mb, N, ky, nx, pv, fv, ps, fr, f, hm⟩, h1, h2, h3⟩ := h
  have hok := h2 k hk
  have hl := Lst.look hm hok
  obtain ⟨t, ht, hkt, hft⟩ := at_some hm.at_ (k := k) (by rw [hm.keys]; exact hk)
  rw [hft] at hl
  have c2 := hm.raw.cell2
  obtain ⟨l1, l2, l3, l4, l5, l6⟩ := hm.links ht
  obtain ⟨_, _, hring1⟩ := ring_out hm.ring hm.nd1 ht
  obtain ⟨i, hi⟩ : ∃ i, i = ps[t] := ⟨_, rfl⟩
  rw [← hi] at hl l1 l2 l3 l5 l6 hring1 hkt
  simp only [Option.getD_some, Option.isSome_some] at hl
  have HM := hid hm
  have HI := hid hi
  have H1 := hid h1
  have H2 := hid h2
  have H3 := hid h3
  have HKT := hid hkt
  have HR := hid hring1
  have hfew := hm.few
  have HL6 := hid l6
  clear hm hi h1 h2 h3 hkt hft hring1 l6 hk hok
  go_enter Try.func33, Try.ntmps33
  go_wp2_with fail
  refine (out_any _ b g cap mb N i ky nx pv fv fr HM.out.raw hfew l1 l2 l3).mono ?_
  rintro e w1 ⟨rfl, r1, g1⟩
  have HR1 := hid r1
  clear r1 hl c2
  go_wp2_with fail
  have hnd : (0 :: ps.eraseIdx t).Nodup := HM.out.nd1.sublist (List.Sublist.cons_cons 0 (List.eraseIdx_sublist _ _))
  have hpl : ∀ p ∈ ps.eraseIdx t, p < N := fun p hp => HM.out.ps_lt p ((List.eraseIdx_sublist _ _).subset hp)
  obtain ⟨hf0, hring2⟩ := ring_front HR.out hnd HL6.out
  have hfl : (upd nx (pv i) (nx i)) 0 < N := by rw [hf0]; exact rg_lt l4 hpl _
  have hfi : i ≠ (upd nx (pv i) (nx i)) 0 := by rw [hf0]; exact fun e => rg_ne HL6.out 1 e.symm
  refine (front_any _ b g cap mb N i ky _ _ fv fr HR1.out hfew l1 hfl hfi l5).mono ?_
  rintro e w2 ⟨rfl, r2, g2⟩
  have HR2 := hid r2
  have HRI2 := hid hring2
  clear r2 hring2 hf0 hfl hfi hnd hpl
  go_wp2_with fail
  go_end0
  have hm := HM.out
  have hcG : Chg (fun k => k = g) w w2 := g1.trans g2
  have hcF : Chg F w w2 := hcG.weaken (fun k _ e => by rw [e]; exact hm.fg)
  have hie : i :: ps.eraseIdx t = ps[t] :: ps.eraseIdx t := by rw [HI.out]
  have hperm : ∀ p, p ∈ i :: ps.eraseIdx t ↔ p ∈ ps := fun p => by rw [hie]; exact mem_move ht p
  have hpp : (i :: ps.eraseIdx t).Perm ps := by
    rw [hie]
    exact perm_move ht
  refine ⟨rfl, ⟨⟨g, cap, mb, N, ky, _, _, fv, i :: ps.eraseIdx t, fr, f, ⟨Or.inl hm.fb, Or.inl hm.fg, Or.inl hm.fm, fun x hx => Or.inl (hm.ff x hx), HR2.out, ?_, ?_, HRI2.out, ?_, ?_, ?_, ?_, hfew⟩⟩, useL_nodup H1.out k, ?_, ?_⟩, hcF⟩
  · rw [hpp.length_eq]
    exact hm.map.chg hcG (fun e => hm.mg e.symm)
  · rw [hie]
    exact at_move hm.at_ ht
  · exact ((hpp.append_right fr).cons 0).nodup_iff.2 hm.distinct
  · intro p hp
    refine hm.inside p ?_
    rcases List.mem_append.1 hp with hp | hp
    · exact List.mem_append_left _ ((hperm p).1 hp)
    · exact List.mem_append_right _ hp
  · rw [hpp.length_eq]
    exact hm.count
  · rw [List.map_cons, HKT.out, hm.keys_idx H1.out ht (k := k) (by rw [← HI.out]; exact HKT.out)]
    rfl
  · intro x hx
    rcases useL_mem.1 hx with rfl | hx
    · refine H2.out _ ?_
      rw [← hm.keys, ← HKT.out]
      exact List.mem_map.2 ⟨i, by rw [HI.out]; exact List.getElem_mem _, rfl⟩
    · exact H2.out x hx
  · intro x hx
    rcases hx with hx | hx
    · exact Nat.lt_of_lt_of_le (H3.out x hx) hcF.size
    · exact hx.2

set_option maxHeartbeats 1000000 in
theorem use_new (w : World) (b : Nat) (F : Nat → Prop) (ks : List Int) (k : Int) (h : Lst w b F ks) (hk : k ∉ ks) (hok : ok k) (hlen : ks.length ≤ 99990) :
    Calls Try.prog 33 #[.pointer (some ⟨b, 0, none⟩), enc k] w fun e w' => e = .returned (.tuple #[]) ∧ Lst w' b (Ext F w w') (useL ks k) ∧ Chg F w w' := by
  have HL := hid h
  obtain ⟨⟨g, cap, mb, N, ky, nx, pv, fv, ps, fr, f, hm⟩, h1, h2, h3⟩ := h
  have hl := Lst.look hm hok
  rw [at_none hm.at_ (k := k) (by rw [hm.keys]; exact hk)] at hl
  simp only [Option.getD_none, Option.isSome_none] at hl
  have c2 := hm.raw.cell2
  have H1 := hid h1
  have H2 := hid h2
  have H3 := hid h3
  have HK := hid hk
  have HOK := hid hok
  clear hm h1 h2 h3 hk hok
  go_enter Try.func33, Try.ntmps33
  go_wp2_with fail
  refine (place_any w b F ks HL.out hlen).mono ?_
  rintro e w1 ⟨i, g1, cap1, mb1, N1, ky1, nx1, pv1, fv1, ps1, fr1, f1, rfl, hp, hc1⟩
  have d0 := hp.raw.cell0
  have hi : i < N1 := hp.inside i (by simp)
  have hfew := hp.few
  have d1 := hp.raw.key hi
  have k1 := own_frozen hp.raw.row (i * 3)
  have d2 := hp.raw.cell2
  have hgb := hp.raw.gb
  have HP := hid hp
  have hset := hp.raw.set (i * 3) (enc k) (cellsOf_ky enc ky1 nx1 pv1 hi k)
  have hst : Chg (fun k => k = g1) w1 (w1.setCell ⟨g1, i * 3, none⟩ (enc k)) := (Chg.refl (fun k => k = g1) w1).setCell (p := ⟨g1, i * 3, none⟩) rfl _
  obtain ⟨w2, hrun, hm2, hg2, hz2⟩ := (hp.map.chg hst (fun e => own_ne_m hp.raw.row hp.map g1 rfl e.symm)).store keyK Try.underlying88 HOK.out (.int .i64 (i : Int))
  have hknot : f1 k = none := at_none hp.at_ (by rw [hp.keys]; exact HK.out)
  rw [hknot] at hm2
  simp only [Option.isSome_none] at hm2
  have hraw2 := hset.chg hg2 (fun e => blk_ne_m hp.raw.blk hp.map e) (fun e => own_ne_m hp.raw.row hp.map g1 rfl e) (fun x hx e => own_ne_m hp.raw.free hp.map x hx e)
  have HR2 := hid hraw2
  have HM2 := hid hm2
  have HST := hid hst
  have HG2 := hid hg2
  have HC1 := hid hc1
  clear hp hset hst hm2 hg2 hz2 hknot hraw2 hc1 hl c2
  go_wp2_with fail
  have hp := HP.out
  have hnd : (0 :: ps1).Nodup := by
    have := hp.distinct
    exact this.sublist (List.Sublist.cons_cons 0 ((List.sublist_cons_self i ps1).trans (List.sublist_append_left _ fr1)))
  have hi2 : i ∉ 0 :: ps1 := by
    intro hmem
    have hd := hp.distinct
    obtain ⟨hd1, hd2⟩ := List.nodup_cons.1 hd
    rcases List.mem_cons.1 hmem with e | hmem
    · exact hd1 (by rw [← e]; simp)
    · rw [List.cons_append] at hd2
      exact (List.nodup_cons.1 hd2).1 (List.mem_append_left _ hmem)
  have hi0 : i ≠ 0 := fun e => hi2 (by simp [e])
  obtain ⟨hf0, hring2⟩ := ring_front hp.ring hnd hi2
  have hfl : nx1 0 < N1 := by rw [hf0]; exact rg_lt (by omega) (fun p hp' => hp.inside p (by simp [hp'])) _
  have hfi : i ≠ nx1 0 := by rw [hf0]; exact fun e => rg_ne hi2 1 e.symm
  refine (front_any _ b g1 cap1 mb1 N1 i _ _ _ fv1 fr1 HR2.out hfew hi hfl hfi hi0).mono ?_
  rintro e w3 ⟨rfl, r3, g3⟩
  have HR3 := hid r3
  have HRI3 := hid hring2
  have HI2 := hid hi2
  clear r3 hring2 hf0 hfl hfi hnd hp hi2
  go_wp2_with fail
  go_end0
  have hp := HP.out
  have hsub : ∀ k, Ext F w w1 k → Ext F w w3 k := fun k hk => by
    rcases hk with hk | hk
    · exact Or.inl hk
    · have := ((HST.out.weaken (S' := fun _ => True) (fun _ _ _ => trivial)).trans (HG2.out.weaken (fun _ _ _ => trivial))).trans (g3.weaken (fun _ _ _ => trivial))
      have hz := this.size
      exact Or.inr ⟨hk.1, by omega⟩
  have hcF : Chg F w w3 := by
    refine ((HC1.out.into HST.out ?_).into HG2.out ?_).into g3 ?_
    · intro k hk e
      rcases hp.fg with h | h
      · rw [e]; exact h
      · omega
    · intro k hk e
      rcases hp.fm with h | h
      · rw [e]; exact h
      · omega
    · intro k hk e
      rcases hp.fg with h | h
      · rw [e]; exact h
      · omega
  have hip : i ∉ ps1 := fun h => HI2.out (List.mem_cons_of_mem _ h)
  refine ⟨rfl, ⟨⟨g1, cap1, mb1, N1, _, _, _, fv1, i :: ps1, fr1, _, ⟨hsub _ hp.fb, hsub _ hp.fg, hsub _ hp.fm, fun x hx => hsub _ (hp.ff x hx), HR3.out, HM2.out.chg g3 (fun e => own_ne_m hp.raw.row hp.map g1 rfl e.symm), at_put hp.at_ hip (by rw [hp.keys]; exact HK.out), HRI3.out, hp.distinct, hp.inside, ?_, ?_, hfew⟩⟩, useL_nodup H1.out k, ?_, ?_⟩, hcF⟩
  · rw [hp.count]
    simp
  · rw [List.map_cons, upd_same, map_upd hip, hp.keys]
    unfold useL
    rw [dropL_none HK.out]
  · intro x hx
    rcases useL_mem.1 hx with rfl | hx
    · exact HOK.out
    · exact H2.out x hx
  · intro x hx
    rcases hx with hx | hx
    · exact Nat.lt_of_lt_of_le (H3.out x hx) hcF.size
    · exact hx.2

theorem use_any (w : World) (b : Nat) (F : Nat → Prop) (ks : List Int) (k : Int) (h : Lst w b F ks) (hok : ok k) (hlen : ks.length ≤ 99990) :
    Calls Try.prog 33 #[.pointer (some ⟨b, 0, none⟩), enc k] w fun e w' => e = .returned (.tuple #[]) ∧ Lst w' b (Ext F w w') (useL ks k) ∧ Chg F w w' := by
  by_cases hk : k ∈ ks
  · exact use_old w b F ks k h hk
  · exact use_new w b F ks k h hk hok hlen
end Go.Proofs.Ytfkedhclhmbpfaa.LI
end

section
namespace Go.Proofs.Ytfkedhclhmbpfaa.LI
open Go.RowKit Go.Maps
set_option linter.unusedVariables false
set_option linter.unusedSimpArgs false

theorem infoI : (Try.prog.info? 3).map (fun i => (i.zero, i.size, i.bytes)) = some (some (.int .i64 0), 1, 8) := by kernel_rfl

set_option maxHeartbeats 1000000 in
theorem drop_none (w : World) (b : Nat) (F : Nat → Prop) (ks : List Int) (k : Int) (h : Lst w b F ks) (hk : k ∉ ks) (hok : ok k) :
    Calls Try.prog 30 #[.pointer (some ⟨b, 0, none⟩), enc k] w fun e w' => e = .returned (.bool false) ∧ w = w' := by
  obtain ⟨⟨g, cap, mb, N, ky, nx, pv, fv, ps, fr, f, hm⟩, h1, h2, h3⟩ := h
  have hl := Lst.look hm hok
  rw [at_none hm.at_ (k := k) (by rw [hm.keys]; exact hk)] at hl
  simp only [Option.getD_none, Option.isSome_none] at hl
  have c2 := hm.raw.cell2
  clear hm h1 h2 h3 hk hok
  go_enter Try.func30, Try.ntmps30
  go_wp2
  go_ret
  exact ⟨rfl, rfl⟩

set_option maxHeartbeats 1000000 in
theorem drop_some (w : World) (b : Nat) (F : Nat → Prop) (ks : List Int) (k : Int) (h : Lst w b F ks) (hk : k ∈ ks) :
    Calls Try.prog 30 #[.pointer (some ⟨b, 0, none⟩), enc k] w fun e w' => e = .returned (.bool true) ∧ Lst w' b (Ext F w w') (dropL ks k) ∧ Chg F w w' := by
  obtain ⟨i0, hi0, hz0, hz1, hz2⟩ := info_parts infoI
  obtain ⟨⟨g, cap, mb, N, ky, nx, pv, fv, ps, fr, f, hm⟩, h1, h2, h3⟩ := h
  have hok := h2 k hk
  have hl := Lst.look hm hok
  obtain ⟨t, ht, hkt, hft⟩ := at_some hm.at_ (k := k) (by rw [hm.keys]; exact hk)
  rw [hft] at hl
  have c2 := hm.raw.cell2
  obtain ⟨l1, l2, l3, l4, l5, l6⟩ := hm.links ht
  obtain ⟨_, _, hring1⟩ := ring_out hm.ring hm.nd1 ht
  obtain ⟨i, hi⟩ : ∃ i, i = ps[t] := ⟨_, rfl⟩
  rw [← hi] at hl l1 l2 l3 l5 l6 hring1 hkt
  simp only [Option.getD_some, Option.isSome_some] at hl
  have HM := hid hm
  have HI := hid hi
  have H1 := hid h1
  have H2 := hid h2
  have H3 := hid h3
  have HKT := hid hkt
  have HFT := hid hft
  have HR := hid hring1
  have hfew := hm.few
  have hfrl : fr.length ≤ 100000 := by have := hm.count; omega
  have HL6 := hid l6
  have HOK := hid hok
  clear hm hi h1 h2 h3 hkt hft hring1 l6 hk hok
  go_enter Try.func30, Try.ntmps30
  go_wp2_with fail
  refine (out_any _ b g cap mb N i ky nx pv fv fr HM.out.raw hfew l1 l2 l3).mono ?_
  rintro e w1 ⟨rfl, r1, g1⟩
  have d0 := r1.cell0
  have d1 := r1.cell1
  have d2 := r1.cell2
  have q0 := r1.key l1
  have q1 := r1.next l1
  have q2 := r1.prev l1
  have f0 := own_frozen r1.row (i * 3)
  have f1 := own_frozen r1.row (i * 3 + 1)
  have f2 := own_frozen r1.row (i * 3 + 2)
  have hgb := r1.gb
  have hraw := (((r1.set (i * 3) (.int .i64 0) (cellsOf_ky enc ky _ _ l1 0)).set (i * 3 + 1) (.int .i64 0) (by simpa using cellsOf_nx enc _ _ _ l1 0)).set (i * 3 + 2) (.int .i64 0) (by simpa using cellsOf_pv enc _ _ _ l1 0))
  have HR1 := hid hraw
  have hbl := r1.blk.lt
  have hgl := own_lt r1.row
  have f3 := r1.blk.frozen 1
  clear r1 hl c2 hraw
  go_wp2_with (first
    | (at_builtin
       refine wpList_append_own_at _ rfl (.tmp 34) (.tmp 36) 41 rfl 0 3 i0 (.int .i64 0) 1 8 Try.underlying41 hi0 hz0 hz1 hz2 rfl (by decide) fv fr.length (fr.map fun i : Nat => Value.int .i64 (i : Int)) rfl (own_chg HR1.out.free ((Chg.refl (fun _ => False) _).alloc _) (fun _ _ h => h)) ⟨w1.heap.size, 0, none⟩ 1 1 [.int .i64 (i : Int)] rfl rfl (news1 _ _ _ _ (by simp [World.setCell])) (by simp [Value.oneCell']) (by unfold maxLen; omega) (by omega) (Nat.zero_le _) ?_
       intro v' w2 hown1 hgrow hnil hat
       obtain ⟨fb', fcap', rfl⟩ := ownsRow_succ hown1
       have hgw : Chg (fun x => some x = fv.ownBlock) _ w2 := ((Chg.refl (fun x => some x = fv.ownBlock) _).alloc _).trans (chg_of_grown hgrow)
       have hb2 := hgw.blk HR1.out.blk (fun e => HR1.out.fb b e.symm rfl)
       have hst : Chg (fun x => x = b) w2 (w2.setCell ⟨b, 1, none⟩ (.slice (some ⟨fb', 0, none⟩) (fr.length + 1) fcap')) := (Chg.refl (fun x => x = b) w2).setCell (p := ⟨b, 1, none⟩) rfl _
       have hW : Chg (fun x => x = g) w1 _ := ((((Chg.refl (fun x => x = g) w1).setCell (p := ⟨g, i * 3, none⟩) rfl (.int .i64 0)).setCell (p := ⟨g, i * 3 + 1, none⟩) rfl (.int .i64 0)).setCell (p := ⟨g, i * 3 + 2, none⟩) rfl (.int .i64 0))
       have hm3 := (((HM.out.map.chg (g1.trans hW) (fun e => HM.out.mg e.symm)).chg hgw (fun e => HM.out.mf mb e.symm rfl)).chg hst (fun e => HM.out.mbb e.symm))
       obtain ⟨w4, hrun, hm4, hg4, hz4⟩ := hm3.del keyK Try.underlying88 HOK.out
       rw [HFT.out] at hm4
       simp only [Option.isSome_some, if_true] at hm4
       have hgr := hgrow.size
       have hraw4 : Raw w4 b g cap mb N (upd ky i (0)) (upd (upd nx (pv i) (nx i)) i 0) (upd (upd pv (nx i) (pv i)) i 0) (.slice (some ⟨fb', 0, none⟩) (fr.length + 1) fcap') (fr ++ [i]) := by
         have hlen : (fr ++ [i]).length = fr.length + 1 := by simp
         have hr3 : Raw (w2.setCell ⟨b, 1, none⟩ (.slice (some ⟨fb', 0, none⟩) (fr.length + 1) fcap')) b g cap mb N (upd ky i (0)) (upd (upd nx (pv i) (nx i)) i 0) (upd (upd pv (nx i) (pv i)) i 0) (.slice (some ⟨fb', 0, none⟩) (fr.length + 1) fcap') (fr ++ [i]) :=
           ⟨hb2.set_ 1 _, own_chg (own_chg HR1.out.row hgw (fun x hx e => by simp [Value.ownBlock] at hx; subst hx; exact HR1.out.fg g e.symm rfl)) hst (fun x hx e => by simp [Value.ownBlock] at hx; subst hx; exact hgb e), by rw [hlen, List.map_append]; exact own_chg hown1 hst (fun x hx e => own_ne_b hown1 hb2 (by decide) x hx e)⟩
         exact hr3.chg hg4 (fun e => HM.out.mbb e) (fun e => HM.out.mg e) (fun x hx e => own_ne_m hr3.free hm3 x hx e)
       have HR4 := hid hraw4
       have HM4 := hid hm4
       have HAT := hid hat
       have HF1 : Hid (Chg F w w2) := (((g1.trans hW).weaken (fun x _ e => by rw [e]; exact HM.out.fg)).trans (hgw.weaken (fun x _ e => HM.out.ff x e.symm)))
       have HF2 : Hid (Chg F w2 w4) := (hst.weaken (S' := F) (fun x _ e => by rw [e]; exact HM.out.fb)).trans (hg4.weaken (fun x _ e => by rw [e]; exact HM.out.fm))
       have e0 : w2.cell? ⟨b, 0, none⟩ = some (.slice (some ⟨g, 0, none⟩) N cap) := by rw [hb2.cell]; rfl
       have e1 : w2.cell? ⟨b, 1, none⟩ = some fv := by rw [hb2.cell]; rfl
       have e2 : w2.cell? ⟨b, 2, none⟩ = some (.map (some mb)) := by rw [hb2.cell]; rfl
       have k1 := hb2.frozen 1
       have hsW : w1.heap.size ≤ w2.heap.size := Nat.le_trans hW.size hgw.size
       clear hown1 hgrow hnil hat hgw hb2 hst hW hm3 hm4 hg4 hz4 hraw4))
  go_ret
  have hm := HM.out
  have hcF : Chg F w w4 := HF1.out.trans HF2.out
  have hr4 := HR4.out
  have hlt4 := hr4.free.lt fb' (by simp [Value.ownBlock])
  have hlen : (ps.eraseIdx t).length + 1 = ps.length := by rw [List.length_eraseIdx_of_lt ht]; omega
  have hpp : (i :: ps.eraseIdx t).Perm ps := by rw [HI.out]; exact perm_move ht
  refine ⟨rfl, ⟨⟨g, cap, mb, N, _, _, _, _, ps.eraseIdx t, fr ++ [i], delF f k, ⟨Or.inl hm.fb, Or.inl hm.fg, Or.inl hm.fm, ?_, hr4, ?_, ?_, ?_, ?_, ?_, ?_, ?_, hfew⟩⟩, dropL_nodup H1.out k, ?_, ?_⟩, hcF⟩
  · intro x hx
    rcases HAT.out with h | h
    · exact Or.inl (hm.ff x (h ▸ hx))
    · rw [h] at hx
      simp at hx
      have := hr4.free.lt x (by rw [h]; simpa using hx)
      have h1 := g1.size
      exact Or.inr ⟨by omega, this.2⟩
  · rw [show (ps.eraseIdx t).length = ps.length - 1 by omega]
    exact HM4.out
  · rw [← HKT.out, HI.out]
    exact at_del hm.at_ (List.nodup_cons.1 hm.nd1).2 (by rw [hm.keys]; exact H1.out) ht _
  · exact ring_upd HR.out HL6.out _ _
  · refine List.Perm.nodup_iff ?_ |>.1 hm.distinct
    refine List.Perm.cons 0 ?_
    refine (hpp.symm.append_right fr).trans ?_
    rw [List.cons_append, ← List.append_assoc]
    exact (List.perm_append_singleton i _).symm
  · intro p hp
    rw [← List.append_assoc] at hp
    rcases List.mem_append.1 hp with hp | hp
    · refine hm.inside p ?_
      rcases List.mem_append.1 hp with hp | hp
      · exact List.mem_append_left _ ((List.eraseIdx_sublist _ _).subset hp)
      · exact List.mem_append_right _ hp
    · simp at hp
      subst hp
      exact l1
  · have := hm.count
    rw [List.length_append]
    simp only [List.length_cons, List.length_nil]
    omega
  · rw [map_upd (by rw [HI.out]; exact not_mem_eraseIdx (List.nodup_cons.1 hm.nd1).2 ht), hm.keys_idx H1.out ht (k := k) (by rw [← HI.out]; exact HKT.out)]
  · intro x hx
    exact H2.out x (dropL_mem.1 hx).1
  · intro x hx
    rcases hx with hx | hx
    · exact Nat.lt_of_lt_of_le (H3.out x hx) hcF.size
    · exact hx.2
end Go.Proofs.Ytfkedhclhmbpfaa.LI
end

section
namespace Go.Proofs.Ytfkedhclhmbpfaa.LI
open Go.RowKit Go.Maps Go.Shelf
set_option linter.unusedVariables false
set_option linter.unusedSimpArgs false
attribute [local go_sem] Oper.semAt_some

section
variable {w w' : World} {b : Nat} {F G : Nat → Prop} {ks : List Int} {g cap mb N : Nat} {ky : Nat → Int} {nx pv : Nat → Nat} {fv : Value} {ps fr : List Nat} {f : Int → Option Value}
theorem Made.rgN (h : Made w b F ks g cap mb N ky nx pv fv ps fr f) (j : Nat) : rg ps j < N := rg_lt (by have := h.count; omega) h.ps_lt j
theorem Made.len (h : Made w b F ks g cap mb N ky nx pv fv ps fr f) : ps.length = ks.length := by rw [← h.keys, List.length_map]
theorem Made.step (h : Made w b F ks g cap mb N ky nx pv fv ps fr f) {j : Nat} (hj : j < ps.length) : pv (rg ps (j + 1)) = rg ps j := (h.ring j (by omega)).2
theorem Made.last (h : Made w b F ks g cap mb N ky nx pv fv ps fr f) : pv 0 = rg ps ps.length := by
  have := (h.ring ps.length (Nat.le_refl _)).2
  rwa [rg_end] at this
theorem Made.nz (h : Made w b F ks g cap mb N ky nx pv fv ps fr f) {j : Nat} (hj : j < ps.length) : rg ps (j + 1) ≠ 0 := by
  rw [rg_at hj]
  exact fun e => (List.nodup_cons.1 h.nd1).1 (e ▸ List.getElem_mem hj)
theorem Made.rkey (h : Made w b F ks g cap mb N ky nx pv fv ps fr f) {j : Nat} (hj : j < ps.length) : ks.reverse.take (ks.length - j) = ks.reverse.take (ks.length - (j + 1)) ++ [ky (rg ps (j + 1))] := by
  have hl := h.len
  have hjr : ks.length - (j + 1) < ks.reverse.length := by rw [List.length_reverse]; omega
  rw [show ks.length - j = (ks.length - (j + 1)) + 1 by omega, List.take_succ_eq_append_getElem hjr]
  congr 2
  rw [List.getElem_reverse, rg_at hj]
  have h2 := h.keys
  subst h2
  rw [List.getElem_map]
  congr 2
  simp only [List.length_map]
  omega
end

/-- What a round keeps: the blocks of G. -/
def Kp (G : Nat → Prop) (W W' : World) : Prop := Chg (fun k => ¬ G k) W W'
theorem Kp.t {G : Nat → Prop} {A B C : World} (h : Kp G A B) (k : Kp G B C) : Kp G A C := Chg.trans h k
theorem Kp.b {G : Nat → Prop} {w : World} (hG : ∀ k, G k → k < w.heap.size) (W : World) (l : Nat) (o o' : Obj) (hl : w.heap.size ≤ l) (h : W.heap[l]? = some o) (_ : o.isCells = false) (_ : o.isWalk = false) : Kp G W (W.putObj l o') := by
  have hg := grownBy_putObj' W l o'
  exact ⟨hg.os, hg.tape, hg.output, hg.size, fun k hk hn => hg.block k hk (fun e => by cases e; exact hn (fun hGk => by have := hG _ hGk; omega))⟩

set_option maxRecDepth 100000 in
set_option maxHeartbeats 2000000 in
theorem back1_in (Fc : Fence) (n : Nat) (h7 : Fc.fn 49) (hro : Fc.round = none) (hn : 1 ≤ n) (l Bn b : Nat) (F G : Nat → Prop) (ks : List Int) (g cap mb N : Nat) (ky : Nat → Int) (nx pv : Nat → Nat) (fv : Value) (ps fr : List Nat) (f : Int → Option Value)
    (hGF : ∀ k, F k → G k) (hGB : G Bn) (J Jx : List Int → World → Prop)
    (hY : ∀ pre x W, x ∈ ks → J pre W → pre.length < ks.length → YieldAt Fc (n - 1) Try.prog l #[enc x] W fun e W' =>
      (e = .returned (.bool true) ∧ J (pre ++ [x]) W' ∧ Kp G W W') ∨ (e = .returned (.bool false) ∧ Jx (pre ++ [x]) W'))
    (W : World) (hBs : W.cell? ⟨Bn, 0, none⟩ = some (.pointer (some ⟨b, 0, none⟩))) (hm : Made W b F ks g cap mb N ky nx pv fv ps fr f) (h0 : J [] W) :
    CallsIn Fc n Try.prog 49 #[.func (.yield l) #[] #[], .pointer (some ⟨Bn, 0, none⟩)] W fun e W' => (∃ v, e = .returned v) ∧
      ((∃ ys, ys = ks.reverse ∧ J ys W') ∨ (∃ pre, pre <+: ks.reverse ∧ Jx pre W')) := by
  have HM := hid hm
  have hlen := hm.len
  have hfew := hm.few
  have c0 := hm.raw.cell0
  have hN : 0 < N := by have := hm.count; omega
  have e0 := hm.raw.prev hN
  rw [Nat.zero_mul, Nat.zero_add] at e0
  rw [hm.last] at e0
  have hr0 := hm.rgN ps.length
  obtain ⟨r0, hr⟩ : ∃ r, r = rg ps ps.length := ⟨_, rfl⟩
  rw [← hr] at e0 hr0
  have HR0 := hid hr
  have HLEN := hid hlen
  clear hm hr hlen
  refine callsIn_of_wp Try.func49 rfl h7 ?_ hro
  simp only [Try.ntmps49, List.size_toArray, List.length_cons, List.length_nil, Nat.reduceAdd, Nat.reduceSub, Array.replicate_succ, Array.replicate_zero, List.push_toArray, List.append_toArray, List.nil_append, List.cons_append]
  gi_wp2
  gi_loopw [3] (fun i wr => ∃ j : Nat, j ≤ ps.length ∧ i = .int .i64 (rg ps j : Nat) ∧ J (ks.reverse.take (ks.length - j)) wr ∧ Kp G W wr)
    (fun i wr => mz ps i)
  case atStart => exact ⟨ps.length, Nat.le_refl _, by rw [HR0.out], by have := HLEN.out; simpa [this] using h0, Chg.refl _ _⟩
  case round =>
    obtain ⟨j, hj, rfl, hJs, hk⟩ := hrel
    have HJ := hid hJs
    have HK := hid hk
    have hm2 : Made wr b F ks g cap mb N ky nx pv fv ps fr f := HM.out.chg hk (fun k hk hn => hn (hGF k hk))
    have c1 := hm2.raw.cell0
    have b1 : wr.cell? ⟨Bn, 0, none⟩ = some (.pointer (some ⟨b, 0, none⟩)) := hk.cell hBs (fun hn => hn hGB)
    clear hJs hk
    cases j with
    | zero =>
      clear hm2
      rw [show ((rg ps 0 : Nat) : Int) = 0 from rfl]
      gi_wp2
      go_end0
      have hJ := HJ.out
      rw [Nat.sub_zero, ← List.length_reverse, List.take_length] at hJ
      exact ⟨⟨_, rfl⟩, .inl ⟨_, rfl, hJ⟩⟩
    | succ j =>
      have hjl : j < ps.length := by omega
      have hi := hm2.rgN (j + 1)
      have hnz := hm2.nz hjl
      have ek := hm2.raw.key hi
      have hstep := hm2.step hjl
      have htake := hm2.rkey hjl
      obtain ⟨i, hie⟩ : ∃ i, i = rg ps (j + 1) := ⟨_, rfl⟩
      have HI := hid hie
      have HM2 := hid hm2
      rw [← hie] at hi hnz ek hstep htake
      have HS := hid hstep
      obtain ⟨x, hx⟩ : ∃ x, x = ky i := ⟨_, rfl⟩
      rw [← hx] at ek htake
      have HX : Hid (x ∈ ks) := by
        have hmem := HM2.out.keys
        rw [hx, ← hmem, hie, rg_at hjl]
        exact List.mem_map.2 ⟨_, List.getElem_mem _, rfl⟩
      have HT := hid htake
      rw [← hie]
      obtain ⟨fn, tmps, assign, body, hy, hR⟩ := hY _ x wr HX.out HJ.out (by have := HLEN.out; rw [List.length_take, List.length_reverse]; omega)
      have hnz' : ((i : Nat) : Int) ≠ 0 := by omega
      clear hie hm2 hstep htake hx
      gi_wp2
      refine hR.mono ?_
      rintro e W3 (⟨rfl, hJ3, hk3⟩ | ⟨rfl, hJx3⟩)
      · have hm3 : Made W3 b F ks g cap mb N ky nx pv fv ps fr f := HM2.out.chg hk3 (fun k hk hn => hn (hGF k hk))
        have c3 := hm3.raw.cell0
        have b3 : W3.cell? ⟨Bn, 0, none⟩ = some (.pointer (some ⟨b, 0, none⟩)) := hk3.cell b1 (fun hn => hn hGB)
        have e3 := hm3.raw.prev hi
        rw [HS.out] at e3
        have HJ3 := hid hJ3
        have HK3 := hid hk3
        have hri := HM2.out.rgN j
        clear hm3 hJ3 hk3 c1 b1 ek
        gi_wp2
        go_roundw
        case rel => exact ⟨j, by omega, rfl, by rw [HT.out]; exact HJ3.out, HK.out.trans HK3.out⟩
        case measure =>
          show mz ps (.int .i64 (rg ps j : Nat)) < mz ps (.int .i64 (i : Nat))
          rw [HI.out, mz_rg HM2.out.nd1 (j := j) (by omega), mz_rg HM2.out.nd1 (j := j + 1) (by omega)]
          omega
      · gi_wp2
        refine bodyPost_ret (results_none rfl _ _ _) rfl ?_
        exact ⟨⟨_, rfl⟩, .inr ⟨_, by rw [← HT.out]; exact List.take_prefix _ _, hJx3⟩⟩

/-- A key of the list. -/
abbrev In (ks : List Int) := { x : Int // x ∈ ks }
/-- The iterator's contract. -/
theorem back_stops (Fc : Fence) (n : Nat) (h7 : Fc.fn 49) (hro : Fc.round = none) (hn : 1 ≤ n) (Bn b : Nat) (F G : Nat → Prop) (ks : List Int) (w : World) (hGF : ∀ k, F k → G k) (hGB : G Bn) (hGl : ∀ k, G k → k < w.heap.size)
    (hBs : w.cell? ⟨Bn, 0, none⟩ = some (.pointer (some ⟨b, 0, none⟩))) (h : Lst w b F ks) :
    SeqStopsK Fc n Try.prog 49 #[.pointer (some ⟨Bn, 0, none⟩)] (fun x : In ks => #[enc x.1]) (Kp G) (fun ys => ys.map (fun x => x.1) = ks.reverse) (fun pre => pre.map (fun x => x.1) <+: ks.reverse) ks.length w := fun l J Jx W hW _ _ hY h0 => by
  obtain ⟨⟨g, cap, mb, N, ky, nx, pv, fv, ps, fr, f, hm⟩, h1, h2, h3⟩ := h
  have hcW : Chg (fun k => ¬ k < w.heap.size) w W := ⟨hW.os, hW.tape, hW.output, hW.size, fun k hk _ => hW.block k hk⟩
  have hm' : Made W b F ks g cap mb N ky nx pv fv ps fr f := hm.chg hcW (fun k hk hn => hn (h3 k hk))
  have hb' : W.cell? ⟨Bn, 0, none⟩ = some (.pointer (some ⟨b, 0, none⟩)) := hcW.cell hBs (fun hn => hn (hGl _ hGB))
  refine (back1_in Fc n h7 hro hn l Bn b F G ks g cap mb N ky nx pv fv ps fr f hGF hGB (fun l W => ∃ l' : List (In ks), l'.map (fun x => x.1) = l ∧ J l' W) (fun l W => ∃ l' : List (In ks), l'.map (fun x => x.1) = l ∧ Jx l' W) ?_ W hb' hm' ⟨[], rfl, h0⟩).mono ?_
  · rintro pre x W1 hx ⟨pre', rfl, hJ⟩ hlt
    refine (hY pre' ⟨x, hx⟩ W1 hJ (by simpa using hlt)).mono ?_
    rintro e W' (⟨he, hj, hk⟩ | ⟨he, hj⟩)
    · exact .inl ⟨he, ⟨pre' ++ [⟨x, hx⟩], by simp, hj⟩, hk⟩
    · exact .inr ⟨he, ⟨pre' ++ [⟨x, hx⟩], by simp, hj⟩⟩
  · rintro e W' ⟨he, ⟨ys, rfl, ys', hy, hj⟩ | ⟨pre, hp, pre', hy, hj⟩⟩
    · exact ⟨he, .inl ⟨ys', hy, hj⟩⟩
    · exact ⟨he, .inr ⟨pre', by show pre'.map (fun x => x.1) <+: ks.reverse; rw [hy]; exact hp, hj⟩⟩

set_option maxRecDepth 100000 in
set_option maxHeartbeats 1000000 in
/-- No list: no round. -/
theorem back1_nil_in (Fc : Fence) (n : Nat) (h7 : Fc.fn 49) (hro : Fc.round = none) (l Bn : Nat) (J : List Int → World → Prop) (W : World) (hBs : W.cell? ⟨Bn, 0, none⟩ = some (.pointer none)) (h0 : J [] W) :
    CallsIn Fc n Try.prog 49 #[.func (.yield l) #[] #[], .pointer (some ⟨Bn, 0, none⟩)] W fun e W' => (∃ v, e = .returned v) ∧ J [] W' := by
  have HJ := hid h0
  clear h0
  refine callsIn_of_wp Try.func49 rfl h7 ?_ hro
  simp only [Try.ntmps49, List.size_toArray, List.length_cons, List.length_nil, Nat.reduceAdd, Nat.reduceSub, Array.replicate_succ, Array.replicate_zero, List.push_toArray, List.append_toArray, List.nil_append, List.cons_append]
  gi_wp2
  refine bodyPost_ret (results_none rfl _ _ _) rfl ?_
  exact ⟨⟨_, rfl⟩, HJ.out⟩
theorem back_stops_nil (Fc : Fence) (n : Nat) (h7 : Fc.fn 49) (hro : Fc.round = none) (Bn : Nat) (G : Nat → Prop) (w : World) (hB : Bn < w.heap.size) (hBs : w.cell? ⟨Bn, 0, none⟩ = some (.pointer none)) :
    SeqStopsK Fc n Try.prog 49 #[.pointer (some ⟨Bn, 0, none⟩)] (fun x : Int => #[enc x]) (Kp G) (fun ys => ys = []) (fun pre => False) 0 w := fun l J Jx W hW _ _ hY h0 => by
  refine (back1_nil_in Fc n h7 hro l Bn J W ((hW.cell (p := ⟨Bn, 0, none⟩) hB).trans hBs) h0).mono ?_
  rintro e W' ⟨he, hj⟩
  exact ⟨he, .inl ⟨_, rfl, hj⟩⟩

set_option maxHeartbeats 1000000 in
theorem back_in (Fc : Fence) (n : Nat) (h5 : Fc.fn 40) (hro : Fc.round = none) (p : Option Addr) (w : World) :
    CallsIn Fc n Try.prog 40 #[.pointer p] w fun e w' => e = .returned (.func (.func 49) #[] #[.pointer (some ⟨w.heap.size, 0, none⟩)]) ∧ w' = w.alloc (.cells #[.pointer p] 63) := by
  refine callsIn_of_wp Try.func40 rfl h5 ?_ hro
  simp only [Try.ntmps40, List.size_toArray, List.length_cons, List.length_nil, Nat.reduceAdd, Nat.reduceSub, Array.replicate_succ, Array.replicate_zero, List.push_toArray, List.append_toArray, List.nil_append, List.cons_append]
  gi_wp2
  go_ret
  exact ⟨rfl, rfl⟩
end Go.Proofs.Ytfkedhclhmbpfaa.LI
end

section
namespace Go.Proofs.Ytfkedhclhmbpfaa.LI
open Go.RowKit Go.Maps Go.Shelf
set_option linter.unusedVariables false
set_option linter.unusedSimpArgs false
attribute [local go_sem] Oper.semAt_some

/-- Which are asked, from the last one on. -/
def scanA (kp : Int → Bool) : List Int → List Int
  | [] => []
  | x :: r => if kp x = true then x :: scanA kp r else [x]
/-- The first one that is refused. -/
def scanR (kp : Int → Bool) : List Int → Option Int
  | [] => none
  | x :: r => if kp x = true then scanR kp r else some x
theorem scan_all (kp : Int → Bool) (l : List Int) (h : ∀ x ∈ l, kp x = true) : scanA kp l = l ∧ scanR kp l = none := by
  induction l with
  | nil => exact ⟨rfl, rfl⟩
  | cons x r ih =>
    obtain ⟨a, b⟩ := ih fun y hy => h y (by simp [hy])
    simp [scanA, scanR, h x (by simp), a, b]
theorem scan_at (kp : Int → Bool) (u : List Int) (x : Int) (r : List Int) (h : ∀ y ∈ u, kp y = true) (hx : kp x = false) : scanA kp (u ++ x :: r) = u ++ [x] ∧ scanR kp (u ++ x :: r) = some x := by
  induction u with
  | nil => simp [scanA, scanR, hx]
  | cons y u ih =>
    obtain ⟨a, b⟩ := ih fun z hz => h z (by simp [hz])
    simp [scanA, scanR, h y (by simp), a, b]

/-- What LastBut answers. -/
def lastV (r : Option Int) : Value := .tuple #[enc (r.getD 0), .bool r.isSome]

/-- What a keep is told and does: S are the blocks that it may write. -/
structure Keeper (w : World) (F : Nat → Prop) (ks : List Int) (gf : Nat) (cap : Array Value) (J : List Int → World → Prop) (kp : Int → Bool) (S : Nat → Prop) : Prop where
  enters : ∀ (args : Array Value) (w : World), (callFunc gf args).run Try.prog w = .ok (.enter gf args) w
  blocks : ∀ k, S k → k < w.heap.size ∧ ¬ F k
  abides : ∀ pre W W', J pre W → Chg (fun k => w.heap.size ≤ k) W W' → J pre W'
  call : ∀ pre x W, x ∈ ks → J pre W → Chg S w W → Calls Try.prog gf (#[enc x] ++ cap) W fun e W' => e = .returned (.bool (kp x)) ∧ J (pre ++ [x]) W' ∧ Chg S W W'

theorem frozen_of_chg {S : Nat → Prop} {w w' : World} (h : Chg S w w') {p : Addr} {v : Value} (hc : w.cell? p = some v) (hs : ¬ S p.block) : w'.frozen? p = w.frozen? p :=
  World.frozen?_of_block (h.block _ (lt_of_cell hc) hs)

theorem far2 (W : World) (n i j : Nat) (h : i ≠ j) (v : Value) : (W.setCell ⟨n + i, 0, none⟩ v).cell? ⟨n + j, 0, none⟩ = W.cell? ⟨n + j, 0, none⟩ :=
  World.cell?_setCell_other _ _ _ _ (by intro e; injection e with e; omega)

set_option maxRecDepth 100000 in
set_option maxHeartbeats 2000000 in
theorem lastbut_in (n : Nat) (hn : 5 ≤ n) (w : World) (b : Nat) (F : Nat → Prop) (ks : List Int) (h : Lst w b F ks) (gf : Nat) (cap : Array Value) (J : List Int → World → Prop) (kp : Int → Bool) (S : Nat → Prop)
    (hk : Keeper w F ks gf cap J kp S) (h0 : J [] w) :
    CallsIn Fence.wide n Try.prog 38 #[.pointer (some ⟨b, 0, none⟩), .func (.func gf) #[] cap] w fun e W' => e = .returned (lastV (scanR kp ks.reverse)) ∧ J (scanA kp ks.reverse) W' ∧ Chg S w W' := by
  have h1 : 1 ≤ n := by omega
  have HL := hid h
  have HK := hid hk
  have H0 := hid h0
  clear h hk h0
  refine callsIn_of_wp_marks Try.func38 rfl trivial ?_ rfl
  simp only [Try.ntmps38, List.size_toArray, List.length_cons, List.length_nil, Nat.reduceAdd, Nat.reduceSub, Array.replicate_succ, Array.replicate_zero, List.push_toArray, List.append_toArray, List.nil_append, List.cons_append]
  gi_wp2
  refine ⟨trivial, ?_⟩
  refine (back_in Fence.wide (n - 1) trivial rfl _ _).mono ?_
  rintro e w' ⟨rfl, rfl⟩
  gi_wp2
  obtain ⟨W0, hW0⟩ : ∃ W0, (((w.alloc (.cells #[.func (.func gf) #[] cap] 91)).alloc (.cells #[.int .i64 0] 3)).alloc (.cells #[.bool false] 4)).alloc (.cells #[.pointer (some ⟨b, 0, none⟩)] 63) = W0 := ⟨_, rfl⟩
  have ch := fun (v : World) (o : Obj) => (Chg.refl (fun _ => False) v).alloc o
  have hs0 : W0.heap.size = w.heap.size + 4 := by rw [← hW0]; simp
  have hC0 : Chg (fun _ => False) w W0 := by rw [← hW0]; exact (((ch w _).alloc _).alloc _).alloc _
  have hB0 : Blk W0 w.heap.size 91 #[.func (.func gf) #[] cap] := by
    rw [← hW0]; exact (((Blk.new w _ _).alloc _).alloc _).alloc _
  have hB1 : Blk W0 (w.heap.size + 1) 3 #[.int .i64 0] := by
    rw [← hW0]
    have := Blk.new (w.alloc (.cells #[.func (.func gf) #[] cap] 91)) 3 #[.int .i64 0]
    rw [World.size_alloc] at this
    exact (this.alloc _).alloc _
  have hB2 : Blk W0 (w.heap.size + 2) 4 #[.bool false] := by
    rw [← hW0]
    have := Blk.new ((w.alloc (.cells #[.func (.func gf) #[] cap] 91)).alloc (.cells #[.int .i64 0] 3)) 4 #[.bool false]
    rw [World.size_alloc, World.size_alloc] at this
    exact this.alloc _
  have hB3 : Blk W0 (w.heap.size + 3) 63 #[.pointer (some ⟨b, 0, none⟩)] := by
    rw [← hW0]
    have := Blk.new (((w.alloc (.cells #[.func (.func gf) #[] cap] 91)).alloc (.cells #[.int .i64 0] 3)).alloc (.cells #[.bool false] 4)) 63 #[.pointer (some ⟨b, 0, none⟩)]
    rw [World.size_alloc, World.size_alloc, World.size_alloc] at this
    exact this
  have hL0 := HL.out.chg hC0 (fun _ _ h => h)
  have hJ0 : J [] W0 := HK.out.abides _ _ _ H0.out (hC0.weaken (fun _ _ h => h.elim))
  rw [hW0]
  have HWS := hid hs0
  have HGl : ∀ k, (F k ∨ k = w.heap.size + 3) → k < W0.heap.size := fun k hk => by
    rcases hk with hk | hk
    · exact hL0.lt k hk
    · omega
  refine wpIn_rangeFunc_ownG (F := Fence.wide) rfl h1 (gf := 49) (lb := #[.pointer (some ⟨w.heap.size + 3, 0, none⟩)]) rfl trivial (enters_of Try.func49 (by kernel_rfl) rfl)
    (back_stops Fence.wide (n - 1) trivial rfl (by omega) (w.heap.size + 3) b F (fun k => F k ∨ k = w.heap.size + 3) ks W0 (fun k hk => Or.inl hk) (Or.inr rfl) HGl (by rw [hB3.cell]; rfl) hL0) Kp.t (Kp.b HGl) (Below.refl _ _) (fun _ => rfl)
    (fun pre W => (W.cell? ⟨w.heap.size, 0, none⟩ = some (.func (.func gf) #[] cap) ∧ (W.cell? ⟨w.heap.size + 1, 0, none⟩ = some (.int .i64 0) ∧ W.frozen? ⟨w.heap.size + 1, 0, none⟩ = false) ∧ (W.cell? ⟨w.heap.size + 2, 0, none⟩ = some (.bool false) ∧ W.frozen? ⟨w.heap.size + 2, 0, none⟩ = false)) ∧ ((∀ y ∈ pre, kp y.1 = true) ∧ J (pre.map (fun x => x.1)) W ∧ Chg S w W))
    (fun c pre W => c = .ret ∧ ∃ ini x, pre = ini ++ [x] ∧ (W.cell? ⟨w.heap.size + 1, 0, none⟩ = some (enc x.1) ∧ W.cell? ⟨w.heap.size + 2, 0, none⟩ = some (.bool true)) ∧ (∀ y ∈ ini, kp y.1 = true) ∧ kp x.1 = false ∧ J (pre.map (fun x => x.1)) W ∧ Chg S w W)
    ?hI ?hIx ?h0
    (fun x => { tmps := #[.pointer (some ⟨b, 0, none⟩), .func (.func gf) #[] cap, undef, .pointer (some ⟨w.heap.size, 0, none⟩), .pointer (some ⟨w.heap.size + 1, 0, none⟩), .pointer (some ⟨w.heap.size + 2, 0, none⟩), enc x.1, undef, .pointer (some ⟨b, 0, none⟩), .func (.func 49) #[] #[.pointer (some ⟨w.heap.size + 3, 0, none⟩)], enc x.1, undef, undef, undef, undef, undef, undef], defers := [] }) ?assign ?body ?done ?stop
  case hI =>
    rintro s A B row ⟨⟨q0, ⟨q1, q2⟩, q3, q4⟩, hs, hJ, hc⟩ hg hr
    have hrr : ∀ r, row = some r → ∃ o : Obj, A.heap[r]? = some o ∧ o.isCells = false := fun r e => (hr r e).2
    have hcg : Chg (fun k => w.heap.size ≤ k) A B := ⟨hg.os, hg.tape, hg.output, hg.size, fun k hk hn => hg.block k hk (fun e => by have := (hr k e.symm).1; omega)⟩
    exact ⟨⟨cell_kept q0 hg hrr, ⟨cell_kept q1 hg hrr, (frozen_kept q1 hg hrr).trans q2⟩, cell_kept q3 hg hrr, (frozen_kept q3 hg hrr).trans q4⟩, hs, HK.out.abides _ _ _ hJ hcg, hc.into hcg (fun k hk e => by omega)⟩
  case hIx =>
    rintro c s A B row ⟨rfl, ini, x, hp, ⟨q1, q2⟩, h3, h4, hJ, hc⟩ hg hr
    have hrr : ∀ r, row = some r → ∃ o : Obj, A.heap[r]? = some o ∧ o.isCells = false := fun r e => (hr r e).2
    have hcg : Chg (fun k => w.heap.size ≤ k) A B := ⟨hg.os, hg.tape, hg.output, hg.size, fun k hk hn => hg.block k hk (fun e => by have := (hr k e.symm).1; omega)⟩
    exact ⟨rfl, ini, x, hp, ⟨cell_kept q1 hg hrr, cell_kept q2 hg hrr⟩, h3, h4, HK.out.abides _ _ _ hJ hcg, hc.into hcg (fun k hk e => by omega)⟩
  case h0 =>
    exact ⟨⟨by rw [hB0.cell]; rfl, ⟨by rw [hB1.cell]; rfl, hB1.frozen 0⟩, by rw [hB2.cell]; rfl, hB2.frozen 0⟩, by simp, hJ0, hC0.weaken (fun _ _ h => h.elim)⟩
  case assign =>
    intro l x W K hK
    gi_wp2
    exact hK
  case body =>
    rintro l pre x W ⟨⟨q0, ⟨q1, q2⟩, q3, q4⟩, hs, hJ, hc⟩ _
    have heg := HK.out.enters
    have HS := hid hs
    have HJ := hid hJ
    have HC := hid hc
    clear hs hJ hc
    gi_wp2
    refine ⟨trivial, by intro hd; exact absurd hd (by decide), ?_⟩
    refine (callsIn_wide.2 (HK.out.call _ x.1 W x.2 HJ.out HC.out)).mono ?_
    rintro e W3 ⟨rfl, hJ3, hc3⟩
    have hn : ∀ i, ¬ S (w.heap.size + i) := fun i hi => by have := (HK.out.blocks _ hi).1; omega
    have q0' := hc3.cell q0 (hn 0)
    have q1' := hc3.cell q1 (hn 1)
    have q3' := hc3.cell q3 (hn 2)
    have q2' : W3.frozen? ⟨w.heap.size + 1, 0, none⟩ = false := (frozen_of_chg hc3 q1 (hn 1)).trans q2
    have q4' : W3.frozen? ⟨w.heap.size + 2, 0, none⟩ = false := (frozen_of_chg hc3 q3 (hn 2)).trans q4
    have HJ3 := hid hJ3
    have HC3 := hid hc3
    have hsz := hc3.size
    obtain ⟨v, hv⟩ : ∃ v, v = kp x.1 := ⟨_, rfl⟩
    rw [← hv]
    have HV := hid hv
    clear hJ3 hc3 q0 q1 q2 q3 q4 hn hv hsz
    have hfar : ∀ k, S k → k < w.heap.size := fun k hk => (HK.out.blocks k hk).1
    have hfr : ∀ k, S k → ¬ F k := fun k hk => (HK.out.blocks k hk).2
    have HFA := hid hfar
    have HFR := hid hfr
    clear hfar hfr
    cases v with
    | true =>
      gi_wp2
      have h0 := HC3.out
      refine ⟨⟨h0.size, fun k o hB hk ho => (h0.block k (Array.getElem?_eq_some_iff.1 hk).1 (fun hs => by have := HFA.out k hs; have := HWS.out; omega)).trans hk⟩, ?_, ⟨q0', ⟨q1', q2'⟩, q3', q4'⟩, ?_, ?_, HC.out.trans h0⟩
      · exact h0.weaken (fun k hk hs hg => by
          rcases hg with hg | hg
          · exact HFR.out k hs hg
          · have := HFA.out k hs; omega)
      · intro y hy
        rcases List.mem_append.1 hy with hy | hy
        · exact HS.out y hy
        · rw [List.mem_singleton.1 hy]; exact HV.out.symm
      · rw [List.map_append]; exact HJ3.out
    | false =>
      gi_wp2
      have h0 := HC3.out
      have k1 : ∀ u, Chg (fun k => w.heap.size ≤ k) W3 (W3.setCell ⟨w.heap.size + 1, 0, none⟩ u) := fun u => (Chg.refl _ _).setCell (p := ⟨w.heap.size + 1, 0, none⟩) (by show w.heap.size ≤ w.heap.size + 1; omega) u
      have k2 : ∀ u v, Chg (fun k => w.heap.size ≤ k) W3 ((W3.setCell ⟨w.heap.size + 1, 0, none⟩ u).setCell ⟨w.heap.size + 2, 0, none⟩ v) := fun u v => (k1 u).setCell (p := ⟨w.heap.size + 2, 0, none⟩) (by show w.heap.size ≤ w.heap.size + 2; omega) v
      refine ⟨?_, rfl, pre, x, rfl, ⟨?_, ?_⟩, HS.out, HV.out.symm, ?_, ?_⟩
      · have ka : KeepsFrom W0.heap.size W W3 := ⟨h0.size, fun k o hB hk ho => (h0.block k (Array.getElem?_eq_some_iff.1 hk).1 (fun hs => by have := HFA.out k hs; have := HWS.out; omega)).trans hk⟩
        exact ka.trans (((KeepsOthers.setCell _ _ _).trans (KeepsOthers.setCell _ _ _)).from _)
      · rw [far2 _ w.heap.size 2 1 (by decide)]
        exact World.cell?_setCell_same' _ _ _ (by rw [q1']; rfl)
      · refine World.cell?_setCell_same' _ _ _ ?_
        rw [far2 _ w.heap.size 1 2 (by decide), q3']; rfl
      · rw [List.map_append]
        exact HK.out.abides _ _ _ HJ3.out (k2 _ _)
      · exact (HC.out.trans h0).into (k2 _ _) (fun k hk e => by omega)
  case done =>
    rintro D xs W hDl hall ⟨⟨_, ⟨q1, q2⟩, q3, q4⟩, hs, hJ, hc⟩ hD
    have HS := hid hs
    have HJ := hid hJ
    have HC := hid hc
    have HALL := hid hall
    have HDL := hid hDl
    clear hs hJ hc hall hDl
    gi_wp2
    have hK' := ((KeepsOthers.setCell W ⟨w.heap.size + 1, 0, none⟩ (.int .i64 0)).trans (KeepsOthers.setCell _ ⟨w.heap.size + 2, 0, none⟩ (.bool false))).same D _ hD rfl
    refine ⟨by simp, .inl ⟨_, _, rfl, run_takeDeferred hK', ?_⟩⟩
    have hr : ∀ r, some D = some r → ∃ o : Obj, ((W.setCell ⟨w.heap.size + 1, 0, none⟩ (.int .i64 0)).setCell ⟨w.heap.size + 2, 0, none⟩ (.bool false)).heap[r]? = some o ∧ o.isCells = false := fun r e => by cases e; exact ⟨_, hK', rfl⟩
    have hg := grownBy_putObj' ((W.setCell ⟨w.heap.size + 1, 0, none⟩ (.int .i64 0)).setCell ⟨w.heap.size + 2, 0, none⟩ (.bool false)) D (.deferred none)
    have c1 := cell_kept (a := ⟨w.heap.size + 1, 0, none⟩) (v := .int .i64 0) (by
      rw [far2 _ w.heap.size 2 1 (by decide)]
      exact World.cell?_setCell_same' _ _ _ (by rw [q1]; rfl)) hg hr
    have c2 := cell_kept (a := ⟨w.heap.size + 2, 0, none⟩) (v := .bool false) (by
      refine World.cell?_setCell_same' _ _ _ ?_
      rw [far2 _ w.heap.size 1 2 (by decide), q3]; rfl) hg hr
    have hch : Chg (fun k => w.heap.size ≤ k) W (((W.setCell ⟨w.heap.size + 1, 0, none⟩ (.int .i64 0)).setCell ⟨w.heap.size + 2, 0, none⟩ (.bool false)).putObj D (.deferred none)) :=
      ((((Chg.refl _ _).setCell (p := ⟨w.heap.size + 1, 0, none⟩) (by show w.heap.size ≤ w.heap.size + 1; omega) _).setCell (p := ⟨w.heap.size + 2, 0, none⟩) (by show w.heap.size ≤ w.heap.size + 2; omega) _)).into
        ⟨hg.os, hg.tape, hg.output, hg.size, fun k hk hn => hg.block k hk (fun e => by cases e; exact hn rfl)⟩ (S' := fun k => k = D) (fun k hk e => by have := HDL.out; have := HWS.out; omega)
    obtain ⟨a1, a2⟩ := scan_all kp ks.reverse (fun y hy => by
      have := HALL.out
      rw [← this] at hy
      obtain ⟨z, hz, rfl⟩ := List.mem_map.1 hy
      exact HS.out z hz)
    refine ⟨_, ?_, rfl, ?_, HC.out.into hch (fun k hk e => by omega)⟩
    · rw [a2]
      simp [results, Try.f38, go_sem, c1, c2, Try.results38, lastV]
    · rw [a1]
      have hj := HK.out.abides _ _ _ HJ.out hch
      rwa [HALL.out] at hj
  case stop =>
    rintro D c pre W hDl hpart ⟨rfl, ini, x, rfl, ⟨q1, q3⟩, hs, hx, hJ, hc⟩ hD
    have HS := hid hs
    have HX := hid hx
    have HJ := hid hJ
    have HC := hid hc
    have HP := hid hpart
    have HDL := hid hDl
    clear hs hx hJ hc hpart hDl
    gi_wp2
    refine ⟨by simp, .inl ⟨_, _, rfl, run_takeDeferred hD, ?_⟩⟩
    have hr : ∀ r, some D = some r → ∃ o : Obj, W.heap[r]? = some o ∧ o.isCells = false := fun r e => by cases e; exact ⟨_, hD, rfl⟩
    have hg := grownBy_putObj' W D (.deferred none)
    have c1 := cell_kept q1 hg hr
    have c2 := cell_kept q3 hg hr
    have hch : Chg (fun k => w.heap.size ≤ k) W (W.putObj D (.deferred none)) :=
      ⟨hg.os, hg.tape, hg.output, hg.size, fun k hk hn => hg.block k hk (fun e => by cases e; exact hn (by have := HDL.out; have := HWS.out; omega))⟩
    obtain ⟨r, hr'⟩ := HP.out
    have hpl : ks.reverse = ini.map (fun x => x.1) ++ x.1 :: r := by rw [← hr']; simp
    obtain ⟨a1, a2⟩ := scan_at kp (ini.map (fun x => x.1)) x.1 r (fun y hy => by
      obtain ⟨z, hz, rfl⟩ := List.mem_map.1 hy
      exact HS.out z hz) HX.out
    rw [← hpl] at a1 a2
    refine ⟨_, ?_, rfl, ?_, HC.out.into hch (fun k hk e => by omega)⟩
    · rw [a2]
      simp [results, Try.f38, go_sem, c1, c2, Try.results38, lastV]
    · rw [a1]
      have hj := HK.out.abides _ _ _ HJ.out hch
      rwa [List.map_append] at hj
end Go.Proofs.Ytfkedhclhmbpfaa.LI
end

section
namespace Go.Proofs.Ytfkedhclhmbpfaa.LI
open Go.RowKit Go.Maps Go.Shelf
set_option linter.unusedVariables false
set_option linter.unusedSimpArgs false
attribute [local go_sem] Oper.semAt_some

set_option maxRecDepth 100000 in
set_option maxHeartbeats 2000000 in
theorem lastbut_nil_in (n : Nat) (hn : 5 ≤ n) (w : World) (gf : Nat) (cap : Array Value) :
    CallsIn Fence.wide n Try.prog 38 #[.pointer none, .func (.func gf) #[] cap] w fun e W' => e = .returned (lastV none) ∧ Chg (fun _ => False) w W' := by
  have h1 : 1 ≤ n := by omega
  refine callsIn_of_wp_marks Try.func38 rfl trivial ?_ rfl
  simp only [Try.ntmps38, List.size_toArray, List.length_cons, List.length_nil, Nat.reduceAdd, Nat.reduceSub, Array.replicate_succ, Array.replicate_zero, List.push_toArray, List.append_toArray, List.nil_append, List.cons_append]
  gi_wp2
  refine ⟨trivial, ?_⟩
  refine (back_in Fence.wide (n - 1) trivial rfl _ _).mono ?_
  rintro e w' ⟨rfl, rfl⟩
  gi_wp2
  obtain ⟨W0, hW0⟩ : ∃ W0, (((w.alloc (.cells #[.func (.func gf) #[] cap] 91)).alloc (.cells #[.int .i64 0] 3)).alloc (.cells #[.bool false] 4)).alloc (.cells #[.pointer none] 63) = W0 := ⟨_, rfl⟩
  have ch := fun (v : World) (o : Obj) => (Chg.refl (fun _ => False) v).alloc o
  have hs0 : W0.heap.size = w.heap.size + 4 := by rw [← hW0]; simp
  have hC0 : Chg (fun _ => False) w W0 := by rw [← hW0]; exact (((ch w _).alloc _).alloc _).alloc _
  have hB1 : Blk W0 (w.heap.size + 1) 3 #[.int .i64 0] := by
    rw [← hW0]
    have := Blk.new (w.alloc (.cells #[.func (.func gf) #[] cap] 91)) 3 #[.int .i64 0]
    rw [World.size_alloc] at this
    exact (this.alloc _).alloc _
  have hB2 : Blk W0 (w.heap.size + 2) 4 #[.bool false] := by
    rw [← hW0]
    have := Blk.new ((w.alloc (.cells #[.func (.func gf) #[] cap] 91)).alloc (.cells #[.int .i64 0] 3)) 4 #[.bool false]
    rw [World.size_alloc, World.size_alloc] at this
    exact this.alloc _
  have hB3 : Blk W0 (w.heap.size + 3) 63 #[.pointer none] := by
    rw [← hW0]
    have := Blk.new (((w.alloc (.cells #[.func (.func gf) #[] cap] 91)).alloc (.cells #[.int .i64 0] 3)).alloc (.cells #[.bool false] 4)) 63 #[.pointer none]
    rw [World.size_alloc, World.size_alloc, World.size_alloc] at this
    exact this
  rw [hW0]
  have HWS := hid hs0
  have HGl : ∀ k, (k = w.heap.size + 3) → k < W0.heap.size := fun k hk => by omega
  refine wpIn_rangeFunc_ownG (F := Fence.wide) rfl h1 (gf := 49) (lb := #[.pointer (some ⟨w.heap.size + 3, 0, none⟩)]) rfl trivial (enters_of Try.func49 (by kernel_rfl) rfl)
    (back_stops_nil Fence.wide (n - 1) trivial rfl (w.heap.size + 3) (fun k => k = w.heap.size + 3) W0 (by omega) (by rw [hB3.cell]; rfl)) Kp.t (Kp.b HGl) (Below.refl _ _) (fun _ => rfl)
    (fun pre W => ((W.cell? ⟨w.heap.size + 1, 0, none⟩ = some (.int .i64 0) ∧ W.frozen? ⟨w.heap.size + 1, 0, none⟩ = false) ∧ (W.cell? ⟨w.heap.size + 2, 0, none⟩ = some (.bool false) ∧ W.frozen? ⟨w.heap.size + 2, 0, none⟩ = false)) ∧ Chg (fun _ => False) w W)
    (fun c pre W => False)
    ?hI ?hIx ?h0
    (fun x => { tmps := #[.pointer none, .func (.func gf) #[] cap, undef, .pointer (some ⟨w.heap.size, 0, none⟩), .pointer (some ⟨w.heap.size + 1, 0, none⟩), .pointer (some ⟨w.heap.size + 2, 0, none⟩), enc x, undef, .pointer none, .func (.func 49) #[] #[.pointer (some ⟨w.heap.size + 3, 0, none⟩)], enc x, undef, undef, undef, undef, undef, undef], defers := [] }) ?assign ?body ?done ?stop
  case hI =>
    rintro s A B row ⟨⟨⟨q1, q2⟩, q3, q4⟩, hc⟩ hg hr
    have hrr : ∀ r, row = some r → ∃ o : Obj, A.heap[r]? = some o ∧ o.isCells = false := fun r e => (hr r e).2
    have hcg : Chg (fun k => w.heap.size ≤ k) A B := ⟨hg.os, hg.tape, hg.output, hg.size, fun k hk hn => hg.block k hk (fun e => by have := (hr k e.symm).1; omega)⟩
    exact ⟨⟨⟨cell_kept q1 hg hrr, (frozen_kept q1 hg hrr).trans q2⟩, cell_kept q3 hg hrr, (frozen_kept q3 hg hrr).trans q4⟩, hc.into hcg (fun k hk e => by omega)⟩
  case hIx =>
    rintro c s A B row h hg hr
    exact h
  case h0 =>
    exact ⟨⟨⟨by rw [hB1.cell]; rfl, hB1.frozen 0⟩, by rw [hB2.cell]; rfl, hB2.frozen 0⟩, hC0⟩
  case assign =>
    intro l x W K hK
    gi_wp2
    exact hK
  case body =>
    rintro l pre x W _ hl
    exact absurd hl (Nat.not_lt_zero _)
  case done =>
    rintro D xs W hDl hall ⟨⟨⟨q1, q2⟩, q3, q4⟩, hc⟩ hD
    have HC := hid hc
    have HDL := hid hDl
    clear hc hall hDl
    gi_wp2
    have hK' := ((KeepsOthers.setCell W ⟨w.heap.size + 1, 0, none⟩ (.int .i64 0)).trans (KeepsOthers.setCell _ ⟨w.heap.size + 2, 0, none⟩ (.bool false))).same D _ hD rfl
    refine ⟨by simp, .inl ⟨_, _, rfl, run_takeDeferred hK', ?_⟩⟩
    have hr : ∀ r, some D = some r → ∃ o : Obj, ((W.setCell ⟨w.heap.size + 1, 0, none⟩ (.int .i64 0)).setCell ⟨w.heap.size + 2, 0, none⟩ (.bool false)).heap[r]? = some o ∧ o.isCells = false := fun r e => by cases e; exact ⟨_, hK', rfl⟩
    have hg := grownBy_putObj' ((W.setCell ⟨w.heap.size + 1, 0, none⟩ (.int .i64 0)).setCell ⟨w.heap.size + 2, 0, none⟩ (.bool false)) D (.deferred none)
    have c1 := cell_kept (a := ⟨w.heap.size + 1, 0, none⟩) (v := .int .i64 0) (by
      rw [far2 _ w.heap.size 2 1 (by decide)]
      exact World.cell?_setCell_same' _ _ _ (by rw [q1]; rfl)) hg hr
    have c2 := cell_kept (a := ⟨w.heap.size + 2, 0, none⟩) (v := .bool false) (by
      refine World.cell?_setCell_same' _ _ _ ?_
      rw [far2 _ w.heap.size 1 2 (by decide), q3]; rfl) hg hr
    have hch : Chg (fun k => w.heap.size ≤ k) W (((W.setCell ⟨w.heap.size + 1, 0, none⟩ (.int .i64 0)).setCell ⟨w.heap.size + 2, 0, none⟩ (.bool false)).putObj D (.deferred none)) :=
      ((((Chg.refl _ _).setCell (p := ⟨w.heap.size + 1, 0, none⟩) (by show w.heap.size ≤ w.heap.size + 1; omega) _).setCell (p := ⟨w.heap.size + 2, 0, none⟩) (by show w.heap.size ≤ w.heap.size + 2; omega) _)).into
        ⟨hg.os, hg.tape, hg.output, hg.size, fun k hk hn => hg.block k hk (fun e => by cases e; exact hn rfl)⟩ (S' := fun k => k = D) (fun k hk e => by have := HDL.out; have := HWS.out; omega)
    refine ⟨_, ?_, rfl, HC.out.into hch (fun k hk e => by omega)⟩
    simp [results, Try.f38, go_sem, c1, c2, Try.results38, lastV]
  case stop =>
    rintro D c pre W _ hF _ _
    exact hF.elim

theorem lastbut_nil (w : World) (gf : Nat) (cap : Array Value) : Calls Try.prog 38 #[.pointer none, .func (.func gf) #[] cap] w fun e W' => e = .returned (lastV none) ∧ Chg (fun _ => False) w W' :=
  callsIn_wide.1 (lastbut_nil_in 5 (Nat.le_refl _) w gf cap)
theorem lastbut_any (w : World) (b : Nat) (F : Nat → Prop) (ks : List Int) (h : Lst w b F ks) (gf : Nat) (cap : Array Value) (J : List Int → World → Prop) (kp : Int → Bool) (S : Nat → Prop) (hk : Keeper w F ks gf cap J kp S) (h0 : J [] w) :
    Calls Try.prog 38 #[.pointer (some ⟨b, 0, none⟩), .func (.func gf) #[] cap] w fun e W' => e = .returned (lastV (scanR kp ks.reverse)) ∧ J (scanA kp ks.reverse) W' ∧ Chg S w W' :=
  callsIn_wide.1 (lastbut_in 5 (Nat.le_refl _) w b F ks h gf cap J kp S hk h0)

--@need Last
theorem lastf_any (w : World) (x : Value) : Calls Try.prog 39 #[x] w fun e w' => e = .returned (.bool false) ∧ w = w' := by
  go_enter Try.func39, Try.ntmps39
  go_wp2
  go_ret
  exact ⟨rfl, rfl⟩

theorem scan_none (l : List Int) : scanR (fun _ => false) l = l.head? := by cases l <;> rfl

set_option maxHeartbeats 1000000 in
theorem last_any (w : World) (b : Nat) (F : Nat → Prop) (ks : List Int) (h : Lst w b F ks) :
    Calls Try.prog 28 #[.pointer (some ⟨b, 0, none⟩)] w fun e w' => e = .returned (lastV ks.getLast?) ∧ Chg (fun _ => False) w w' := by
  have HL := hid h
  clear h
  go_enter Try.func28, Try.ntmps28
  go_wp2_with fail
  refine (lastbut_any w b F ks HL.out 39 #[] (fun _ _ => True) (fun _ => false) (fun _ => False) ⟨enters_of Try.func39 (by kernel_rfl) rfl, fun k hk => hk.elim, fun _ _ _ _ _ => trivial, fun pre x W hx _ _ => (lastf_any W (enc x)).mono ?_⟩ trivial).mono ?_
  · rintro e w' ⟨he, rfl⟩
    exact ⟨he, trivial, Chg.refl _ _⟩
  rintro e w' ⟨rfl, -, hc⟩
  rw [scan_none, List.head?_reverse]
  have HC := hid hc
  clear hc
  unfold lastV
  go_wp2
  refine bodyPost_ret (by simp [results, Try.results28, go_sem]; rfl) rfl ?_
  exact ⟨rfl, HC.out⟩

set_option maxHeartbeats 1000000 in
theorem last_nil (w : World) : Calls Try.prog 28 #[.pointer none] w fun e w' => e = .returned (lastV none) ∧ Chg (fun _ => False) w w' := by
  go_enter Try.func28, Try.ntmps28
  go_wp2_with fail
  refine (lastbut_nil w 39 #[]).mono ?_
  rintro e w' ⟨rfl, hc⟩
  have HC := hid hc
  clear hc
  unfold lastV
  go_wp2
  refine bodyPost_ret (by simp [results, Try.results28, go_sem]; rfl) rfl ?_
  exact ⟨rfl, HC.out⟩
--@end
end Go.Proofs.Ytfkedhclhmbpfaa.LI
end

section
namespace Go.Proofs.Ytfkedhclhmbpfaa.LI
open Go.RowKit Go.Maps Go.Shelf
set_option linter.unusedVariables false
set_option linter.unusedSimpArgs false
attribute [local go_sem] Oper.semAt_some

theorem mk_keys (n : Nat) (h : n ≤ 100000) (w : World) : (Instr.makeSlice 41 (.int .i64 (n : Nat)) (.int .i64 (n : Nat))).run Try.prog w = .ok (.slice (some ⟨w.heap.size, 0, none⟩) n n) (w.alloc (.cells (madeCells #[.int .i64 0] n) 3)) := by
  have := run_make (P := Try.prog) w 41 3 Try.t3 (.int .i64 0) Try.underlying41 (by kernel_rfl) (by kernel_rfl) .i64 .i64 n n (by omega) (Int.le_refl _) (by show ((8 : Nat) : Int) * (n : Nat) ≤ _; omega) (by omega)
  have e1 : Try.t3.size = 1 := by kernel_rfl
  rw [e1] at this
  simpa [Value.cells] using this

/-- What Keys answers. -/
def KeysAt (w : World) (ks : List Int) (e : Ending) (w' : World) : Prop :=
  ∃ g, e = .returned (.slice (some ⟨g, 0, none⟩) ks.length ks.length) ∧ w.heap.size ≤ g ∧ Blk w' g 3 (ks.map enc).toArray ∧ Chg (fun _ => False) w w'

theorem keys_row (ks : List Int) (cs : Array Value) (h1 : cs.size = ks.length) (h2 : ∀ (t : Nat) (ht : t < ks.reverse.length), cs[ks.length - 1 - t]? = some (enc (ks.reverse[t]))) : cs = (ks.map enc).toArray := by
  apply Array.ext
  · simp [h1]
  · intro i hi _
    have hl : i < ks.length := by omega
    have := h2 (ks.length - 1 - i) (by rw [List.length_reverse]; omega)
    rw [List.getElem_reverse] at this
    have e1 : ks.length - 1 - (ks.length - 1 - i) = i := by omega
    simp only [e1] at this
    rw [Array.getElem?_eq_getElem hi] at this
    simp only [Option.some.injEq] at this
    rw [this]
    simp

set_option maxRecDepth 100000 in
set_option maxHeartbeats 2000000 in
theorem keys_in (n : Nat) (hn : 5 ≤ n) (w : World) (b : Nat) (F : Nat → Prop) (ks : List Int) (h : Lst w b F ks) :
    CallsIn Fence.wide n Try.prog 29 #[.pointer (some ⟨b, 0, none⟩)] w (KeysAt w ks) := by
  have h1 : 1 ≤ n := by omega
  have hlen : ks.length ≤ 100000 := by
    obtain ⟨⟨g, cap, mb, N, ky, nx, pv, fv, ps, fr, f, hm⟩, _, _, _⟩ := h
    have := hm.count
    have := hm.few
    have : ps.length = ks.length := by rw [← hm.keys, List.length_map]
    omega
  have HL := hid h
  clear h
  obtain ⟨m, hm⟩ : ∃ m, m = ks.length := ⟨_, rfl⟩
  rw [← hm] at hlen
  have hmk := mk_keys m hlen
  have HM := hid hm
  refine callsIn_of_wp_marks Try.func29 rfl trivial ?_ rfl
  simp only [Try.ntmps29, List.size_toArray, List.length_cons, List.length_nil, Nat.reduceAdd, Nat.reduceSub, Array.replicate_succ, Array.replicate_zero, List.push_toArray, List.append_toArray, List.nil_append, List.cons_append]
  gi_wp2
  refine ⟨trivial, ?_⟩
  refine (callsIn_wide.2 (len_any _ b F ks HL.out)).mono ?_
  rintro e w' ⟨rfl, rfl⟩
  rw [← hm]
  clear hm
  gi_wp2
  refine ⟨trivial, ?_⟩
  refine (back_in Fence.wide (n - 1) trivial rfl _ _).mono ?_
  rintro e w' ⟨rfl, rfl⟩
  gi_wp2
  obtain ⟨W0, hW0⟩ : ∃ W0, (((w.alloc (.cells #[.int .i64 (m : Nat)] 3)).alloc (.cells (madeCells #[.int .i64 0] m) 3)).alloc (.cells #[.slice (some ⟨w.heap.size + 1, 0, none⟩) m m] 41)).alloc (.cells #[.pointer (some ⟨b, 0, none⟩)] 63) = W0 := ⟨_, rfl⟩
  have ch := fun (v : World) (o : Obj) => (Chg.refl (fun _ => False) v).alloc o
  have hs0 : W0.heap.size = w.heap.size + 4 := by rw [← hW0]; simp
  have hC0 : Chg (fun _ => False) w W0 := by rw [← hW0]; exact (((ch w _).alloc _).alloc _).alloc _
  have hB0 : Blk W0 w.heap.size 3 #[.int .i64 (m : Nat)] := by
    rw [← hW0]; exact (((Blk.new w _ _).alloc _).alloc _).alloc _
  have hB1 : Blk W0 (w.heap.size + 1) 3 (madeCells #[.int .i64 0] m) := by
    rw [← hW0]
    have := Blk.new (w.alloc (.cells #[.int .i64 (m : Nat)] 3)) 3 (madeCells #[.int .i64 0] m)
    rw [World.size_alloc] at this
    exact (this.alloc _).alloc _
  have hB2 : Blk W0 (w.heap.size + 2) 41 #[.slice (some ⟨w.heap.size + 1, 0, none⟩) m m] := by
    rw [← hW0]
    have := Blk.new ((w.alloc (.cells #[.int .i64 (m : Nat)] 3)).alloc (.cells (madeCells #[.int .i64 0] m) 3)) 41 #[.slice (some ⟨w.heap.size + 1, 0, none⟩) m m]
    rw [World.size_alloc, World.size_alloc] at this
    exact this.alloc _
  have hB3 : Blk W0 (w.heap.size + 3) 63 #[.pointer (some ⟨b, 0, none⟩)] := by
    rw [← hW0]
    have := Blk.new (((w.alloc (.cells #[.int .i64 (m : Nat)] 3)).alloc (.cells (madeCells #[.int .i64 0] m) 3)).alloc (.cells #[.slice (some ⟨w.heap.size + 1, 0, none⟩) m m] 41)) 63 #[.pointer (some ⟨b, 0, none⟩)]
    rw [World.size_alloc, World.size_alloc, World.size_alloc] at this
    exact this
  have hL0 := HL.out.chg hC0 (fun _ _ h => h)
  rw [hW0]
  have HWS := hid hs0
  have HGl : ∀ k, (F k ∨ k = w.heap.size + 3) → k < W0.heap.size := fun k hk => by
    rcases hk with hk | hk
    · exact hL0.lt k hk
    · omega
  clear hmk
  refine wpIn_rangeFunc_ownG (F := Fence.wide) rfl h1 (gf := 49) (lb := #[.pointer (some ⟨w.heap.size + 3, 0, none⟩)]) rfl trivial (enters_of Try.func49 (by kernel_rfl) rfl)
    (back_stops Fence.wide (n - 1) trivial rfl (by omega) (w.heap.size + 3) b F (fun k => F k ∨ k = w.heap.size + 3) ks W0 (fun k hk => Or.inl hk) (Or.inr rfl) HGl (by rw [hB3.cell]; rfl) hL0) Kp.t (Kp.b HGl) (Below.refl _ _) (fun _ => rfl)
    (fun pre W => (W.cell? ⟨w.heap.size, 0, none⟩ = some (.int .i64 ((m : Int) - (pre.length : Nat))) ∧ W.frozen? ⟨w.heap.size, 0, none⟩ = false) ∧ W.cell? ⟨w.heap.size + 2, 0, none⟩ = some (.slice (some ⟨w.heap.size + 1, 0, none⟩) m m) ∧ (∃ cs, Blk W (w.heap.size + 1) 3 cs ∧ cs.size = m ∧ ∀ (t : Nat) (ht : t < pre.length), cs[m - 1 - t]? = some (enc (pre[t]).1)) ∧ Chg (fun _ => False) w W)
    (fun c pre W => False)
    ?hI ?hIx ?h0
    (fun x => { tmps := #[.pointer (some ⟨b, 0, none⟩), undef, .slice none 0 0, .pointer (some ⟨w.heap.size, 0, none⟩), .pointer (some ⟨w.heap.size + 1 + 1, 0, none⟩), enc x.1, .pointer (some ⟨b, 0, none⟩), .int .i64 (m : Nat), .int .i64 (m : Nat), .slice (some ⟨w.heap.size + 1, 0, none⟩) m m, .pointer (some ⟨b, 0, none⟩), .func (.func 49) #[] #[.pointer (some ⟨w.heap.size + 3, 0, none⟩)], enc x.1, undef, undef, undef, undef, undef, undef, undef], defers := [] }) ?assign ?body ?done ?stop
  case hI =>
    rintro s A B row ⟨⟨q1, q2⟩, q3, ⟨cs, hb, hcs⟩, hc⟩ hg hr
    have hrr : ∀ r, row = some r → ∃ o : Obj, A.heap[r]? = some o ∧ o.isCells = false := fun r e => (hr r e).2
    have hcg : Chg (fun k => W0.heap.size ≤ k) A B := ⟨hg.os, hg.tape, hg.output, hg.size, fun k hk hn => hg.block k hk (fun e => by have := (hr k e.symm).1; omega)⟩
    have hcb : Blk B (w.heap.size + 1) 3 cs := hcg.blk hb (fun h => by omega)
    exact ⟨⟨cell_kept q1 hg hrr, (frozen_kept q1 hg hrr).trans q2⟩, cell_kept q3 hg hrr, ⟨cs, hcb, hcs⟩, hc.into hcg (fun k hk e => by omega)⟩
  case hIx =>
    rintro c s A B row h hg hr
    exact h
  case h0 =>
    refine ⟨⟨by rw [hB0.cell]; simp, hB0.frozen 0⟩, by rw [hB2.cell]; rfl, ⟨_, hB1, size_madeCells _ _, fun t ht => absurd ht (Nat.not_lt_zero _)⟩, hC0⟩
  case assign =>
    intro l x W K hK
    gi_wp2
    exact hK
  case body =>
    rintro l pre x W ⟨⟨q1, q2⟩, q3, ⟨cs, hb, hcs, hct⟩, hc⟩ hl
    have HB := hid hb
    have HC := hid hc
    have HCT := hid hct
    have HCS := hid hcs
    have hlm : pre.length < m := by have := HM.out; omega
    obtain ⟨u, hat⟩ : ∃ u, W.cell? ⟨w.heap.size + 1, m - pre.length - 1, none⟩ = some u := ⟨_, by
      rw [hb.cell]
      exact Array.getElem?_eq_getElem (by omega)⟩
    have hfr : W.frozen? ⟨w.heap.size + 1, m - pre.length - 1, none⟩ = false := hb.frozen _
    clear hcs hct hc hb
    gi_wp2
    have hch : Chg (fun k => k = w.heap.size ∨ k = w.heap.size + 1) W ((W.setCell ⟨w.heap.size, 0, none⟩ (.int .i64 ((m : Int) - (pre.length : Nat) - 1))).setCell ⟨w.heap.size + 1, m - pre.length - 1, none⟩ (enc x.1)) :=
      ((Chg.refl _ _).setCell (p := ⟨w.heap.size, 0, none⟩) (Or.inl rfl) _).setCell (p := ⟨w.heap.size + 1, m - pre.length - 1, none⟩) (Or.inr rfl) _
    have hb2 := ((HB.out.far (p := ⟨w.heap.size, 0, none⟩) (by simp) (.int .i64 ((m : Int) - (pre.length : Nat) - 1))).set_ (m - pre.length - 1) (enc x.1))
    refine ⟨((KeepsOthers.setCell _ _ _).trans (KeepsOthers.setCell _ _ _)).from _, ?_, ⟨?_, ?_⟩, hch.cell q3 (by simp), ⟨_, hb2, by rw [Array.size_setIfInBounds]; exact HCS.out, ?_⟩, HC.out.into hch (fun k hk e => by omega)⟩
    · refine hch.weaken (fun k hk he hg => ?_)
      rcases hg with hg | hg
      · have := HL.out.lt k hg
        omega
      · omega
    · rw [World.cell?_setCell_other _ _ _ _ (by intro e; injection e with e; omega), World.cell?_setCell_same' _ _ _ (by rw [q1]; rfl)]
      simp only [List.length_append, List.length_cons, List.length_nil]
      congr 2
      omega
    · rw [World.frozen?_setCell, World.frozen?_setCell]
      exact q2
    · intro t ht
      simp only [List.length_append, List.length_cons, List.length_nil] at ht
      by_cases h : t < pre.length
      · rw [Array.getElem?_setIfInBounds_ne (by omega), List.getElem_append_left h]
        exact HCT.out t h
      · have e : t = pre.length := by omega
        subst e
        rw [show m - 1 - pre.length = m - pre.length - 1 by omega, Array.getElem?_setIfInBounds_self_of_lt (by have := HCS.out; omega)]
        simp
  case done =>
    rintro D xs W hDl hall ⟨⟨q1, q2⟩, q3, ⟨cs, hb, hcs, hct⟩, hc⟩ hD
    have HB := hid hb
    have HC := hid hc
    have HCT := hid hct
    have HCS := hid hcs
    have HALL := hid hall
    have HDL := hid hDl
    clear hb hc hct hcs hall hDl
    gi_wp2
    refine ⟨by simp, .inl ⟨_, _, rfl, run_takeDeferred hD, ?_⟩⟩
    have hg := grownBy_putObj' W D (.deferred none)
    have hch : Chg (fun k => k = D) W (W.putObj D (.deferred none)) :=
      ⟨hg.os, hg.tape, hg.output, hg.size, fun k hk hn => hg.block k hk (fun e => by cases e; exact hn rfl)⟩
    have hcs : cs = (ks.map enc).toArray := keys_row ks cs (by rw [HCS.out, HM.out]) (fun t ht => by
      have e := HALL.out
      have hx : t < xs.length := by
        have := congrArg List.length e
        simp only [List.length_map] at this
        omega
      have h := HCT.out t hx
      rw [HM.out] at h
      rw [h]
      congr 2
      simp only [← e, List.getElem_map])
    refine ⟨.slice (some ⟨w.heap.size + 1, 0, none⟩) m m, ?_, w.heap.size + 1, ?_, by omega, ?_, HC.out.into hch (fun k hk e => by have := HDL.out; have := HWS.out; omega)⟩
    · simp [results, Try.f29, go_sem, Try.results29]
    · rw [← HM.out]
    · rw [← hcs]
      exact hch.blk HB.out (fun e => by have := HDL.out; have := HWS.out; omega)
  case stop =>
    rintro D c pre W _ _ hF _
    exact hF.elim
theorem keys_any (w : World) (b : Nat) (F : Nat → Prop) (ks : List Int) (h : Lst w b F ks) : Calls Try.prog 29 #[.pointer (some ⟨b, 0, none⟩)] w (KeysAt w ks) :=
  callsIn_wide.1 (keys_in 5 (Nat.le_refl _) w b F ks h)
end Go.Proofs.Ytfkedhclhmbpfaa.LI
end

section
namespace Go.Proofs.Ytfkedhclhmbpfaa.LI
open Go.RowKit Go.Maps Go.Shelf
set_option linter.unusedVariables false
set_option linter.unusedSimpArgs false
attribute [local go_sem] Oper.semAt_some

set_option maxRecDepth 100000 in
set_option maxHeartbeats 2000000 in
theorem keys_nil_in (n : Nat) (hn : 5 ≤ n) (w : World) :
    CallsIn Fence.wide n Try.prog 29 #[.pointer none] w (KeysAt w []) := by
  have h1 : 1 ≤ n := by omega
  have hmk : ∀ w, (Instr.makeSlice 41 (.int .i64 0) (.int .i64 0)).run Try.prog w = .ok (.slice (some ⟨w.heap.size, 0, none⟩) 0 0) (w.alloc (.cells #[] 3)) := fun w => by kernel_rfl
  refine callsIn_of_wp_marks Try.func29 rfl trivial ?_ rfl
  simp only [Try.ntmps29, List.size_toArray, List.length_cons, List.length_nil, Nat.reduceAdd, Nat.reduceSub, Array.replicate_succ, Array.replicate_zero, List.push_toArray, List.append_toArray, List.nil_append, List.cons_append]
  gi_wp2
  refine ⟨trivial, ?_⟩
  refine (callsIn_wide.2 (len_nil _)).mono ?_
  rintro e w' ⟨rfl, rfl⟩
  gi_wp2
  refine ⟨trivial, ?_⟩
  refine (back_in Fence.wide (n - 1) trivial rfl _ _).mono ?_
  rintro e w' ⟨rfl, rfl⟩
  gi_wp2
  obtain ⟨W0, hW0⟩ : ∃ W0, (((w.alloc (.cells #[.int .i64 0] 3)).alloc (.cells #[] 3)).alloc (.cells #[.slice (some ⟨w.heap.size + 1, 0, none⟩) 0 0] 41)).alloc (.cells #[.pointer none] 63) = W0 := ⟨_, rfl⟩
  have ch := fun (v : World) (o : Obj) => (Chg.refl (fun _ => False) v).alloc o
  have hs0 : W0.heap.size = w.heap.size + 4 := by rw [← hW0]; simp
  have hC0 : Chg (fun _ => False) w W0 := by rw [← hW0]; exact (((ch w _).alloc _).alloc _).alloc _
  have hB1 : Blk W0 (w.heap.size + 1) 3 #[] := by
    rw [← hW0]
    have := Blk.new (w.alloc (.cells #[.int .i64 0] 3)) 3 #[]
    rw [World.size_alloc] at this
    exact (this.alloc _).alloc _
  have hB2 : Blk W0 (w.heap.size + 2) 41 #[.slice (some ⟨w.heap.size + 1, 0, none⟩) 0 0] := by
    rw [← hW0]
    have := Blk.new ((w.alloc (.cells #[.int .i64 0] 3)).alloc (.cells #[] 3)) 41 #[.slice (some ⟨w.heap.size + 1, 0, none⟩) 0 0]
    rw [World.size_alloc, World.size_alloc] at this
    exact this.alloc _
  have hB3 : Blk W0 (w.heap.size + 3) 63 #[.pointer none] := by
    rw [← hW0]
    have := Blk.new (((w.alloc (.cells #[.int .i64 0] 3)).alloc (.cells #[] 3)).alloc (.cells #[.slice (some ⟨w.heap.size + 1, 0, none⟩) 0 0] 41)) 63 #[.pointer none]
    rw [World.size_alloc, World.size_alloc, World.size_alloc] at this
    exact this
  rw [hW0]
  have HWS := hid hs0
  have HGl : ∀ k, (k = w.heap.size + 3) → k < W0.heap.size := fun k hk => by omega
  clear hmk
  refine wpIn_rangeFunc_ownG (F := Fence.wide) rfl h1 (gf := 49) (lb := #[.pointer (some ⟨w.heap.size + 3, 0, none⟩)]) rfl trivial (enters_of Try.func49 (by kernel_rfl) rfl)
    (back_stops_nil Fence.wide (n - 1) trivial rfl (w.heap.size + 3) (fun k => k = w.heap.size + 3) W0 (by omega) (by rw [hB3.cell]; rfl)) Kp.t (Kp.b HGl) (Below.refl _ _) (fun _ => rfl)
    (fun pre W => W.cell? ⟨w.heap.size + 2, 0, none⟩ = some (.slice (some ⟨w.heap.size + 1, 0, none⟩) 0 0) ∧ Blk W (w.heap.size + 1) 3 #[] ∧ Chg (fun _ => False) w W)
    (fun c pre W => False)
    ?hI ?hIx ?h0
    (fun x => { tmps := #[.pointer none, undef, .slice none 0 0, .pointer (some ⟨w.heap.size, 0, none⟩), .pointer (some ⟨w.heap.size + 1 + 1, 0, none⟩), enc x, .pointer none, .int .i64 0, .int .i64 0, .slice (some ⟨w.heap.size + 1, 0, none⟩) 0 0, .pointer none, .func (.func 49) #[] #[.pointer (some ⟨w.heap.size + 3, 0, none⟩)], enc x, undef, undef, undef, undef, undef, undef, undef], defers := [] }) ?assign ?body ?done ?stop
  case hI =>
    rintro s A B row ⟨q3, hb, hc⟩ hg hr
    have hrr : ∀ r, row = some r → ∃ o : Obj, A.heap[r]? = some o ∧ o.isCells = false := fun r e => (hr r e).2
    have hcg : Chg (fun k => W0.heap.size ≤ k) A B := ⟨hg.os, hg.tape, hg.output, hg.size, fun k hk hn => hg.block k hk (fun e => by have := (hr k e.symm).1; omega)⟩
    exact ⟨cell_kept q3 hg hrr, hcg.blk hb (fun h => by omega), hc.into hcg (fun k hk e => by omega)⟩
  case hIx =>
    rintro c s A B row h hg hr
    exact h
  case h0 =>
    exact ⟨by rw [hB2.cell]; rfl, hB1, hC0⟩
  case assign =>
    intro l x W K hK
    gi_wp2
    exact hK
  case body =>
    rintro l pre x W _ hl
    exact absurd hl (Nat.not_lt_zero _)
  case done =>
    rintro D xs W hDl hall ⟨q3, hb, hc⟩ hD
    have HB := hid hb
    have HC := hid hc
    have HDL := hid hDl
    clear hb hc hall hDl
    gi_wp2
    refine ⟨by simp, .inl ⟨_, _, rfl, run_takeDeferred hD, ?_⟩⟩
    have hg := grownBy_putObj' W D (.deferred none)
    have hch : Chg (fun k => k = D) W (W.putObj D (.deferred none)) :=
      ⟨hg.os, hg.tape, hg.output, hg.size, fun k hk hn => hg.block k hk (fun e => by cases e; exact hn rfl)⟩
    refine ⟨.slice (some ⟨w.heap.size + 1, 0, none⟩) 0 0, ?_, w.heap.size + 1, rfl, by omega, ?_, HC.out.into hch (fun k hk e => by have := HDL.out; have := HWS.out; omega)⟩
    · simp [results, Try.f29, go_sem, Try.results29]
    · exact hch.blk HB.out (fun e => by have := HDL.out; have := HWS.out; omega)
  case stop =>
    rintro D c pre W _ _ hF _
    exact hF.elim
theorem keys_nil (w : World) : Calls Try.prog 29 #[.pointer none] w (KeysAt w []) :=
  callsIn_wide.1 (keys_nil_in 5 (Nat.le_refl _) w)
end Go.Proofs.Ytfkedhclhmbpfaa.LI
end

section
namespace Go.Proofs.Ytfkedhclhmbpfaa.LI
open Go.RowKit Go.Maps Go.Shelf
set_option linter.unusedVariables false
set_option linter.unusedSimpArgs false

/-- The blocks from base on, but for those of P. -/
def Sx (base : Nat) (P : List Nat) : Nat → Prop := fun k => base ≤ k ∧ k ∉ P
/-- A list of the call's own. -/
def T1 (base : Nat) (P : List Nat) (w : World) (a : Nat) (la : List Int) : Prop := ∃ F, Lst w a F la ∧ ∀ k, F k → Sx base P k
/-- Two of them. -/
def T2 (base : Nat) (P : List Nat) (w : World) (a : Nat) (la : List Int) (b : Nat) (lb : List Int) : Prop :=
  ∃ F G, Lst w a F la ∧ Lst w b G lb ∧ (∀ k, F k → Sx base P k) ∧ (∀ k, G k → Sx base P k) ∧ ∀ k, F k → ¬ G k
section
variable {base : Nat} {P : List Nat} {w w' : World} {a b : Nat} {la lb : List Int}
theorem T1.nodup (h : T1 base P w a la) : la.Nodup := by obtain ⟨F, h, _⟩ := h; exact h.nodup
theorem T1.good (h : T1 base P w a la) : ∀ k ∈ la, ok k := by obtain ⟨F, h, _⟩ := h; exact h.good
theorem T1.lt (h : T1 base P w a la) : a < w.heap.size := by
  obtain ⟨F, ⟨⟨g, cap, mb, N, ky, nx, pv, fv, ps, fr, f, hm⟩, h1, h2, h3⟩, _⟩ := h
  exact h3 _ hm.fb
theorem T1.chg (h : T1 base P w a la) (hc : Chg (fun _ => False) w w') : T1 base P w' a la := by
  obtain ⟨F, h1, h2⟩ := h
  exact ⟨F, h1.chg hc (fun _ _ h => h), h2⟩
theorem T1.skip (h : T1 base P w a la) {g : Nat} (hg : w.heap.size ≤ g) (hc : Chg (fun _ => False) w w') : T1 base (g :: P) w' a la := by
  obtain ⟨F, h1, h2⟩ := h
  refine ⟨F, h1.chg hc (fun _ _ h => h), fun k hk => ⟨(h2 k hk).1, fun hm => ?_⟩⟩
  rcases List.mem_cons.1 hm with rfl | hm
  · have := h1.lt k hk
    omega
  · exact (h2 k hk).2 hm
theorem T2.left (h : T2 base P w a la b lb) : T1 base P w a la := by obtain ⟨F, G, h1, h2, h3, h4, h5⟩ := h; exact ⟨F, h1, h3⟩
theorem T2.right (h : T2 base P w a la b lb) : T1 base P w b lb := by obtain ⟨F, G, h1, h2, h3, h4, h5⟩ := h; exact ⟨G, h2, h4⟩
theorem T2.swap (h : T2 base P w a la b lb) : T2 base P w b lb a la := by obtain ⟨F, G, h1, h2, h3, h4, h5⟩ := h; exact ⟨G, F, h2, h1, h4, h3, fun k hg hf => h5 k hf hg⟩
theorem T2.chg (h : T2 base P w a la b lb) (hc : Chg (fun _ => False) w w') : T2 base P w' a la b lb := by
  obtain ⟨F, G, h1, h2, h3, h4, h5⟩ := h
  exact ⟨F, G, h1.chg hc (fun _ _ h => h), h2.chg hc (fun _ _ h => h), h3, h4, h5⟩
theorem T2.skip (h : T2 base P w a la b lb) {g : Nat} (hg : w.heap.size ≤ g) (hc : Chg (fun _ => False) w w') : T2 base (g :: P) w' a la b lb := by
  obtain ⟨F, G, h1, h2, h3, h4, h5⟩ := h
  refine ⟨F, G, h1.chg hc (fun _ _ h => h), h2.chg hc (fun _ _ h => h), fun k hk => ⟨(h3 k hk).1, fun hm => ?_⟩, fun k hk => ⟨(h4 k hk).1, fun hm => ?_⟩, h5⟩
  · rcases List.mem_cons.1 hm with rfl | hm
    · have := h1.lt k hk
      omega
    · exact (h3 k hk).2 hm
  · rcases List.mem_cons.1 hm with rfl | hm
    · have := h2.lt k hk
      omega
    · exact (h4 k hk).2 hm
end

/-- All of P lies. -/
def Lie (P : List Nat) (w : World) : Prop := ∀ p ∈ P, p < w.heap.size
theorem Lie.mono {P : List Nat} {w w' : World} (h : Lie P w) (hs : w.heap.size ≤ w'.heap.size) : Lie P w' := fun p hp => Nat.lt_of_lt_of_le (h p hp) hs
theorem Lie.sx {P : List Nat} {w : World} (h : Lie P w) {base : Nat} (hb : base ≤ w.heap.size) {k : Nat} (hk : w.heap.size ≤ k) : Sx base P k := ⟨by omega, fun hm => by have := h k hm; omega⟩
theorem Lie.nil (w : World) : Lie [] w := fun p hp => by cases hp

theorem new_t1 (base : Nat) (P : List Nat) (w : World) (hb : base ≤ w.heap.size) (hP : Lie P w) :
    Calls Try.prog 21 #[] w fun e w' => e = .returned (.pointer (some ⟨w.heap.size + 2, 0, none⟩)) ∧ T1 base P w' (w.heap.size + 2) [] ∧ Chg (fun _ => False) w w' := by
  refine (new_any w).mono ?_
  rintro e w' ⟨he, hl, hc⟩
  exact ⟨he, ⟨_, hl, fun k hk => hP.sx hb hk.1⟩, hc⟩
theorem new_t2 (base : Nat) (P : List Nat) (w : World) (a : Nat) (la : List Int) (h : T1 base P w a la) (hb : base ≤ w.heap.size) (hP : Lie P w) :
    Calls Try.prog 21 #[] w fun e w' => e = .returned (.pointer (some ⟨w.heap.size + 2, 0, none⟩)) ∧ T2 base P w' a la (w.heap.size + 2) [] ∧ Chg (fun _ => False) w w' := by
  obtain ⟨F, h1, h2⟩ := h
  refine (new_any w).mono ?_
  rintro e w' ⟨he, hl, hc⟩
  exact ⟨he, ⟨F, _, h1.chg hc (fun _ _ h => h), hl, h2, fun k hk => hP.sx hb hk.1, fun k hk hk2 => by have := h1.lt k hk; omega⟩, hc⟩
theorem use_t1 (base : Nat) (P : List Nat) (w : World) (a : Nat) (la : List Int) (k : Int) (h : T1 base P w a la) (hb : base ≤ w.heap.size) (hP : Lie P w) (hok : ok k) (hn : la.length ≤ 99990) :
    Calls Try.prog 33 #[.pointer (some ⟨a, 0, none⟩), enc k] w fun e w' => e = .returned (.tuple #[]) ∧ T1 base P w' a (useL la k) ∧ Chg (Sx base P) w w' := by
  obtain ⟨F, h1, h2⟩ := h
  refine (use_any w a F la k h1 hok hn).mono ?_
  rintro e w' ⟨he, hl, hc⟩
  exact ⟨he, ⟨_, hl, fun k hk => by rcases hk with hk | hk; exact h2 k hk; exact hP.sx hb hk.1⟩, hc.weaken (fun k _ hk => h2 k hk)⟩
theorem use_t2 (base : Nat) (P : List Nat) (w : World) (a : Nat) (la : List Int) (b : Nat) (lb : List Int) (k : Int) (h : T2 base P w a la b lb) (hb : base ≤ w.heap.size) (hP : Lie P w) (hok : ok k) (hn : la.length ≤ 99990) :
    Calls Try.prog 33 #[.pointer (some ⟨a, 0, none⟩), enc k] w fun e w' => e = .returned (.tuple #[]) ∧ T2 base P w' a (useL la k) b lb ∧ Chg (Sx base P) w w' := by
  obtain ⟨F, G, h1, h2, h3, h4, h5⟩ := h
  refine (use_any w a F la k h1 hok hn).mono ?_
  rintro e w' ⟨he, hl, hc⟩
  refine ⟨he, ⟨_, G, hl, h2.chg hc (fun k hg hf => h5 k hf hg), fun k hk => by rcases hk with hk | hk; exact h3 k hk; exact hP.sx hb hk.1, h4, fun k hk hg => ?_⟩, hc.weaken (fun k _ hk => h3 k hk)⟩
  rcases hk with hk | hk
  · exact h5 k hk hg
  · have := h2.lt k hg
    omega
theorem drop_t1 (base : Nat) (P : List Nat) (w : World) (a : Nat) (la : List Int) (k : Int) (h : T1 base P w a la) (hb : base ≤ w.heap.size) (hP : Lie P w) (hok : ok k) :
    Calls Try.prog 30 #[.pointer (some ⟨a, 0, none⟩), enc k] w fun e w' => e = .returned (.bool (decide (k ∈ la))) ∧ T1 base P w' a (dropL la k) ∧ Chg (Sx base P) w w' := by
  obtain ⟨F, h1, h2⟩ := h
  by_cases hk : k ∈ la
  · refine (drop_some w a F la k h1 hk).mono ?_
    rintro e w' ⟨he, hl, hc⟩
    exact ⟨by rw [he, decide_eq_true hk], ⟨_, hl, fun k hk => by rcases hk with hk | hk; exact h2 k hk; exact hP.sx hb hk.1⟩, hc.weaken (fun k _ hk => h2 k hk)⟩
  · refine (drop_none w a F la k h1 hk hok).mono ?_
    rintro e w' ⟨he, rfl⟩
    refine ⟨by rw [he, decide_eq_false hk], ⟨F, ?_, h2⟩, Chg.refl _ _⟩
    rw [dropL_none hk]
    exact h1
/-- Keys, and the new row. -/
theorem keys_t1 (base : Nat) (P : List Nat) (w : World) (a : Nat) (la : List Int) (h : T1 base P w a la) : Calls Try.prog 29 #[.pointer (some ⟨a, 0, none⟩)] w (KeysAt w la) := by
  obtain ⟨F, h1, h2⟩ := h
  exact keys_any w a F la h1
theorem len_t1 (base : Nat) (P : List Nat) (w : World) (a : Nat) (la : List Int) (h : T1 base P w a la) : Calls Try.prog 25 #[.pointer (some ⟨a, 0, none⟩)] w fun e w' => e = .returned (.int .i64 la.length) ∧ w = w' := by
  obtain ⟨F, h1, h2⟩ := h
  exact len_any w a F la h1
--@need Last
theorem last_t1 (base : Nat) (P : List Nat) (w : World) (a : Nat) (la : List Int) (h : T1 base P w a la) : Calls Try.prog 28 #[.pointer (some ⟨a, 0, none⟩)] w fun e w' => e = .returned (lastV la.getLast?) ∧ Chg (fun _ => False) w w' := by
  obtain ⟨F, h1, h2⟩ := h
  exact last_any w a F la h1
--@end

/-- What comes of uses. -/
def usesL (l : List Int) : List Int := l.foldl useL []
theorem useL_len (l : List Int) (k : Int) : (useL l k).length ≤ l.length + 1 := by
  unfold useL dropL
  have := List.length_filter_le (fun x => decide (x ≠ k)) l
  simp only [List.length_cons]
  omega
theorem usesL_len (l : List Int) : (usesL l).length ≤ l.length := by
  have key : ∀ (l m : List Int), (l.foldl useL m).length ≤ m.length + l.length := by
    intro l
    induction l with
    | nil => intro m; simp
    | cons x r ih =>
      intro m
      have h1 := ih (useL m x)
      have h2 := useL_len m x
      simp only [List.foldl_cons, List.length_cons]
      omega
  simpa [usesL] using key l []
theorem usesL_take {l : List Int} {k : Nat} (h : k < l.length) : usesL (l.take (k + 1)) = useL (usesL (l.take k)) l[k] := by
  unfold usesL
  rw [List.take_succ_eq_append_getElem h, List.foldl_append]
  rfl
end Go.Proofs.Ytfkedhclhmbpfaa.LI
end
