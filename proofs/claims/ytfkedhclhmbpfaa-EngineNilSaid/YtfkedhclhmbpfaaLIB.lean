/-
  A list of keys in memory: New, Use, Drop, Has, Len.
-/
import Derived.Test.YtfkedhclhmbpfaaLIA
namespace Go.Proofs.Ytfkedhclhmbpfaa.LI
open Go.RowKit Go.Maps
set_option linter.unusedVariables false
set_option linter.unusedSimpArgs false

/-- Of what a list is made. -/
structure Made (w : World) (b : Nat) (F : Nat → Prop) (ks : List Int) (g cap mb N : Nat) (ky : Nat → Int) (nx pv : Nat → Nat) (fv : Value) (ps fr : List Nat) (f : Int → Option Value) : Prop where
  fb : F b
  fg : F g
  fm : F mb
  ff : ∀ x, fv.ownBlock = some x → F x
  raw : Raw w b g cap mb N ky nx pv fv fr
  map : Mp w enc ok mb f ps.length
  at_ : AtF f ps ky
  ring : Ring nx pv ps
  distinct : (0 :: (ps ++ fr)).Nodup
  inside : ∀ p ∈ ps ++ fr, p < N
  count : N = 1 + ps.length + fr.length
  keys : ps.map ky = ks
  few : N ≤ 100000

/-- Block b is a list of the keys ks, the first one first; all that it is made of lies in blocks of F. -/
structure Lst (w : World) (b : Nat) (F : Nat → Prop) (ks : List Int) : Prop where
  ex : ∃ g cap mb N ky nx pv fv ps fr f, Made w b F ks g cap mb N ky nx pv fv ps fr f
  nodup : ks.Nodup
  good : ∀ k ∈ ks, ok k
  lt : ∀ k, F k → k < w.heap.size

section
variable {w w' : World} {b : Nat} {F G : Nat → Prop} {ks : List Int} {g cap mb N : Nat} {ky : Nat → Int} {nx pv : Nat → Nat} {fv : Value} {ps fr : List Nat} {f : Int → Option Value}
theorem Made.chg {S : Nat → Prop} (h : Made w b F ks g cap mb N ky nx pv fv ps fr f) (hc : Chg S w w') (hs : ∀ k, F k → ¬ S k) : Made w' b F ks g cap mb N ky nx pv fv ps fr f :=
  ⟨h.fb, h.fg, h.fm, h.ff, h.raw.chg hc (hs _ h.fb) (hs _ h.fg) (fun x hx => hs _ (h.ff x hx)), h.map.chg hc (hs _ h.fm), h.at_, h.ring, h.distinct, h.inside, h.count, h.keys, h.few⟩
theorem Made.more (h : Made w b F ks g cap mb N ky nx pv fv ps fr f) (hg : ∀ k, F k → G k) : Made w b G ks g cap mb N ky nx pv fv ps fr f :=
  ⟨hg _ h.fb, hg _ h.fg, hg _ h.fm, fun x hx => hg _ (h.ff x hx), h.raw, h.map, h.at_, h.ring, h.distinct, h.inside, h.count, h.keys, h.few⟩
theorem Lst.chg {S : Nat → Prop} (h : Lst w b F ks) (hc : Chg S w w') (hs : ∀ k, F k → ¬ S k) : Lst w' b F ks := by
  obtain ⟨⟨g, cap, mb, N, ky, nx, pv, fv, ps, fr, f, hm⟩, h1, h2, h3⟩ := h
  exact ⟨⟨g, cap, mb, N, ky, nx, pv, fv, ps, fr, f, hm.chg hc hs⟩, h1, h2, fun k hk => Nat.lt_of_lt_of_le (h3 k hk) hc.size⟩
theorem Lst.weaken (h : Lst w b F ks) (hg : ∀ k, F k → G k) (hl : ∀ k, G k → k < w.heap.size) : Lst w b G ks := by
  obtain ⟨⟨g, cap, mb, N, ky, nx, pv, fv, ps, fr, f, hm⟩, h1, h2, h3⟩ := h
  exact ⟨⟨g, cap, mb, N, ky, nx, pv, fv, ps, fr, f, hm.more hg⟩, h1, h2, hl⟩
theorem Made.nd1 (h : Made w b F ks g cap mb N ky nx pv fv ps fr f) : (0 :: ps).Nodup := h.distinct.sublist (List.Sublist.cons_cons 0 (List.sublist_append_left ps fr))
theorem Made.ps_lt (h : Made w b F ks g cap mb N ky nx pv fv ps fr f) : ∀ p ∈ ps, p < N := fun p hp => h.inside p (List.mem_append_left _ hp)
theorem Made.mg (h : Made w b F ks g cap mb N ky nx pv fv ps fr f) : g ≠ mb := own_ne_m h.raw.row h.map g rfl
theorem Made.mf (h : Made w b F ks g cap mb N ky nx pv fv ps fr f) : ∀ x, fv.ownBlock = some x → x ≠ mb := own_ne_m h.raw.free h.map
theorem Made.mbb (h : Made w b F ks g cap mb N ky nx pv fv ps fr f) : b ≠ mb := blk_ne_m h.raw.blk h.map
end

/-- The footprint behind a call: what it was, and what is new. -/
def Ext (F : Nat → Prop) (w w' : World) : Nat → Prop := fun k => F k ∨ w.heap.size ≤ k ∧ k < w'.heap.size

theorem zeroI (w : World) : (zeroValue 3).run Try.prog w = .ok (.int .i64 0) w := by kernel_rfl

theorem Lst.look {w : World} {b : Nat} {F : Nat → Prop} {ks : List Int} {g cap mb N : Nat} {ky : Nat → Int} {nx pv : Nat → Nat} {fv : Value} {ps fr : List Nat} {f : Int → Option Value} (h : Made w b F ks g cap mb N ky nx pv fv ps fr f) {k : Int} (hk : ok k) :
    (Instr.lookup 88 (.map (some mb)) (enc k) true).run Try.prog w = .ok (.tuple #[(f k).getD (.int .i64 0), .bool (f k).isSome]) w := by
  have := h.map.look keyK Try.underlying88 (zeroI w) true hk
  simpa using this

set_option maxHeartbeats 1000000 in
theorem len_any (w : World) (b : Nat) (F : Nat → Prop) (ks : List Int) (h : Lst w b F ks) :
    Calls Try.prog 25 #[.pointer (some ⟨b, 0, none⟩)] w fun e w' => e = .returned (.int .i64 ks.length) ∧ w = w' := by
  obtain ⟨⟨g, cap, mb, N, ky, nx, pv, fv, ps, fr, f, hm⟩, h1, h2, h3⟩ := h
  have c2 := hm.raw.cell2
  have hl := fun ty => hm.map.len_ (P := Try.prog) Try.underlying88 ty
  have hlen : ps.length = ks.length := by rw [← hm.keys, List.length_map]
  rw [hlen] at hl
  clear h1 h2 h3 hm hlen
  go_enter Try.func25, Try.ntmps25
  go_wp2
  go_ret
  exact ⟨rfl, rfl⟩

set_option maxHeartbeats 1000000 in
theorem len_nil (w : World) : Calls Try.prog 25 #[.pointer none] w fun e w' => e = .returned (.int .i64 0) ∧ w = w' := by
  go_enter Try.func25, Try.ntmps25
  go_wp2
  go_ret
  exact ⟨rfl, rfl⟩

set_option maxHeartbeats 1000000 in
theorem use_nil (w : World) (k : Int) : Calls Try.prog 33 #[.pointer none, enc k] w fun e w' => e = .returned (.tuple #[]) ∧ w = w' := by
  go_enter Try.func33, Try.ntmps33
  go_wp2
  exact bodyPost_ret (results_none rfl _ _ _) rfl ⟨rfl, rfl⟩

set_option maxHeartbeats 1000000 in
theorem drop_nil (w : World) (k : Int) : Calls Try.prog 30 #[.pointer none, enc k] w fun e w' => e = .returned (.bool false) ∧ w = w' := by
  go_enter Try.func30, Try.ntmps30
  go_wp2
  go_ret
  exact ⟨rfl, rfl⟩

set_option maxHeartbeats 1000000 in
theorem new_any (w : World) : Calls Try.prog 21 #[] w fun e w' => e = .returned (.pointer (some ⟨w.heap.size + 2, 0, none⟩)) ∧ Lst w' (w.heap.size + 2) (fun k => w.heap.size ≤ k ∧ k < w.heap.size + 3) [] ∧ Chg (fun _ => False) w w' := by
  have hmm := @run_makeMap Try.prog
  have hmk : ∀ w, (Instr.makeSlice 87 (.int .i64 1) (.int .i64 1)).run Try.prog w = .ok (.slice (some ⟨w.heap.size, 0, none⟩) 1 1) (w.alloc (.cells #[.int .i64 0, .int .i64 0, .int .i64 0] 103)) := fun _ => by kernel_rfl
  go_enter Try.func21, Try.ntmps21
  go_wp2
  go_ret
  have r0 : (w.alloc (.cells #[.int .i64 0, .int .i64 0, .int .i64 0] 103)).ownsRow 0 103 3 (.slice (some ⟨w.heap.size, 0, none⟩) 1 1) 1 (cellsOf enc (fun _ => 0) (fun _ => 0) (fun _ => 0) 1) :=
    ⟨by simp [cellsOf], .inr ⟨w.heap.size, 1, #[.int .i64 0, .int .i64 0, .int .i64 0], rfl, Nat.zero_le _, heap_alloc_new w _, by omega, by unfold maxLen; omega, rfl, rfl⟩⟩
  have m0 : Mp ((w.alloc (.cells #[.int .i64 0, .int .i64 0, .int .i64 0] 103)).alloc (.map #[] 0)) enc ok (w.heap.size + 1) (fun _ => none) 0 := by
    have := Mp.made (w.alloc (.cells #[.int .i64 0, .int .i64 0, .int .i64 0] 103)) enc ok
    rwa [World.size_alloc] at this
  have b0 := Blk.new ((w.alloc (.cells #[.int .i64 0, .int .i64 0, .int .i64 0] 103)).alloc (.map #[] 0)) 90 #[.slice (some ⟨w.heap.size, 0, none⟩) 1 1, .slice none 0 0, .map (some (w.heap.size + 1))]
  rw [World.size_alloc, World.size_alloc] at b0
  have ch := fun (v : World) (o : Obj) => (Chg.refl (fun _ => False) v).alloc o
  refine ⟨rfl, ⟨⟨w.heap.size, 1, w.heap.size + 1, 1, fun _ => 0, fun _ => 0, fun _ => 0, .slice none 0 0, [], [], fun _ => none, ⟨⟨by omega, by omega⟩, ⟨by omega, by omega⟩, ⟨by omega, by omega⟩, by simp [Value.ownBlock], ⟨b0, own_chg (own_chg r0 (ch _ _) (fun _ _ h => h)) (ch _ _) (fun _ _ h => h), World.ownsRow_nil _ _ _ _⟩, m0.chg (ch _ _) (fun h => h), at_start _, ring_start, by simp, by simp, rfl, rfl, by omega⟩⟩, by simp, by simp, ?_⟩, ((ch w _).alloc _).alloc _⟩
  intro k hk
  simp
  omega

/-- A list behind place: a place i that is free. -/
structure Placed (w : World) (b : Nat) (F : Nat → Prop) (ks : List Int) (i g cap mb N : Nat) (ky : Nat → Int) (nx pv : Nat → Nat) (fv : Value) (ps fr : List Nat) (f : Int → Option Value) : Prop where
  fb : F b
  fg : F g
  fm : F mb
  ff : ∀ x, fv.ownBlock = some x → F x
  raw : Raw w b g cap mb N ky nx pv fv fr
  map : Mp w enc ok mb f ps.length
  at_ : AtF f ps ky
  ring : Ring nx pv ps
  distinct : (0 :: (i :: ps ++ fr)).Nodup
  inside : ∀ p ∈ i :: ps ++ fr, p < N
  count : N = 1 + (ps.length + 1) + fr.length
  keys : ps.map ky = ks
  few : N ≤ 100000
def PlacedAt (w : World) (b : Nat) (F : Nat → Prop) (ks : List Int) (e : Ending) (w' : World) : Prop :=
  ∃ i g cap mb N ky nx pv fv ps fr f, e = .returned (.int .i64 (i : Nat)) ∧ Placed w' b (Ext F w w') ks i g cap mb N ky nx pv fv ps fr f ∧ Chg F w w'

theorem place_any (w : World) (b : Nat) (F : Nat → Prop) (ks : List Int) (h : Lst w b F ks) (hl : ks.length ≤ 99990) :
    Calls Try.prog 42 #[.pointer (some ⟨b, 0, none⟩)] w (PlacedAt w b F ks) := by
  obtain ⟨⟨g, cap, mb, N, ky, nx, pv, fv, ps, fr, f, hm⟩, h1, h2, h3⟩ := h
  have hlen : ps.length = ks.length := by rw [← hm.keys, List.length_map]
  have hcount := hm.count
  rcases List.eq_nil_or_concat fr with rfl | ⟨fr', i, rfl⟩
  · refine (place_new w b g cap mb N ky nx pv fv hm.raw hm.few).mono ?_
    rintro e w' ⟨he, ⟨g', cap', hr, hg⟩, hc⟩
    have hcF : Chg F w w' := hc.weaken (fun k _ hk => by rcases hk with rfl | rfl; exact hm.fb; exact hm.fg)
    have hNi : N ∉ 0 :: ps := by
      intro hmem
      rcases List.mem_cons.1 hmem with h0 | hp
      · omega
      · have := hm.ps_lt N hp
        omega
    have hNp : N ∉ ps := fun hp => hNi (List.mem_cons_of_mem _ hp)
    refine ⟨N, g', cap', mb, N + 1, _, _, _, fv, ps, [], f, he, ⟨Or.inl hm.fb, ?_, Or.inl hm.fm, fun x hx => Or.inl (hm.ff x hx), hr, hm.map.chg hc (fun hk => by rcases hk with hk | hk; exact hm.mbb hk.symm; exact hm.mg hk.symm), at_upd hm.at_ hNp _, ring_upd hm.ring hNi _ _, ?_, ?_, by simp only [List.length_nil] at hcount ⊢; omega, by rw [map_upd hNp]; exact hm.keys, by simp only [List.length_nil] at hcount; omega⟩, hcF⟩
    · rcases hg with rfl | hg
      · exact Or.inl hm.fg
      · exact Or.inr ⟨hg, own_lt hr.row⟩
    · have hd := hm.distinct
      rw [List.append_nil] at hd ⊢
      obtain ⟨hd1, hd2⟩ := List.nodup_cons.1 hd
      refine List.nodup_cons.2 ⟨?_, List.nodup_cons.2 ⟨hNp, hd2⟩⟩
      intro h0
      rcases List.mem_cons.1 h0 with h0 | h0
      · omega
      · exact hd1 h0
    · intro p hp
      rw [List.append_nil] at hp
      rcases List.mem_cons.1 hp with rfl | hp
      · omega
      · have := hm.ps_lt p hp
        omega
  · rw [List.concat_eq_append] at hm hcount
    rw [List.length_append] at hcount
    simp only [List.length_cons, List.length_nil] at hcount
    have hraw := hm.raw
    refine (place_free w b g cap mb N i ky nx pv fv fr' hraw (by have := hm.few; omega)).mono ?_
    rintro e w' ⟨he, ⟨fv', hr, hf⟩, hc⟩
    have hcF : Chg F w w' := hc.weaken (fun k _ hk => by rw [hk]; exact hm.fb)
    have hperm : (0 :: (ps ++ (fr' ++ [i]))).Perm (0 :: (i :: ps ++ fr')) := by
      refine List.Perm.cons 0 ?_
      rw [← List.append_assoc]
      exact List.perm_append_singleton i (ps ++ fr')
    refine ⟨i, g, cap, mb, N, _, _, _, fv', ps, fr', f, he, ⟨Or.inl hm.fb, Or.inl hm.fg, Or.inl hm.fm, fun x hx => Or.inl (hm.ff x (hf ▸ hx)), hr, hm.map.chg hc (fun hk => hm.mbb hk.symm), hm.at_, hm.ring, hperm.nodup_iff.1 hm.distinct, ?_, by omega, hm.keys, hm.few⟩, hcF⟩
    intro p hp
    refine hm.inside p ?_
    have := (hperm.mem_iff (a := p)).2 (List.mem_cons_of_mem _ hp)
    rcases List.mem_cons.1 this with rfl | h
    · have hd := hperm.nodup_iff.1 hm.distinct
      exact absurd hp (List.nodup_cons.1 hd).1
    · exact h
end Go.Proofs.Ytfkedhclhmbpfaa.LI
