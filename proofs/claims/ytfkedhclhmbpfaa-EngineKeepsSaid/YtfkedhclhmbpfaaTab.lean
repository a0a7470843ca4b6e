/-
  The contracts of the table of words: New, Of, Known, Text.
-/
import Derived.Test.YtfkedhclhmbpfaaRows
import Derived.Test.YtfkedhclhmbpfaaOwn
import Derived.WalkKit
import Derived.WalkSpells
import Derived.WalkLawsBesides
import Derived.Deep.QuietTactic
import Derived.BigQuiet
import Derived.StillTailTactics
import Derived.Maps.AppendAt
import Derived.RangeFuncBox
namespace Go.Proofs.Ytfkedhclhmbpfaa
open Go.RowKit Go.Maps
set_option linter.unusedVariables false
set_option linter.unusedSimpArgs false

def okS (s : ByteArray) : Prop := s.size ≤ 140737488351232
theorem strK : KeyOfT Try.prog 9 Value.string okS :=
  ⟨string_keyed Try.underlying9, fun h => by injection h, fun {x} h => ⟨_, Go.WideMaps.keyOf_string_mk Try.underlying9 (by unfold okS at h; unfold maxLen; omega)⟩⟩

/-- Where a text stands on a list. -/
def pos : List ByteArray → ByteArray → Option Nat
  | [], _ => none
  | x :: r, s => if s = x then some 0 else (pos r s).map (· + 1)
theorem pos_some {l : List ByteArray} {s : ByteArray} {i : Nat} (h : pos l s = some i) : l[i]? = some s := by
  induction l generalizing i with
  | nil => simp [pos] at h
  | cons x r ih =>
    unfold pos at h
    split at h
    · rename_i e
      simp at h
      subst h e
      rfl
    · cases hp : pos r s with
      | none => rw [hp] at h; simp at h
      | some j =>
        rw [hp] at h
        simp at h
        subst h
        simpa using ih hp
theorem pos_none {l : List ByteArray} {s : ByteArray} : pos l s = none ↔ s ∉ l := by
  induction l with
  | nil => simp [pos]
  | cons x r ih =>
    unfold pos
    split
    · rename_i e; simp [e]
    · rename_i e
      rw [Option.map_eq_none_iff, ih]
      simp [e]
theorem pos_snoc (l : List ByteArray) (s x : ByteArray) : pos (l ++ [s]) x = match pos l x with | some i => some i | none => if x = s then some l.length else none := by
  induction l with
  | nil => simp [pos]
  | cons y r ih =>
    simp only [List.cons_append, pos, ih]
    by_cases e : x = y
    · simp [e]
    · simp only [e, if_false]
      cases pos r x with
      | some i => simp
      | none =>
        by_cases e2 : x = s <;> simp [e2]

def mapF (l : List ByteArray) : ByteArray → Option Value := fun s => (pos l s).map fun i => .int .i64 ((i : Int) + 1)

theorem mapF_snoc {l : List ByteArray} {s : ByteArray} (h : pos l s = none) (x : ByteArray) : mapF (l ++ [s]) x = putF (mapF l) s (.int .i64 ((l.length : Int) + 1)) x := by
  unfold mapF putF
  rw [pos_snoc]
  by_cases e : x = s
  · subst e; simp [h]
  · rw [if_neg e]
    cases hq : pos l x <;> simp [e, hq]

/-- Block b is a table with the texts l; all that it is made of lies in blocks of F. -/
structure Tab (w : World) (b : Nat) (F : Nat → Prop) (l : List ByteArray) : Prop where
  ex : ∃ mb sv, F b ∧ F mb ∧ (∀ g, sv.ownBlock = some g → F g) ∧ Blk w b 86 #[.map (some mb), sv] ∧ Mp w Value.string okS mb (mapF l) l.length ∧ w.ownsRow 0 9 1 sv l.length (l.map Value.string)
  nodup : l.Nodup
  small : ∀ s ∈ l, okS s
  lt : ∀ k, F k → k < w.heap.size

theorem Tab.chg {w w' : World} {b : Nat} {F S : Nat → Prop} {l : List ByteArray} (h : Tab w b F l) (hc : Chg S w w') (hs : ∀ k, F k → ¬ S k) : Tab w' b F l := by
  obtain ⟨⟨mb, sv, fb, fm, fg, hb, hm, ho⟩, h1, h2, h3⟩ := h
  exact ⟨⟨mb, sv, fb, fm, fg, hc.blk hb (hs _ fb), hm.chg hc (hs _ fm), own_chg ho hc (fun g hg => hs _ (fg g hg))⟩, h1, h2, fun k hk => Nat.lt_of_lt_of_le (h3 k hk) hc.size⟩

theorem zeroI (w : World) : (zeroValue 3).run Try.prog w = .ok (.int .i64 0) w := by kernel_rfl
theorem info9 : (Try.prog.info? 9).map (fun i => (i.zero, i.size, i.bytes)) = some (some (.string ByteArray.empty), 1, 16) := by kernel_rfl

set_option maxHeartbeats 400000 in
theorem words_new (w : World) : Calls Try.prog 20 #[] w fun e w' => e = .returned (.pointer (some ⟨w.heap.size + 1, 0, none⟩)) ∧ Tab w' (w.heap.size + 1) (fun k => w.heap.size ≤ k ∧ k < w.heap.size + 2) [] ∧ Chg (fun _ => False) w w' := by
  have hmm := @run_makeMap Try.prog
  go_enter Try.func20, Try.ntmps20
  go_wp2
  go_ret
  refine ⟨rfl, ⟨⟨w.heap.size, .slice none 0 0, ⟨by omega, by omega⟩, ⟨by omega, by omega⟩, by simp [Value.ownBlock], ?_, ?_, ?_⟩, by simp, by simp, ?_⟩, ((Chg.refl _ _).alloc _).alloc _⟩
  · have := Blk.new (w.alloc (.map #[] 0)) 86 #[.map (some w.heap.size), .slice none 0 0]
    rwa [World.size_alloc] at this
  · exact ((Mp.made w Value.string okS).chg ((Chg.refl (fun _ => False) _).alloc _) (fun h => h)).congr (fun x => rfl)
  · exact World.ownsRow_nil _ _ _ _
  · intro k hk
    simp
    omega

set_option maxHeartbeats 400000 in
theorem of_known (w : World) (b : Nat) (F : Nat → Prop) (l : List ByteArray) (s : ByteArray) (i : Nat) (h : Tab w b F l) (hs : okS s) (hp : pos l s = some i) :
    Calls Try.prog 47 #[.pointer (some ⟨b, 0, none⟩), .string s] w fun e w' => e = .returned (.int .i64 ((i : Int) + 1)) ∧ w = w' := by
  obtain ⟨⟨mb, sv, fb, fm, fg, hb, hm, ho⟩, h1, h2, h3⟩ := h
  have c0 : w.cell? ⟨b, 0, none⟩ = some (.map (some mb)) := by rw [hb.cell]; rfl
  have hl := hm.look strK Try.underlying83 (zeroI w) true hs
  simp [mapF, hp] at hl
  clear hb hm ho h1 h2 h3 fb fm fg hp hs
  go_enter Try.func47, Try.ntmps47
  go_wp2
  go_ret
  exact ⟨rfl, rfl⟩

set_option maxHeartbeats 400000 in
theorem of_nil (w : World) (s : ByteArray) : Calls Try.prog 47 #[.pointer none, .string s] w fun e w' => e = .returned (.int .i64 0) ∧ w = w' := by
  go_enter Try.func47, Try.ntmps47
  go_wp2
  go_ret
  exact ⟨rfl, rfl⟩

set_option maxHeartbeats 1000000 in
theorem of_new (w : World) (b : Nat) (F : Nat → Prop) (l : List ByteArray) (s : ByteArray) (h : Tab w b F l) (hs : okS s) (hp : pos l s = none) (hn : l.length ≤ 100000) :
    Calls Try.prog 47 #[.pointer (some ⟨b, 0, none⟩), .string s] w fun e w' => e = .returned (.int .i64 ((l.length : Int) + 1)) ∧ Tab w' b (fun k => F k ∨ w.heap.size ≤ k ∧ k < w'.heap.size) (l ++ [s]) ∧ Chg F w w' := by
  obtain ⟨i0, hi, hz0, hz1, hz2⟩ := info_parts info9
  obtain ⟨⟨mb, sv, fb, fm, fg, hb, hm, ho⟩, h1, h2, h3⟩ := h
  have c0 : w.cell? ⟨b, 0, none⟩ = some (.map (some mb)) := by rw [hb.cell]; rfl
  have c1 : w.cell? ⟨b, 1, none⟩ = some sv := by rw [hb.cell]; rfl
  have hl := hm.look strK Try.underlying83 (zeroI w) true hs
  simp [mapF, hp] at hl
  have hbg := own_ne_b ho hb (by decide)
  have hmg := own_ne_m ho hm
  have hbm := blk_ne_m hb hm
  have hbl := hb.lt
  go_enter Try.func47, Try.ntmps47
  go_wp2_with (first
    | (at_builtin
       go_loud (refine wpList_append_own_at _ rfl (.tmp 24) (.tmp 26) 84 rfl 0 9 i0 (.string ByteArray.empty) 1 16 Try.underlying84 hi hz0 hz1 hz2 rfl (by decide) sv l.length (l.map Value.string) rfl (own_chg ho ((Chg.refl (fun _ => False) _).alloc _) (fun _ _ h => h)) ⟨w.heap.size, 0, none⟩ 1 1 [.string s] rfl rfl (cell_one_new _ _ _) (by simp [Value.oneCell']) (by unfold maxLen; omega) (by omega) (Nat.zero_le _) ?_)
       intro v' w1 hown1 hgrow hnil hat
       obtain ⟨g', cap', rfl⟩ := ownsRow_succ hown1
       have hg1 : Chg (fun k => some k = sv.ownBlock) w w1 := ((Chg.refl _ _).alloc _).trans (chg_of_grown hgrow)
       have hb1 := hg1.blk hb (fun e => hbg _ e.symm rfl)
       have hm1 := hm.chg hg1 (fun e => hmg _ e.symm rfl)
       have d1 : w1.cell? ⟨b, 1, none⟩ = some sv := by rw [hb1.cell]; rfl
       have d0 : w1.cell? ⟨b, 0, none⟩ = some (.map (some mb)) := by rw [hb1.cell]; rfl
       have f1 := hb1.frozen 1))
  have hm2 : Mp (w1.setCell ⟨b, 1, none⟩ (.slice (some ⟨g', 0, none⟩) (l.length + 1) cap')).drew Value.string okS mb (mapF l) l.length := hm1.chg (((Chg.refl (fun k => k = b) w1).setCell (p := ⟨b, 1, none⟩) rfl _).drew) (fun e => hbm e.symm)
  obtain ⟨w3, hst, hm3, hg3, hz3⟩ := hm2.store strK Try.underlying83 hs (.int .i64 ((l.length : Int) + 1))
  rw [show ((mapF l) s).isSome = false by simp [mapF, hp]] at hm3
  have hb3 : Blk w3 b 86 #[.map (some mb), .slice (some ⟨g', 0, none⟩) (l.length + 1) cap'] := hg3.blk ((hb1.set_ 1 _).drew) hbm
  have e1 : w3.cell? ⟨b, 1, none⟩ = some (.slice (some ⟨g', 0, none⟩) (l.length + 1) cap') := by rw [hb3.cell]; rfl
  go_region
  go_wp2_with fail
  go_ret
  have hF1 : Chg F w w1 := hg1.weaken (fun k _ e => fg k e.symm)
  have hF2 : Chg F w w3 := (((hF1.setCell (p := ⟨b, 1, none⟩) fb _).drew)).trans (hg3.weaken (fun k _ e => by rw [e]; exact fm))
  have hsz : w3.heap.size = w1.heap.size := by rw [hz3]; simp [World.setCell, World.drew]
  have hlt1 := hown1.lt g' rfl
  refine ⟨rfl, ⟨⟨mb, _, Or.inl fb, Or.inl fm, ?_, hb3, ?_, ?_⟩, ?_, ?_, ?_⟩, hF2⟩
  · intro g hg
    simp only [Value.ownBlock, Option.some.injEq] at hg
    subst hg
    rcases hat with h | h
    · exact Or.inl (fg _ (h ▸ rfl))
    · simp [Value.ownBlock] at h
      refine Or.inr ?_
      show w.heap.size ≤ g' ∧ g' < w3.heap.size
      omega
  · rw [List.length_append]
    exact hm3.congr (mapF_snoc hp)
  · rw [List.map_append, List.length_append]
    have h4 := own_chg (own_chg hown1 ((Chg.refl (fun k => k = b) w1).setCell (p := ⟨b, 1, none⟩) rfl (.slice (some ⟨g', 0, none⟩) (l.length + 1) cap')).drew (fun g hg e => own_ne_b hown1 hb1 (by decide) g hg e)) hg3 (fun g hg e => own_ne_m hown1 hm1 g hg e)
    exact h4
  · rw [List.nodup_append]
    exact ⟨h1, by simp, by intro a ha b hb e; simp at hb; subst hb; subst e; exact pos_none.1 hp ha⟩
  · intro x hx
    rcases List.mem_append.1 hx with hx | hx
    · exact h2 x hx
    · simp at hx
      subst hx
      exact hs
  · intro k hk
    rcases hk with hk | hk
    · exact Nat.lt_of_lt_of_le (h3 k hk) hF2.size
    · exact hk.2

end Go.Proofs.Ytfkedhclhmbpfaa
