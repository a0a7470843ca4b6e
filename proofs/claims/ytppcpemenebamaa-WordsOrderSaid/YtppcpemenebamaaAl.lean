/-
  The table of words as the laws use it; the chapter's example.
-/
import Derived.Test.YtppcpemenebamaaLen
import Derived.LoopTactic
namespace Go.Proofs.Ytppcpemenebamaa
open Go.RowKit Go.Maps
set_option linter.unusedVariables false
set_option linter.unusedSimpArgs false

theorem ba_inj {a b : ByteArray} (h : a.toList = b.toList) : a = b := by
  rw [ByteArray.toList_eq, ByteArray.toList_eq] at h
  exact Go.WideShapes.bytes_inj h
theorem ba_ne {a b : ByteArray} (h : ¬ a = b) : (a.toList == b.toList) = false := by
  rw [beq_eq_false_iff_ne]
  exact fun e => h (ba_inj e)

def addT (l : List ByteArray) (s : ByteArray) : List ByteArray := match pos l s with | some _ => l | none => l ++ [s]
def numT (l : List ByteArray) (s : ByteArray) : Int := match pos l s with | some i => (i : Int) + 1 | none => (l.length : Int) + 1
theorem addT_some {l : List ByteArray} {s : ByteArray} {i : Nat} (h : pos l s = some i) : addT l s = l := by unfold addT; rw [h]
theorem addT_none {l : List ByteArray} {s : ByteArray} (h : pos l s = none) : addT l s = l ++ [s] := by unfold addT; rw [h]
theorem addT_length (l : List ByteArray) (s : ByteArray) : (addT l s).length ≤ l.length + 1 := by unfold addT; split <;> simp
def ded (l : List ByteArray) : List ByteArray := l.foldl addT []
theorem ded_snoc (l : List ByteArray) (s : ByteArray) : ded (l ++ [s]) = addT (ded l) s := by simp [ded]
theorem ded_length (l : List ByteArray) : (ded l).length ≤ l.length := by
  have : ∀ (l m : List ByteArray), (l.foldl addT m).length ≤ m.length + l.length := by
    intro l
    induction l with
    | nil => simp
    | cons x r ih => intro m; have := ih (addT m x); have := addT_length m x; simp; omega
  simpa [ded] using this l []
theorem ded_take {l : List ByteArray} {k : Nat} (h : k < l.length) : ded (l.take (k + 1)) = addT (ded (l.take k)) l[k] := by
  rw [List.take_succ_eq_append_getElem h, ded_snoc]

theorem Tab.weaken {w : World} {b : Nat} {F G : Nat → Prop} {l : List ByteArray} (h : Tab w b F l) (hg : ∀ k, F k → G k) (hl : ∀ k, G k → k < w.heap.size) : Tab w b G l := by
  obtain ⟨⟨mb, sv, fb, fm, fg, hb, hm, ho⟩, h1, h2, h3⟩ := h
  exact ⟨⟨mb, sv, hg _ fb, hg _ fm, fun g h => hg _ (fg g h), hb, hm, ho⟩, h1, h2, hl⟩

theorem of_any (w : World) (b : Nat) (F : Nat → Prop) (l : List ByteArray) (s : ByteArray) (h : Tab w b F l) (hs : okS s) (hn : l.length ≤ 100000) :
    Calls Try.prog 10 #[.pointer (some ⟨b, 0, none⟩), .string s] w fun e w' => e = .returned (.int .i64 (numT l s)) ∧ Tab w' b (fun k => F k ∨ w.heap.size ≤ k ∧ k < w'.heap.size) (addT l s) ∧ Chg F w w' := by
  unfold numT addT
  cases hp : pos l s with
  | some i =>
    refine (of_known w b F l s i h hs hp).mono ?_
    rintro e w' ⟨he, rfl⟩
    exact ⟨he, h.weaken (fun k hk => Or.inl hk) (fun k hk => by rcases hk with hk | hk; exact h.lt k hk; omega), Chg.refl _ _⟩
  | none => exact of_new w b F l s h hs hp hn

/-- A table of the call's own: all its blocks lie from base on. -/
def T1 (base : Nat) (w : World) (b : Nat) (l : List ByteArray) : Prop := ∃ F, Tab w b F l ∧ ∀ k, F k → base ≤ k
theorem T1.chg {base : Nat} {w w' : World} {b : Nat} {l : List ByteArray} (h : T1 base w b l) (hc : Chg (fun _ => False) w w') : T1 base w' b l := by
  obtain ⟨F, hF, hb⟩ := h
  exact ⟨F, hF.chg hc (fun _ _ h => h), hb⟩
theorem T1.small {base : Nat} {w : World} {b : Nat} {l : List ByteArray} (h : T1 base w b l) : ∀ s ∈ l, okS s := by
  obtain ⟨F, hF, hb⟩ := h
  exact hF.small
theorem T1.lt {base : Nat} {w : World} {b : Nat} {l : List ByteArray} (h : T1 base w b l) : b < w.heap.size := by
  obtain ⟨F, ⟨⟨mb, sv, fb, fm, fg, hb, hm, ho⟩, h1, h2, h3⟩, hf⟩ := h
  exact h3 _ fb
theorem of_t1 (base : Nat) (w : World) (b : Nat) (l : List ByteArray) (s : ByteArray) (h : T1 base w b l) (hb : base ≤ w.heap.size) (hs : okS s) (hn : l.length ≤ 100000) :
    Calls Try.prog 10 #[.pointer (some ⟨b, 0, none⟩), .string s] w fun e w' => e = .returned (.int .i64 (numT l s)) ∧ T1 base w' b (addT l s) ∧ Chg (fun k => base ≤ k) w w' := by
  obtain ⟨F, hF, hf⟩ := h
  refine (of_any w b F l s hF hs hn).mono ?_
  rintro e w' ⟨he, ht, hc⟩
  exact ⟨he, ⟨_, ht, fun k hk => by rcases hk with hk | hk; exact hf k hk; omega⟩, hc.weaken (fun k _ hk => hf k hk)⟩
theorem new_t1 (w : World) : Calls Try.prog 9 #[] w fun e w' => e = .returned (.pointer (some ⟨w.heap.size + 1, 0, none⟩)) ∧ T1 w.heap.size w' (w.heap.size + 1) [] ∧ Chg (fun _ => False) w w' := by
  refine (new_any w).mono ?_
  rintro e w' ⟨he, ht, hc⟩
  exact ⟨he, ⟨_, ht, fun k hk => hk.1⟩, hc⟩
theorem known_t1 (base : Nat) (w : World) (b : Nat) (l : List ByteArray) (s : ByteArray) (h : T1 base w b l) (hs : okS s) :
    Calls Try.prog 13 #[.pointer (some ⟨b, 0, none⟩), .string s] w fun e w' => e = .returned (.tuple #[.int .i64 (((pos l s).map fun i => (i : Int) + 1).getD 0), .bool (pos l s).isSome]) ∧ w = w' := by
  obtain ⟨F, hF, hf⟩ := h
  exact known_any w b F l s hF hs
theorem text_no_t1 (base : Nat) (w : World) (b : Nat) (l : List ByteArray) (n : Int) (h : T1 base w b l) (hn : n < 1 ∨ (l.length : Int) < n) (hl : l.length ≤ 100000) :
    Calls Try.prog 12 #[.pointer (some ⟨b, 0, none⟩), .int .i64 n] w fun e w' => e = .returned (.tuple #[.string ⟨#[]⟩, .int .i64 3]) ∧ w = w' := by
  obtain ⟨F, hF, hf⟩ := h
  exact text_no w b F l n hF hn hl
theorem text_ok_t1 (base : Nat) (w : World) (b : Nat) (l : List ByteArray) (k : Nat) (h : T1 base w b l) (hk : k < l.length) (hl : l.length ≤ 100000) :
    Calls Try.prog 12 #[.pointer (some ⟨b, 0, none⟩), .int .i64 ((k : Int) + 1)] w fun e w' => e = .returned (.tuple #[.string l[k], .int .i64 0]) ∧ w = w' := by
  obtain ⟨F, hF, hf⟩ := h
  exact text_ok w b F l k hF hk hl
theorem len_t1 (base : Nat) (w : World) (b : Nat) (l : List ByteArray) (h : T1 base w b l) (hl : l.length ≤ 100000) :
    Calls Try.prog 11 #[.pointer (some ⟨b, 0, none⟩)] w fun e w' => e = .returned (.int .i64 l.length) ∧ Chg (fun _ => False) w w' := by
  obtain ⟨F, hF, hf⟩ := h
  exact len_any w b F l hF hl
theorem bytes_t1 (base : Nat) (w : World) (b : Nat) (l : List ByteArray) (h : T1 base w b l) (hl : l.length ≤ 1000) :
    Calls Try.prog 15 #[.pointer (some ⟨b, 0, none⟩)] w fun e w' => e = .returned (.int .i64 (bytesOf l)) ∧ Chg (fun _ => False) w w' := by
  obtain ⟨F, hF, hf⟩ := h
  exact bytes_any w b F l hF hl

theorem okS_one (c : UInt8) : okS ⟨#[c]⟩ := by unfold okS; show (1 : Nat) ≤ _; omega

set_option maxHeartbeats 1000000 in
theorem alive_any (w : World) : Calls Try.prog 8 #[] w fun e w' => e = .returned (.bool true) ∧ Chg (fun _ => False) w w' := by
  go_enter Try.func8, Try.ntmps8
  go_wp2_with fail
  refine (new_t1 _).mono ?_
  rintro e w1 ⟨rfl, t1, g1⟩
  have k1 := g1.size
  go_wp2_with fail
  refine (of_t1 w.heap.size _ _ [] _ t1 k1 (okS_one _) (by simp)).mono ?_
  rintro e w2 ⟨rfl, t2, g2⟩
  have k2 := g2.size
  rw [show numT [] ⟨#[97]⟩ = 1 from rfl]
  go_wp2_with fail
  refine (of_t1 w.heap.size _ _ _ _ t2 (by omega) (okS_one _) (by decide)).mono ?_
  rintro e w3 ⟨rfl, t3, g3⟩
  have k3 := g3.size
  rw [show numT (addT [] ⟨#[97]⟩) ⟨#[98]⟩ = 2 from by decide]
  go_wp2_with fail
  refine (of_t1 w.heap.size _ _ _ _ t3 (by omega) (okS_one _) (by decide)).mono ?_
  rintro e w4 ⟨rfl, t4, g4⟩
  have k4 := g4.size
  rw [show numT (addT (addT [] ⟨#[97]⟩) ⟨#[98]⟩) ⟨#[97]⟩ = 1 from by decide]
  go_wp2_with fail
  refine (text_no_t1 w.heap.size _ _ _ 3 t4 (by right; decide) (by decide)).mono ?_
  rintro e w5 ⟨rfl, rfl⟩
  go_wp2_with fail
  go_ret
  exact ⟨rfl, ((g1.into g2 (by omega)).into g3 (by omega)).into g4 (by omega)⟩
end Go.Proofs.Ytppcpemenebamaa
