/-
  Two engines of a law, in one world.
-/
import Derived.Test.YtfkedhclhmbpfaaLiv
namespace Go.Proofs.Ytfkedhclhmbpfaa
open Go.RowKit Go.Maps
set_option linter.unusedVariables false
set_option linter.unusedSimpArgs false

/-- Two engines that share no block; their blocks are the law's own, and none of P. -/
def Pair (A : Option Addr) (rs : List Rule) (cap : Nat) (B : Nat) (P : Nat → Prop) (L M : Lay) (w : World) (a b : St) : Prop :=
  ∃ p q, EngAt w L p (rvOf A rs cap) a ∧ EngAt w M q (rvOf A rs cap) b ∧ RulesAt w (fun k => B ≤ k) A rs ∧ (∀ k, p.F k → B ≤ k ∧ ¬ P k ∧ ¬ q.F k) ∧ (∀ k, q.F k → B ≤ k ∧ ¬ P k)

section
variable {A : Option Addr} {rs : List Rule} {cap B : Nat} {P : Nat → Prop} {L M : Lay} {w w' : World} {a b a' b' : St}
theorem Pair.swap (h : Pair A rs cap B P L M w a b) : Pair A rs cap B P M L w b a := by
  obtain ⟨p, q, h1, h2, h3, h4, h5⟩ := h
  exact ⟨q, p, h2, h1, h3, fun k hk => ⟨(h5 k hk).1, (h5 k hk).2, fun hp => (h4 k hp).2.2 hk⟩, fun k hk => ⟨(h4 k hk).1, (h4 k hk).2.1⟩⟩
theorem Pair.mono (h : Pair A rs cap B P L M w a b) (hc : Chg (fun _ => False) w w') : Pair A rs cap B P L M w' a b := by
  obtain ⟨p, q, h1, h2, h3, h4, h5⟩ := h
  exact ⟨p, q, h1.mono hc, h2.mono hc, h3.chg (hc.weaken (fun _ _ h => h.elim)) (fun k hk => .inl hk), h4, h5⟩
theorem Pair.more {P' : Nat → Prop} (h : Pair A rs cap B P L M w a b) (hp : ∀ k, P' k → P k ∨ w.heap.size ≤ k) : Pair A rs cap B P' L M w a b := by
  obtain ⟨p, q, h1, h2, h3, h4, h5⟩ := h
  refine ⟨p, q, h1, h2, h3, fun k hk => ⟨(h4 k hk).1, fun hh => ?_, (h4 k hk).2.2⟩, fun k hk => ⟨(h5 k hk).1, fun hh => ?_⟩⟩
  · rcases hp k hh with h | h
    · exact (h4 k hk).2.1 h
    · have := h1.lt k hk
      omega
  · rcases hp k hh with h | h
    · exact (h5 k hk).2 h
    · have := h2.lt k hk
      omega
/-- A call of the first. -/
theorem Pair.kept {p q : Fp} (hk : Kept L p (rvOf A rs cap) w a' w') (h2 : EngAt w M q (rvOf A rs cap) b) (h3 : RulesAt w (fun k => B ≤ k) A rs) (h4 : ∀ k, p.F k → B ≤ k ∧ ¬ P k ∧ ¬ q.F k) (h5 : ∀ k, q.F k → B ≤ k ∧ ¬ P k) (hB : B ≤ w.heap.size) (hP : Lie P w) :
    Pair A rs cap B P L M w' a' b ∧ Chg (fun k => B ≤ k ∧ ¬ P k) w w' := by
  obtain ⟨p', e1, e2, e3⟩ := hk
  have hlt := h2.lt
  refine ⟨⟨p', q, e1, h2.chg e3 (fun k hq hp => (h4 k hp).2.2 hq), h3.chg (e3.weaken (fun k _ hk => (h4 k hk).1)) (fun k hk => .inl hk), fun k hk => ?_, h5⟩, e3.weaken (fun k _ hk => ⟨(h4 k hk).1, (h4 k hk).2.1⟩)⟩
  rcases e2 k hk with h | h
  · exact h4 k h
  · exact ⟨by omega, (fun hh => by have := hP k hh; omega), fun hq => by have := hlt k hq; omega⟩
theorem pair_new (hR : RulesAt w (fun k => B ≤ k) A rs) (h : Liv A rs cap B P L w a) (hB : B ≤ w.heap.size) (hP : Lie P w) {n : Int} (h0 : 0 ≤ n) (h1 : n ≤ 1099511627776) :
    Calls Try.prog 11 #[rvOf A rs cap, .int .i64 n] w fun e w' => ∃ M, e = .returned (.tuple #[En M, .int .i64 0]) ∧ Pair A rs cap B P L M w' a (newM n) ∧ Chg (fun _ => False) w w' := by
  refine (New_ok A rs cap w n h0 h1).mono ?_
  rintro e w' ⟨M, q, rfl, h2, h3, h4⟩
  obtain ⟨p, e1, e2, e3⟩ := h
  have hlt := e1.lt
  exact ⟨M, rfl, ⟨p, q, e1.mono h4, h2, hR.chg (h4.weaken (fun _ _ h => h.elim)) (fun k hk => .inl hk), fun k hk => ⟨(e3 k hk).1, (e3 k hk).2, fun hq => by have := h3 k hq; have := hlt k hk; omega⟩, fun k hk => ⟨by have := h3 k hk; omega, fun hh => by have := h3 k hk; have := hP k hh; omega⟩⟩, h4⟩
theorem pair_set (h : Pair A rs cap B P L M w a b) (hB : B ≤ w.heap.size) (hP : Lie P w) {k : Int} (hk : ok k) {s : ByteArray} (hs : s.size ≤ 1000000) (hm : setM a k s = some a') :
    Calls Try.prog 12 #[En L, enc k, .string s] w fun e w' => e = .returned (.tuple #[]) ∧ Pair A rs cap B P L M w' a' b ∧ Chg (fun k => B ≤ k ∧ ¬ P k) w w' := by
  obtain ⟨p, q, h1, h2, h3, h4, h5⟩ := h
  refine (Set_any w L p _ a k s a' h1 hk hs hm).mono ?_
  rintro e w' ⟨rfl, hk⟩
  exact ⟨rfl, Pair.kept hk h2 h3 h4 h5 hB hP⟩
theorem pair_ask (h : Pair A rs cap B P L M w a b) (hB : B ≤ w.heap.size) (hP : Lie P w) {k : Int} (hk : ok k) {n : Nat} {s : ByteArray} {er : Int} (hm : askTop rs n a k = some (a', s, er)) :
    Calls Try.prog 14 #[En L, enc k] w fun e w' => e = .returned (.tuple #[.string s, .int .i64 er]) ∧ s.size ≤ 1000000 ∧ Pair A rs cap B P L M w' a' b ∧ Chg (fun k => B ≤ k ∧ ¬ P k) w w' := by
  obtain ⟨p, q, h1, h2, h3, h4, h5⟩ := h
  refine (Ask_any L A rs cap n w p a k a' s er h1 (h3.sub (fun k hk => (h4 k hk).1)) hk hm).mono ?_
  rintro e w' ⟨rfl, hs, hl⟩
  exact ⟨rfl, hs, Pair.kept hl.kept h2 h3 h4 h5 hB hP⟩
theorem pair_nums (h : Pair A rs cap B P L M w a b) : Calls Try.prog 15 #[En L] w fun e w' => e = .returned (numsV a) ∧ Pair A rs cap B P L M w' a b ∧ Chg (fun _ => False) w w' := by
  obtain ⟨p, q, h1, h2, h3, h4, h5⟩ := id h
  refine (Numbers_any w L p _ a h1).mono ?_
  rintro e w' ⟨rfl, hc⟩
  exact ⟨rfl, h.mono hc, hc⟩
theorem pair_budget (h : Pair A rs cap B P L M w a b) (hB : B ≤ w.heap.size) (hP : Lie P w) {n : Int} (h0 : 0 ≤ n) (h1 : n ≤ 1099511627776) (hm : budgetM a n = some a') :
    Calls Try.prog 17 #[En L, .int .i64 n] w fun e w' => e = .returned (.int .i64 0) ∧ Pair A rs cap B P L M w' a' b ∧ Chg (fun k => B ≤ k ∧ ¬ P k) w w' := by
  obtain ⟨p, q, h1', h2, h3, h4, h5⟩ := h
  refine (Budget_any w L p _ a n a' h1' h0 h1 hm).mono ?_
  rintro e w' ⟨rfl, hk⟩
  exact ⟨rfl, Pair.kept hk h2 h3 h4 h5 hB hP⟩
theorem pair_forget (h : Pair A rs cap B P L M w a b) (hB : B ≤ w.heap.size) (hP : Lie P w) (hm : forgetM a = some a') :
    Calls Try.prog 18 #[En L] w fun e w' => e = .returned (.tuple #[]) ∧ Pair A rs cap B P L M w' a' b ∧ Chg (fun k => B ≤ k ∧ ¬ P k) w w' := by
  obtain ⟨p, q, h1', h2, h3, h4, h5⟩ := h
  refine (Forget_any w L p _ a a' h1' hm).mono ?_
  rintro e w' ⟨rfl, hk⟩
  exact ⟨rfl, Pair.kept hk h2 h3 h4 h5 hB hP⟩
/-- A block of the law's own, made. -/
theorem Pair.block {o : Obj} {y : Nat} (h : Pair A rs cap B P L M w a b) (hP : Lie P w) (hw : w.alloc o = w') (hy : y = w.heap.size) :
    Pair A rs cap B (fun k => P k ∨ k = y) L M w' a b ∧ Chg (fun _ => False) w w' ∧ Lie (fun k => P k ∨ k = y) w' := by
  subst hw
  subst hy
  have hc : Chg (fun _ => False) w (w.alloc o) := (Chg.refl _ _).alloc _
  refine ⟨(h.more (fun k hk => ?_)).mono hc, hc, fun k hk => ?_⟩
  · rcases hk with hk | hk
    · exact .inl hk
    · exact .inr (by omega)
  · rcases hk with hk | hk
    · have := hP k hk
      have := hc.size
      omega
    · subst hk
      simp
end
end Go.Proofs.Ytfkedhclhmbpfaa
