/-
  An engine of a law: its blocks are the law's own (from B on), and none of P.
-/
import Derived.Test.YtfkedhclhmbpfaaNew
import Derived.Test.YtfkedhclhmbpfaaNbr
import Derived.Test.YtfkedhclhmbpfaaPi
namespace Go.Proofs.Ytfkedhclhmbpfaa
open Go.RowKit Go.Maps
set_option linter.unusedVariables false
set_option linter.unusedSimpArgs false

/-- Blocks that lie in a world. -/
def Lie (P : Nat → Prop) (w : World) : Prop := ∀ k, P k → k < w.heap.size
theorem Lie.mono {P : Nat → Prop} {w w' : World} (h : Lie P w) (hs : w.heap.size ≤ w'.heap.size) : Lie P w' := fun k hk => Nat.lt_of_lt_of_le (h k hk) hs

def Liv (A : Option Addr) (rs : List Rule) (cap : Nat) (B : Nat) (P : Nat → Prop) (L : Lay) (w : World) (st : St) : Prop :=
  ∃ p, EngAt w L p (rvOf A rs cap) st ∧ RulesAt w p.F A rs ∧ ∀ k, p.F k → B ≤ k ∧ ¬ P k

section
variable {A : Option Addr} {rs : List Rule} {cap B : Nat} {P : Nat → Prop} {L : Lay} {w w' : World} {st st' : St}

theorem Liv.mono (h : Liv A rs cap B P L w st) (hc : Chg (fun _ => False) w w') : Liv A rs cap B P L w' st := by
  obtain ⟨p, h1, h2, h3⟩ := h
  exact ⟨p, h1.mono hc, h2.chg (hc.weaken (fun _ _ h => h.elim)) (fun k hk => .inl hk), h3⟩
/-- Some more blocks that are not its own. -/
theorem Liv.more {P' : Nat → Prop} (h : Liv A rs cap B P L w st) (hp : ∀ k, P' k → P k ∨ w.heap.size ≤ k) : Liv A rs cap B P' L w st := by
  obtain ⟨p, h1, h2, h3⟩ := h
  refine ⟨p, h1, h2, fun k hk => ⟨(h3 k hk).1, fun hh => ?_⟩⟩
  rcases hp k hh with h | h
  · exact (h3 k hk).2 h
  · have := h1.lt k hk
    omega
theorem Kept.liv {p : Fp} (h : Kept L p (rvOf A rs cap) w st' w') (hR : RulesAt w p.F A rs) (hp : ∀ k, p.F k → B ≤ k ∧ ¬ P k) (hB : B ≤ w.heap.size) (hP : Lie P w) : Liv A rs cap B P L w' st' ∧ Chg (fun k => B ≤ k ∧ ¬ P k) w w' := by
  obtain ⟨p', h1, h2, h3⟩ := h
  refine ⟨⟨p', h1, hR.chg h3 h2, fun k hk => ?_⟩, h3.weaken (fun k _ hk => hp k hk)⟩
  rcases h2 k hk with h | h
  · exact hp k h
  · exact ⟨by omega, fun hh => by have := hP k hh; omega⟩
theorem RulesAt.away {F : Nat → Prop} (h : RulesAt w F A rs) (hF : ∀ k, w.heap.size ≤ k → F k) : RulesAt w (fun k => w.heap.size ≤ k) A rs := h.sub (fun k hk => hF k hk)

theorem liv_new (hR : RulesAt w (fun k => w.heap.size ≤ k) A rs) (hB : B ≤ w.heap.size) (hP : Lie P w) {n : Int} (h0 : 0 ≤ n) (h1 : n ≤ 1099511627776) :
    Calls Try.prog 11 #[rvOf A rs cap, .int .i64 n] w fun e w' => ∃ L, e = .returned (.tuple #[En L, .int .i64 0]) ∧ Liv A rs cap B P L w' (newM n) ∧ Chg (fun _ => False) w w' := by
  refine (New_ok A rs cap w n h0 h1).mono ?_
  rintro e w' ⟨L, p, rfl, h2, h3, h4⟩
  exact ⟨L, rfl, ⟨p, h2, hR.chg (h4.weaken (fun _ _ h => h.elim)) (fun k hk => .inl (h3 k hk)), fun k hk => ⟨by have := h3 k hk; omega, fun hh => by have := h3 k hk; have := hP k hh; omega⟩⟩, h4⟩
theorem liv_set (h : Liv A rs cap B P L w st) (hB : B ≤ w.heap.size) (hP : Lie P w) {k : Int} (hk : ok k) {s : ByteArray} (hs : s.size ≤ 1000000) (hm : setM st k s = some st') :
    Calls Try.prog 12 #[En L, enc k, .string s] w fun e w' => e = .returned (.tuple #[]) ∧ Liv A rs cap B P L w' st' ∧ Chg (fun k => B ≤ k ∧ ¬ P k) w w' := by
  obtain ⟨p, h1, h2, h3⟩ := h
  refine (Set_any w L p _ st k s st' h1 hk hs hm).mono ?_
  rintro e w' ⟨rfl, hk⟩
  exact ⟨rfl, hk.liv h2 h3 hB hP⟩
theorem liv_ask (h : Liv A rs cap B P L w st) (hB : B ≤ w.heap.size) (hP : Lie P w) {k : Int} (hk : ok k) {n : Nat} {s : ByteArray} {er : Int} (hm : askTop rs n st k = some (st', s, er)) :
    Calls Try.prog 14 #[En L, enc k] w fun e w' => e = .returned (.tuple #[.string s, .int .i64 er]) ∧ s.size ≤ 1000000 ∧ Liv A rs cap B P L w' st' ∧ Chg (fun k => B ≤ k ∧ ¬ P k) w w' := by
  obtain ⟨p, h1, h2, h3⟩ := h
  refine (Ask_any L A rs cap n w p st k st' s er h1 h2 hk hm).mono ?_
  rintro e w' ⟨rfl, hs, hl⟩
  exact ⟨rfl, hs, hl.kept.liv h2 h3 hB hP⟩
theorem liv_nums (h : Liv A rs cap B P L w st) : Calls Try.prog 15 #[En L] w fun e w' => e = .returned (numsV st) ∧ Liv A rs cap B P L w' st ∧ Chg (fun _ => False) w w' := by
  obtain ⟨p, h1, h2, h3⟩ := id h
  refine (Numbers_any w L p _ st h1).mono ?_
  rintro e w' ⟨rfl, hc⟩
  exact ⟨rfl, h.mono hc, hc⟩
theorem liv_budget (h : Liv A rs cap B P L w st) (hB : B ≤ w.heap.size) (hP : Lie P w) {n : Int} (h0 : 0 ≤ n) (h1 : n ≤ 1099511627776) (hm : budgetM st n = some st') :
    Calls Try.prog 17 #[En L, .int .i64 n] w fun e w' => e = .returned (.int .i64 0) ∧ Liv A rs cap B P L w' st' ∧ Chg (fun k => B ≤ k ∧ ¬ P k) w w' := by
  obtain ⟨p, h2, h3, h4⟩ := h
  refine (Budget_any w L p _ st n st' h2 h0 h1 hm).mono ?_
  rintro e w' ⟨rfl, hk⟩
  exact ⟨rfl, hk.liv h3 h4 hB hP⟩
theorem liv_forget (h : Liv A rs cap B P L w st) (hB : B ≤ w.heap.size) (hP : Lie P w) (hm : forgetM st = some st') :
    Calls Try.prog 18 #[En L] w fun e w' => e = .returned (.tuple #[]) ∧ Liv A rs cap B P L w' st' ∧ Chg (fun k => B ≤ k ∧ ¬ P k) w w' := by
  obtain ⟨p, h2, h3, h4⟩ := h
  refine (Forget_any w L p _ st st' h2 hm).mono ?_
  rintro e w' ⟨rfl, hk⟩
  exact ⟨rfl, hk.liv h3 h4 hB hP⟩
end
end Go.Proofs.Ytfkedhclhmbpfaa
