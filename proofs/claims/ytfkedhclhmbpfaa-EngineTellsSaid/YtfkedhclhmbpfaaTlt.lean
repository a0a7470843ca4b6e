/-
  EngineTells' list of inputs, as a row of its own.
-/
import Derived.Test.YtfkedhclhmbpfaaTls
import Derived.Test.YtfkedhclhmbpfaaTlk
import Derived.Test.YtfkedhclhmbpfaaOpn
namespace Go.Proofs.Ytfkedhclhmbpfaa
open Go.RowKit Go.Maps
set_option linter.unusedVariables false
set_option linter.unusedSimpArgs false

def insV (ins : List (Int × Int)) : List Value := ins.flatMap fun x => [.int .i64 x.1, .int .u8 x.2]
theorem insV_snoc (ins : List (Int × Int)) (x : Int × Int) : insV (ins ++ [x]) = insV ins ++ [.int .i64 x.1, .int .u8 x.2] := by
  unfold insV
  rw [List.flatMap_append]
  simp
theorem insV_len (ins : List (Int × Int)) : (insV ins).length = ins.length * 2 := by
  induction ins with
  | nil => rfl
  | cons x r ih =>
    have : insV (x :: r) = .int .i64 x.1 :: .int .u8 x.2 :: insV r := rfl
    rw [this, List.length_cons, List.length_cons, ih, List.length_cons]
    omega
theorem insV_at (ins : List (Int × Int)) : ∀ (i : Nat) (x : Int × Int), ins[i]? = some x → (insV ins)[i * 2]? = some (.int .i64 x.1) ∧ (insV ins)[i * 2 + 1]? = some (.int .u8 x.2) := by
  induction ins with
  | nil => intro i x h; simp at h
  | cons y r ih =>
    intro i x h
    have e : insV (y :: r) = .int .i64 y.1 :: .int .u8 y.2 :: insV r := rfl
    rw [e]
    cases i with
    | zero =>
      obtain rfl := Option.some.inj h
      exact ⟨rfl, rfl⟩
    | succ i =>
      have := ih i x (by simpa using h)
      rw [show (i + 1) * 2 = i * 2 + 1 + 1 by omega]
      exact ⟨this.1, this.2⟩
theorem own_inRow {base : Nat} {w : World} {v : Value} {ins : List (Int × Int)} (h : w.ownsRow base 48 2 v ins.length (insV ins)) : ∃ A cap, v = .slice A ins.length cap ∧ InRow w A ins := by
  rcases id h.2 with ⟨rfl, h0⟩ | ⟨g, cap', cur, rfl, _⟩
  · have hn : ins = [] := List.length_eq_zero_iff.1 h0
    exact ⟨none, 0, by rw [h0], by rw [hn]; intro i x hi; simp at hi⟩
  · refine ⟨_, _, rfl, fun i x hi => ?_⟩
    obtain ⟨h1, h2⟩ := insV_at ins i x hi
    exact ⟨g, 0, rfl, by rw [Nat.zero_add]; exact own_cell h h1, by rw [Nat.zero_add]; exact own_cell h h2⟩
end Go.Proofs.Ytfkedhclhmbpfaa
