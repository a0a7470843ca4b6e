/-
  No cell of these rows narrows 'for every input' (looked for: loops, veiled, ifaces, maps, wideKeys, modest, calm, conditions, laid).
  DERIVED. THE GIVEN ROWS OF THIS SEAT. 5 by the template 'for every input the law returns true; each argument reads behind the call as it read before'; 0 by the template 'total and deterministic' (their statements: YtppcpemenebamaaTotals.lean).
  GIVEN WITH THE SEED: the statements are not yours to turn. If you find one false, say at which input.
  Laid BY PROGRAM, IN A SANDBOX (cutbox-rows.mjs): the forced cells as the released guide's own fill.sh prints them over the translation 59da0f25545bc05d… (all of the seat's roots in one cut). By AI agents, Wed Nov 11 2026. No macro, syntax, notation, axiom, sorry.
-/
import Derived.Test.YtppcpemenebamaaChecked
import GoSem.Claim
import GoSem.ClaimJoined
import GoSem.ClaimMapViews
import Derived.JoinedTies
import Derived.KernelRfl
namespace Go.Proofs.Ytppcpemenebamaa
/- THE CELL 'sum', in the pinned program and in every row, IS THE sha256 OF THE DUMP (.gsa) THAT YtppcpemenebamaaProg.lean LOADS. Nothing in Lean hashes anything: it is a label: what it is worth is what the hold of that sum in a sandbox is worth. -/
noncomputable def Try.pinned : Pinned := { name := "ytppcpemenebamaa", sum := "59da0f25545bc05dddc3d5346c53006619c3defe35d8e059743e6cac38f7c9e7", checked := Try.checked }
namespace Rows
def none {H : Type} : Left H := { results := [], args := [] }

/-- 'cupellaw01.WordsBack': WHATEVER THE INPUT: true; the input reads as it did. -/
def wordsBackSpec : ChangeSpec := { name := "wordsBack", fn := fun _ => fun
  | [d] => { results := [.lit (.bool true)], args := [d] }
  | _ => none }
def wordsBackRow : OpenClaim := { program := "ytppcpemenebamaa", sum := "59da0f25545bc05dddc3d5346c53006619c3defe35d8e059743e6cac38f7c9e7", func := "cupel/cupellaw01.WordsBack", spec := "wordsBack", unfollowed := true, recurses := true, apart := false }
def WordsBackSaid : Prop := wordsBackRow.holds Try.pinned (OpenSpec.ofChange wordsBackSpec)

/-- ITS FALSE NEIGHBOUR: 'it returns false'. Refute it at one input. -/
def wordsBackWrong : ChangeSpec := { name := "wordsBack", fn := fun _ => fun
  | [d] => { results := [.lit (.bool false)], args := [d] }
  | _ => none }
def WordsBackWrongFalsely : Prop := wordsBackRow.holds Try.pinned (OpenSpec.ofChange wordsBackWrong)

/-- 'cupellaw01.WordsPlay': WHATEVER THE INPUT: true; the input reads as it did. -/
def wordsPlaySpec : ChangeSpec := { name := "wordsPlay", fn := fun _ => fun
  | [d1, d2, d3] => { results := [.lit (.bool true)], args := [d1, d2, d3] }
  | _ => none }
def wordsPlayRow : OpenClaim := { program := "ytppcpemenebamaa", sum := "59da0f25545bc05dddc3d5346c53006619c3defe35d8e059743e6cac38f7c9e7", func := "cupel/cupellaw01.WordsPlay", spec := "wordsPlay", unfollowed := true, recurses := true, apart := false }
def WordsPlaySaid : Prop := wordsPlayRow.holds Try.pinned (OpenSpec.ofChange wordsPlaySpec)

/-- ITS FALSE NEIGHBOUR: 'it returns false'. Refute it at one input. -/
def wordsPlayWrong : ChangeSpec := { name := "wordsPlay", fn := fun _ => fun
  | [d1, d2, d3] => { results := [.lit (.bool false)], args := [d1, d2, d3] }
  | _ => none }
def WordsPlayWrongFalsely : Prop := wordsPlayRow.holds Try.pinned (OpenSpec.ofChange wordsPlayWrong)

/-- 'cupellaw01.WordsSame': WHATEVER THE INPUT: true; the input reads as it did. -/
def wordsSameSpec : ChangeSpec := { name := "wordsSame", fn := fun _ => fun
  | [d1, d2, d3] => { results := [.lit (.bool true)], args := [d1, d2, d3] }
  | _ => none }
def wordsSameRow : OpenClaim := { program := "ytppcpemenebamaa", sum := "59da0f25545bc05dddc3d5346c53006619c3defe35d8e059743e6cac38f7c9e7", func := "cupel/cupellaw01.WordsSame", spec := "wordsSame", unfollowed := true, recurses := true, apart := false }
def WordsSameSaid : Prop := wordsSameRow.holds Try.pinned (OpenSpec.ofChange wordsSameSpec)

/-- ITS FALSE NEIGHBOUR: 'it returns false'. Refute it at one input. -/
def wordsSameWrong : ChangeSpec := { name := "wordsSame", fn := fun _ => fun
  | [d1, d2, d3] => { results := [.lit (.bool false)], args := [d1, d2, d3] }
  | _ => none }
def WordsSameWrongFalsely : Prop := wordsSameRow.holds Try.pinned (OpenSpec.ofChange wordsSameWrong)

/-- 'cupellaw01.WordsOrder': WHATEVER THE INPUT: true; the input reads as it did. -/
def wordsOrderSpec : ChangeSpec := { name := "wordsOrder", fn := fun _ => fun
  | [d] => { results := [.lit (.bool true)], args := [d] }
  | _ => none }
def wordsOrderRow : OpenClaim := { program := "ytppcpemenebamaa", sum := "59da0f25545bc05dddc3d5346c53006619c3defe35d8e059743e6cac38f7c9e7", func := "cupel/cupellaw01.WordsOrder", spec := "wordsOrder", unfollowed := true, recurses := true, apart := false }
def WordsOrderSaid : Prop := wordsOrderRow.holds Try.pinned (OpenSpec.ofChange wordsOrderSpec)

/-- ITS FALSE NEIGHBOUR: 'it returns false'. Refute it at one input. -/
def wordsOrderWrong : ChangeSpec := { name := "wordsOrder", fn := fun _ => fun
  | [d] => { results := [.lit (.bool false)], args := [d] }
  | _ => none }
def WordsOrderWrongFalsely : Prop := wordsOrderRow.holds Try.pinned (OpenSpec.ofChange wordsOrderWrong)

/-- 'cupellaw01.WordsMany': WHATEVER THE INPUT: true; the input reads as it did. -/
def wordsManySpec : ChangeSpec := { name := "wordsMany", fn := fun _ => fun
  | [d1, d2] => { results := [.lit (.bool true)], args := [d1, d2] }
  | _ => none }
def wordsManyRow : OpenClaim := { program := "ytppcpemenebamaa", sum := "59da0f25545bc05dddc3d5346c53006619c3defe35d8e059743e6cac38f7c9e7", func := "cupel/cupellaw01.WordsMany", spec := "wordsMany", unfollowed := true, recurses := true, apart := false }
def WordsManySaid : Prop := wordsManyRow.holds Try.pinned (OpenSpec.ofChange wordsManySpec)

/-- ITS FALSE NEIGHBOUR: 'it returns false'. Refute it at one input. -/
def wordsManyWrong : ChangeSpec := { name := "wordsMany", fn := fun _ => fun
  | [d1, d2] => { results := [.lit (.bool false)], args := [d1, d2] }
  | _ => none }
def WordsManyWrongFalsely : Prop := wordsManyRow.holds Try.pinned (OpenSpec.ofChange wordsManyWrong)

/- THE SECOND FORM. 'bulk': how many values and letters a reading holds, each counted each time it is reached (what is shared counts as often as it is met; a slice's spare places count too). A statement '..UptoSaid' is the law's where the arguments, and the package variables that the reading takes, are together of bulk at most 1048576: NARROWER than '..Said'. Prove '..Said' where nothing that the law and all that it calls make is longer than what came in: it says more and counts as full. Else prove '..UptoSaid'. A law counts once. -/
mutual
def uptoBulk {H : Type} : DataW H → Nat
  | .lit (.string bytes) => bytes.length + 1
  | .lit _ => 1
  | .nil => 1
  | .ptr d => uptoBulk d + 1
  | .slice elems spare => uptoBulkAll elems + uptoBulkAll spare + 1
  | .agg parts => uptoBulkAll parts + 1
  | .iface _ d => uptoBulk d + 1
  | .map entries => uptoBulkEntries entries + 1
  | .held _ => 1
def uptoBulkAll {H : Type} : List (DataW H) → Nat
  | [] => 0
  | d :: r => uptoBulk d + uptoBulkAll r
def uptoBulkEntries {H : Type} : List (Lit × DataW H) → Nat
  | [] => 0
  | x :: r => uptoBulkEntry x + uptoBulkEntries r
def uptoBulkEntry {H : Type} : Lit × DataW H → Nat
  | (.string bytes, d) => bytes.length + uptoBulk d + 1
  | (_, d) => uptoBulk d + 1
 end
def uptoSmall : (H : Type) → List (DataW H) → Bool := fun _ ds => decide (uptoBulkAll ds ≤ 1048576)
def OpenSpec.upto (s : _root_.Go.ChangeSpec) : _root_.Go.OpenSpec := { _root_.Go.OpenSpec.ofChange s with cond := some uptoSmall }

/-- 'cupellaw01.WordsBack', WHERE WHAT IT READS IS OF BULK AT MOST 1048576: true; the input reads as it did. -/
def wordsBackUptoRow : OpenClaim := { program := "ytppcpemenebamaa", sum := "59da0f25545bc05dddc3d5346c53006619c3defe35d8e059743e6cac38f7c9e7", func := "cupel/cupellaw01.WordsBack", spec := "wordsBack", unfollowed := true, recurses := true, apart := false, narrowed := true }
def WordsBackUptoSaid : Prop := wordsBackUptoRow.holds Try.pinned (OpenSpec.upto wordsBackSpec)

/-- 'cupellaw01.WordsPlay', WHERE WHAT IT READS IS OF BULK AT MOST 1048576: true; the input reads as it did. -/
def wordsPlayUptoRow : OpenClaim := { program := "ytppcpemenebamaa", sum := "59da0f25545bc05dddc3d5346c53006619c3defe35d8e059743e6cac38f7c9e7", func := "cupel/cupellaw01.WordsPlay", spec := "wordsPlay", unfollowed := true, recurses := true, apart := false, narrowed := true }
def WordsPlayUptoSaid : Prop := wordsPlayUptoRow.holds Try.pinned (OpenSpec.upto wordsPlaySpec)

/-- 'cupellaw01.WordsSame', WHERE WHAT IT READS IS OF BULK AT MOST 1048576: true; the input reads as it did. -/
def wordsSameUptoRow : OpenClaim := { program := "ytppcpemenebamaa", sum := "59da0f25545bc05dddc3d5346c53006619c3defe35d8e059743e6cac38f7c9e7", func := "cupel/cupellaw01.WordsSame", spec := "wordsSame", unfollowed := true, recurses := true, apart := false, narrowed := true }
def WordsSameUptoSaid : Prop := wordsSameUptoRow.holds Try.pinned (OpenSpec.upto wordsSameSpec)

/-- 'cupellaw01.WordsOrder', WHERE WHAT IT READS IS OF BULK AT MOST 1048576: true; the input reads as it did. -/
def wordsOrderUptoRow : OpenClaim := { program := "ytppcpemenebamaa", sum := "59da0f25545bc05dddc3d5346c53006619c3defe35d8e059743e6cac38f7c9e7", func := "cupel/cupellaw01.WordsOrder", spec := "wordsOrder", unfollowed := true, recurses := true, apart := false, narrowed := true }
def WordsOrderUptoSaid : Prop := wordsOrderUptoRow.holds Try.pinned (OpenSpec.upto wordsOrderSpec)

/-- 'cupellaw01.WordsMany', WHERE WHAT IT READS IS OF BULK AT MOST 1048576: true; the input reads as it did. -/
def wordsManyUptoRow : OpenClaim := { program := "ytppcpemenebamaa", sum := "59da0f25545bc05dddc3d5346c53006619c3defe35d8e059743e6cac38f7c9e7", func := "cupel/cupellaw01.WordsMany", spec := "wordsMany", unfollowed := true, recurses := true, apart := false, narrowed := true }
def WordsManyUptoSaid : Prop := wordsManyUptoRow.holds Try.pinned (OpenSpec.upto wordsManySpec)

end Rows
end Go.Proofs.Ytppcpemenebamaa
