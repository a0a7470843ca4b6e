/-
  No cell of these rows narrows 'for every input' (looked for: loops, veiled, ifaces, maps, wideKeys, modest, calm, conditions, laid).
  DERIVED. THE GIVEN ROWS OF THIS SEAT. 5 by the template 'for every input the law returns true; each argument reads behind the call as it read before'; 0 by the template 'total and deterministic' (their statements: YthecpiigabfboaaTotals.lean).
  GIVEN WITH THE SEED: the statements are not yours to turn. If you find one false, say at which input.
  Laid BY PROGRAM, IN A SANDBOX (cutbox-rows.mjs): the forced cells as the released guide's own fill.sh prints them over the translation 5193be82b88b6377… (all of the seat's roots in one cut). By AI agents, Wed Nov 11 2026. No macro, syntax, notation, axiom, sorry.
-/
import Derived.Test.YthecpiigabfboaaChecked
import GoSem.Claim
import GoSem.ClaimJoined
import GoSem.ClaimMapViews
import Derived.JoinedTies
import Derived.KernelRfl
namespace Go.Proofs.Ythecpiigabfboaa
/- THE CELL 'sum', in the pinned program and in every row, IS THE sha256 OF THE DUMP (.gsa) THAT YthecpiigabfboaaProg.lean LOADS. Nothing in Lean hashes anything: it is a label: what it is worth is what the hold of that sum in a sandbox is worth. -/
noncomputable def Try.pinned : Pinned := { name := "ythecpiigabfboaa", sum := "5193be82b88b6377cd114c8467c2604ec8a50f45711abc0e65a2f9ec6de30998", checked := Try.checked }
namespace Rows
def none {H : Type} : Left H := { results := [], args := [] }

/-- 'cupellaw03.LruTwo': WHATEVER THE INPUT: true; the input reads as it did. -/
def lruTwoSpec : ChangeSpec := { name := "lruTwo", fn := fun _ => fun
  | [d1, d2] => { results := [.lit (.bool true)], args := [d1, d2] }
  | _ => none }
def lruTwoRow : OpenClaim := { program := "ythecpiigabfboaa", sum := "5193be82b88b6377cd114c8467c2604ec8a50f45711abc0e65a2f9ec6de30998", func := "cupel/cupellaw03.LruTwo", spec := "lruTwo", unfollowed := true, recurses := true, apart := false }
def LruTwoSaid : Prop := lruTwoRow.holds Try.pinned (OpenSpec.ofChange lruTwoSpec)

/-- ITS FALSE NEIGHBOUR: 'it returns false'. Refute it at one input. -/
def lruTwoWrong : ChangeSpec := { name := "lruTwo", fn := fun _ => fun
  | [d1, d2] => { results := [.lit (.bool false)], args := [d1, d2] }
  | _ => none }
def LruTwoWrongFalsely : Prop := lruTwoRow.holds Try.pinned (OpenSpec.ofChange lruTwoWrong)

/-- 'cupellaw03.LruAgain': WHATEVER THE INPUT: true; the input reads as it did. -/
def lruAgainSpec : ChangeSpec := { name := "lruAgain", fn := fun _ => fun
  | [d1, d2] => { results := [.lit (.bool true)], args := [d1, d2] }
  | _ => none }
def lruAgainRow : OpenClaim := { program := "ythecpiigabfboaa", sum := "5193be82b88b6377cd114c8467c2604ec8a50f45711abc0e65a2f9ec6de30998", func := "cupel/cupellaw03.LruAgain", spec := "lruAgain", unfollowed := true, recurses := true, apart := false }
def LruAgainSaid : Prop := lruAgainRow.holds Try.pinned (OpenSpec.ofChange lruAgainSpec)

/-- ITS FALSE NEIGHBOUR: 'it returns false'. Refute it at one input. -/
def lruAgainWrong : ChangeSpec := { name := "lruAgain", fn := fun _ => fun
  | [d1, d2] => { results := [.lit (.bool false)], args := [d1, d2] }
  | _ => none }
def LruAgainWrongFalsely : Prop := lruAgainRow.holds Try.pinned (OpenSpec.ofChange lruAgainWrong)

/-- 'cupellaw03.LruKeeps': WHATEVER THE INPUT: true; the input reads as it did. -/
def lruKeepsSpec : ChangeSpec := { name := "lruKeeps", fn := fun _ => fun
  | [d1, d2] => { results := [.lit (.bool true)], args := [d1, d2] }
  | _ => none }
def lruKeepsRow : OpenClaim := { program := "ythecpiigabfboaa", sum := "5193be82b88b6377cd114c8467c2604ec8a50f45711abc0e65a2f9ec6de30998", func := "cupel/cupellaw03.LruKeeps", spec := "lruKeeps", unfollowed := true, recurses := true, apart := false }
def LruKeepsSaid : Prop := lruKeepsRow.holds Try.pinned (OpenSpec.ofChange lruKeepsSpec)

/-- ITS FALSE NEIGHBOUR: 'it returns false'. Refute it at one input. -/
def lruKeepsWrong : ChangeSpec := { name := "lruKeeps", fn := fun _ => fun
  | [d1, d2] => { results := [.lit (.bool false)], args := [d1, d2] }
  | _ => none }
def LruKeepsWrongFalsely : Prop := lruKeepsRow.holds Try.pinned (OpenSpec.ofChange lruKeepsWrong)

/-- 'cupellaw03.LruPlays': WHATEVER THE INPUT: true; the input reads as it did. -/
def lruPlaysSpec : ChangeSpec := { name := "lruPlays", fn := fun _ => fun
  | [d1, d2, d3] => { results := [.lit (.bool true)], args := [d1, d2, d3] }
  | _ => none }
def lruPlaysRow : OpenClaim := { program := "ythecpiigabfboaa", sum := "5193be82b88b6377cd114c8467c2604ec8a50f45711abc0e65a2f9ec6de30998", func := "cupel/cupellaw03.LruPlays", spec := "lruPlays", unfollowed := true, recurses := true, apart := false }
def LruPlaysSaid : Prop := lruPlaysRow.holds Try.pinned (OpenSpec.ofChange lruPlaysSpec)

/-- ITS FALSE NEIGHBOUR: 'it returns false'. Refute it at one input. -/
def lruPlaysWrong : ChangeSpec := { name := "lruPlays", fn := fun _ => fun
  | [d1, d2, d3] => { results := [.lit (.bool false)], args := [d1, d2, d3] }
  | _ => none }
def LruPlaysWrongFalsely : Prop := lruPlaysRow.holds Try.pinned (OpenSpec.ofChange lruPlaysWrong)

/-- 'cupellaw03.LruOrder': WHATEVER THE INPUT: true; the input reads as it did. -/
def lruOrderSpec : ChangeSpec := { name := "lruOrder", fn := fun _ => fun
  | [d] => { results := [.lit (.bool true)], args := [d] }
  | _ => none }
def lruOrderRow : OpenClaim := { program := "ythecpiigabfboaa", sum := "5193be82b88b6377cd114c8467c2604ec8a50f45711abc0e65a2f9ec6de30998", func := "cupel/cupellaw03.LruOrder", spec := "lruOrder", unfollowed := true, recurses := true, apart := false }
def LruOrderSaid : Prop := lruOrderRow.holds Try.pinned (OpenSpec.ofChange lruOrderSpec)

/-- ITS FALSE NEIGHBOUR: 'it returns false'. Refute it at one input. -/
def lruOrderWrong : ChangeSpec := { name := "lruOrder", fn := fun _ => fun
  | [d] => { results := [.lit (.bool false)], args := [d] }
  | _ => none }
def LruOrderWrongFalsely : Prop := lruOrderRow.holds Try.pinned (OpenSpec.ofChange lruOrderWrong)

/- THE SECOND FORM. 'bulk': how many values and letters a reading holds, each counted each time it is reached (what is shared counts as often as it is met; a slice's spare places count too). A statement '..UptoSaid' is the law's where the arguments, and the package variables that the reading takes, are together of bulk at most 1048576: NARROWER than '..Said'. Prove '..Said' where nothing that the law and all that it calls make is longer than what came in: it says more and counts as full. Else prove '..UptoSaid'. A law counts once. -/
mutual
def uptoBulk {H : Type} : DataW H → Nat
  | .lit (.string bytes) => bytes.length + 1
  | .lit _ => 1
  | .nil => 1
  | .ptr d => uptoBulk d + 1
  | .slice elems spare => uptoBulkAll elems + uptoBulkAll spare + 1
  | .agg parts => uptoBulkAll parts + 1
  | .iface _ d => uptoBulk d + 1
  | .map entries => uptoBulkEntries entries + 1
  | .held _ => 1
def uptoBulkAll {H : Type} : List (DataW H) → Nat
  | [] => 0
  | d :: r => uptoBulk d + uptoBulkAll r
def uptoBulkEntries {H : Type} : List (Lit × DataW H) → Nat
  | [] => 0
  | x :: r => uptoBulkEntry x + uptoBulkEntries r
def uptoBulkEntry {H : Type} : Lit × DataW H → Nat
  | (.string bytes, d) => bytes.length + uptoBulk d + 1
  | (_, d) => uptoBulk d + 1
 end
def uptoSmall : (H : Type) → List (DataW H) → Bool := fun _ ds => decide (uptoBulkAll ds ≤ 1048576)
def OpenSpec.upto (s : _root_.Go.ChangeSpec) : _root_.Go.OpenSpec := { _root_.Go.OpenSpec.ofChange s with cond := some uptoSmall }

/-- 'cupellaw03.LruTwo', WHERE WHAT IT READS IS OF BULK AT MOST 1048576: true; the input reads as it did. -/
def lruTwoUptoRow : OpenClaim := { program := "ythecpiigabfboaa", sum := "5193be82b88b6377cd114c8467c2604ec8a50f45711abc0e65a2f9ec6de30998", func := "cupel/cupellaw03.LruTwo", spec := "lruTwo", unfollowed := true, recurses := true, apart := false, narrowed := true }
def LruTwoUptoSaid : Prop := lruTwoUptoRow.holds Try.pinned (OpenSpec.upto lruTwoSpec)

/-- 'cupellaw03.LruAgain', WHERE WHAT IT READS IS OF BULK AT MOST 1048576: true; the input reads as it did. -/
def lruAgainUptoRow : OpenClaim := { program := "ythecpiigabfboaa", sum := "5193be82b88b6377cd114c8467c2604ec8a50f45711abc0e65a2f9ec6de30998", func := "cupel/cupellaw03.LruAgain", spec := "lruAgain", unfollowed := true, recurses := true, apart := false, narrowed := true }
def LruAgainUptoSaid : Prop := lruAgainUptoRow.holds Try.pinned (OpenSpec.upto lruAgainSpec)

/-- 'cupellaw03.LruKeeps', WHERE WHAT IT READS IS OF BULK AT MOST 1048576: true; the input reads as it did. -/
def lruKeepsUptoRow : OpenClaim := { program := "ythecpiigabfboaa", sum := "5193be82b88b6377cd114c8467c2604ec8a50f45711abc0e65a2f9ec6de30998", func := "cupel/cupellaw03.LruKeeps", spec := "lruKeeps", unfollowed := true, recurses := true, apart := false, narrowed := true }
def LruKeepsUptoSaid : Prop := lruKeepsUptoRow.holds Try.pinned (OpenSpec.upto lruKeepsSpec)

/-- 'cupellaw03.LruPlays', WHERE WHAT IT READS IS OF BULK AT MOST 1048576: true; the input reads as it did. -/
def lruPlaysUptoRow : OpenClaim := { program := "ythecpiigabfboaa", sum := "5193be82b88b6377cd114c8467c2604ec8a50f45711abc0e65a2f9ec6de30998", func := "cupel/cupellaw03.LruPlays", spec := "lruPlays", unfollowed := true, recurses := true, apart := false, narrowed := true }
def LruPlaysUptoSaid : Prop := lruPlaysUptoRow.holds Try.pinned (OpenSpec.upto lruPlaysSpec)

/-- 'cupellaw03.LruOrder', WHERE WHAT IT READS IS OF BULK AT MOST 1048576: true; the input reads as it did. -/
def lruOrderUptoRow : OpenClaim := { program := "ythecpiigabfboaa", sum := "5193be82b88b6377cd114c8467c2604ec8a50f45711abc0e65a2f9ec6de30998", func := "cupel/cupellaw03.LruOrder", spec := "lruOrder", unfollowed := true, recurses := true, apart := false, narrowed := true }
def LruOrderUptoSaid : Prop := lruOrderUptoRow.holds Try.pinned (OpenSpec.upto lruOrderSpec)

end Rows
end Go.Proofs.Ythecpiigabfboaa
