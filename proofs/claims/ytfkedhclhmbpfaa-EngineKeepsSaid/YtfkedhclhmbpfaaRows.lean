/-
  No cell of these rows narrows 'for every input' (looked for: loops, veiled, ifaces, maps, wideKeys, modest, calm, conditions, laid).
  DERIVED. THE GIVEN ROWS OF THIS SEAT. 6 by the template 'for every input the law returns true; each argument reads behind the call as it read before'; 0 by the template 'total and deterministic' (their statements: YtfkedhclhmbpfaaTotals.lean).
  GIVEN WITH THE SEED: the statements are not yours to turn. If you find one false, say at which input.
  Laid BY PROGRAM, IN A SANDBOX (cutbox-rows.mjs): the forced cells as the released guide's own fill.sh prints them over the translation b7241362ac324042… (all of the seat's roots in one cut). By AI agents, Wed Nov 11 2026. No macro, syntax, notation, axiom, sorry.
-/
import Derived.Test.YtfkedhclhmbpfaaChecked
import GoSem.Claim
import GoSem.ClaimJoined
import GoSem.ClaimMapViews
import Derived.JoinedTies
import Derived.KernelRfl
namespace Go.Proofs.Ytfkedhclhmbpfaa
/- THE CELL 'sum', in the pinned program and in every row, IS THE sha256 OF THE DUMP (.gsa) THAT YtfkedhclhmbpfaaProg.lean LOADS. Nothing in Lean hashes anything: it is a label: what it is worth is what the hold of that sum in a sandbox is worth. -/
noncomputable def Try.pinned : Pinned := { name := "ytfkedhclhmbpfaa", sum := "b7241362ac3240426e7f706a2cc8430a8d894f50f379b540034564530e3b8e58", checked := Try.checked }
namespace Rows
def none {H : Type} : Left H := { results := [], args := [] }

/-- 'cupellaw17.EngineKeeps': WHATEVER THE INPUT: true; the input reads as it did. -/
def engineKeepsSpec : ChangeSpec := { name := "engineKeeps", fn := fun _ => fun
  | [d1, d2, d3] => { results := [.lit (.bool true)], args := [d1, d2, d3] }
  | _ => none }
def engineKeepsRow : OpenClaim := { program := "ytfkedhclhmbpfaa", sum := "b7241362ac3240426e7f706a2cc8430a8d894f50f379b540034564530e3b8e58", func := "cupel/cupellaw17.EngineKeeps", spec := "engineKeeps", unfollowed := true, recurses := true, apart := false }
def EngineKeepsSaid : Prop := engineKeepsRow.holds Try.pinned (OpenSpec.ofChange engineKeepsSpec)

/-- ITS FALSE NEIGHBOUR: 'it returns false'. Refute it at one input. -/
def engineKeepsWrong : ChangeSpec := { name := "engineKeeps", fn := fun _ => fun
  | [d1, d2, d3] => { results := [.lit (.bool false)], args := [d1, d2, d3] }
  | _ => none }
def EngineKeepsWrongFalsely : Prop := engineKeepsRow.holds Try.pinned (OpenSpec.ofChange engineKeepsWrong)

/-- 'cupellaw17.EngineCuts': WHATEVER THE INPUT: true; the input reads as it did. -/
def engineCutsSpec : ChangeSpec := { name := "engineCuts", fn := fun _ => fun
  | [d1, d2, d3] => { results := [.lit (.bool true)], args := [d1, d2, d3] }
  | _ => none }
def engineCutsRow : OpenClaim := { program := "ytfkedhclhmbpfaa", sum := "b7241362ac3240426e7f706a2cc8430a8d894f50f379b540034564530e3b8e58", func := "cupel/cupellaw17.EngineCuts", spec := "engineCuts", unfollowed := true, recurses := true, apart := false }
def EngineCutsSaid : Prop := engineCutsRow.holds Try.pinned (OpenSpec.ofChange engineCutsSpec)

/-- ITS FALSE NEIGHBOUR: 'it returns false'. Refute it at one input. -/
def engineCutsWrong : ChangeSpec := { name := "engineCuts", fn := fun _ => fun
  | [d1, d2, d3] => { results := [.lit (.bool false)], args := [d1, d2, d3] }
  | _ => none }
def EngineCutsWrongFalsely : Prop := engineCutsRow.holds Try.pinned (OpenSpec.ofChange engineCutsWrong)

/-- 'cupellaw17.EngineRows': WHATEVER THE INPUT: true; the input reads as it did. -/
def engineRowsSpec : ChangeSpec := { name := "engineRows", fn := fun _ => fun
  | [d1, d2, d3] => { results := [.lit (.bool true)], args := [d1, d2, d3] }
  | _ => none }
def engineRowsRow : OpenClaim := { program := "ytfkedhclhmbpfaa", sum := "b7241362ac3240426e7f706a2cc8430a8d894f50f379b540034564530e3b8e58", func := "cupel/cupellaw17.EngineRows", spec := "engineRows", unfollowed := true, recurses := true, apart := false }
def EngineRowsSaid : Prop := engineRowsRow.holds Try.pinned (OpenSpec.ofChange engineRowsSpec)

/-- ITS FALSE NEIGHBOUR: 'it returns false'. Refute it at one input. -/
def engineRowsWrong : ChangeSpec := { name := "engineRows", fn := fun _ => fun
  | [d1, d2, d3] => { results := [.lit (.bool false)], args := [d1, d2, d3] }
  | _ => none }
def EngineRowsWrongFalsely : Prop := engineRowsRow.holds Try.pinned (OpenSpec.ofChange engineRowsWrong)

/-- 'cupellaw17.EngineTells': WHATEVER THE INPUT: true; the input reads as it did. -/
def engineTellsSpec : ChangeSpec := { name := "engineTells", fn := fun _ => fun
  | [d1, d2, d3] => { results := [.lit (.bool true)], args := [d1, d2, d3] }
  | _ => none }
def engineTellsRow : OpenClaim := { program := "ytfkedhclhmbpfaa", sum := "b7241362ac3240426e7f706a2cc8430a8d894f50f379b540034564530e3b8e58", func := "cupel/cupellaw17.EngineTells", spec := "engineTells", unfollowed := true, recurses := true, apart := false }
def EngineTellsSaid : Prop := engineTellsRow.holds Try.pinned (OpenSpec.ofChange engineTellsSpec)

/-- ITS FALSE NEIGHBOUR: 'it returns false'. Refute it at one input. -/
def engineTellsWrong : ChangeSpec := { name := "engineTells", fn := fun _ => fun
  | [d1, d2, d3] => { results := [.lit (.bool false)], args := [d1, d2, d3] }
  | _ => none }
def EngineTellsWrongFalsely : Prop := engineTellsRow.holds Try.pinned (OpenSpec.ofChange engineTellsWrong)

/-- 'cupellaw17.EngineNil': WHATEVER THE INPUT: true; the input reads as it did. -/
def engineNilSpec : ChangeSpec := { name := "engineNil", fn := fun _ => fun
  | [d1, d2, d3] => { results := [.lit (.bool true)], args := [d1, d2, d3] }
  | _ => none }
def engineNilRow : OpenClaim := { program := "ytfkedhclhmbpfaa", sum := "b7241362ac3240426e7f706a2cc8430a8d894f50f379b540034564530e3b8e58", func := "cupel/cupellaw17.EngineNil", spec := "engineNil", unfollowed := true, recurses := true, apart := false }
def EngineNilSaid : Prop := engineNilRow.holds Try.pinned (OpenSpec.ofChange engineNilSpec)

/-- ITS FALSE NEIGHBOUR: 'it returns false'. Refute it at one input. -/
def engineNilWrong : ChangeSpec := { name := "engineNil", fn := fun _ => fun
  | [d1, d2, d3] => { results := [.lit (.bool false)], args := [d1, d2, d3] }
  | _ => none }
def EngineNilWrongFalsely : Prop := engineNilRow.holds Try.pinned (OpenSpec.ofChange engineNilWrong)

/-- 'cupellaw17.EngineBudgets': WHATEVER THE INPUT: true; the input reads as it did. -/
def engineBudgetsSpec : ChangeSpec := { name := "engineBudgets", fn := fun _ => fun
  | [d1, d2, d3] => { results := [.lit (.bool true)], args := [d1, d2, d3] }
  | _ => none }
def engineBudgetsRow : OpenClaim := { program := "ytfkedhclhmbpfaa", sum := "b7241362ac3240426e7f706a2cc8430a8d894f50f379b540034564530e3b8e58", func := "cupel/cupellaw17.EngineBudgets", spec := "engineBudgets", unfollowed := true, recurses := true, apart := false }
def EngineBudgetsSaid : Prop := engineBudgetsRow.holds Try.pinned (OpenSpec.ofChange engineBudgetsSpec)

/-- ITS FALSE NEIGHBOUR: 'it returns false'. Refute it at one input. -/
def engineBudgetsWrong : ChangeSpec := { name := "engineBudgets", fn := fun _ => fun
  | [d1, d2, d3] => { results := [.lit (.bool false)], args := [d1, d2, d3] }
  | _ => none }
def EngineBudgetsWrongFalsely : Prop := engineBudgetsRow.holds Try.pinned (OpenSpec.ofChange engineBudgetsWrong)

/- THE SECOND FORM. 'bulk': how many values and letters a reading holds, each counted each time it is reached (what is shared counts as often as it is met; a slice's spare places count too). A statement '..UptoSaid' is the law's where the arguments, and the package variables that the reading takes, are together of bulk at most 1048576: NARROWER than '..Said'. Prove '..Said' where nothing that the law and all that it calls make is longer than what came in: it says more and counts as full. Else prove '..UptoSaid'. A law counts once. -/
mutual
def uptoBulk {H : Type} : DataW H → Nat
  | .lit (.string bytes) => bytes.length + 1
  | .lit _ => 1
  | .nil => 1
  | .ptr d => uptoBulk d + 1
  | .slice elems spare => uptoBulkAll elems + uptoBulkAll spare + 1
  | .agg parts => uptoBulkAll parts + 1
  | .iface _ d => uptoBulk d + 1
  | .map entries => uptoBulkEntries entries + 1
  | .held _ => 1
def uptoBulkAll {H : Type} : List (DataW H) → Nat
  | [] => 0
  | d :: r => uptoBulk d + uptoBulkAll r
def uptoBulkEntries {H : Type} : List (Lit × DataW H) → Nat
  | [] => 0
  | x :: r => uptoBulkEntry x + uptoBulkEntries r
def uptoBulkEntry {H : Type} : Lit × DataW H → Nat
  | (.string bytes, d) => bytes.length + uptoBulk d + 1
  | (_, d) => uptoBulk d + 1
 end
def uptoSmall : (H : Type) → List (DataW H) → Bool := fun _ ds => decide (uptoBulkAll ds ≤ 1048576)
def OpenSpec.upto (s : _root_.Go.ChangeSpec) : _root_.Go.OpenSpec := { _root_.Go.OpenSpec.ofChange s with cond := some uptoSmall }

/-- 'cupellaw17.EngineKeeps', WHERE WHAT IT READS IS OF BULK AT MOST 1048576: true; the input reads as it did. -/
def engineKeepsUptoRow : OpenClaim := { program := "ytfkedhclhmbpfaa", sum := "b7241362ac3240426e7f706a2cc8430a8d894f50f379b540034564530e3b8e58", func := "cupel/cupellaw17.EngineKeeps", spec := "engineKeeps", unfollowed := true, recurses := true, apart := false, narrowed := true }
def EngineKeepsUptoSaid : Prop := engineKeepsUptoRow.holds Try.pinned (OpenSpec.upto engineKeepsSpec)

/-- 'cupellaw17.EngineCuts', WHERE WHAT IT READS IS OF BULK AT MOST 1048576: true; the input reads as it did. -/
def engineCutsUptoRow : OpenClaim := { program := "ytfkedhclhmbpfaa", sum := "b7241362ac3240426e7f706a2cc8430a8d894f50f379b540034564530e3b8e58", func := "cupel/cupellaw17.EngineCuts", spec := "engineCuts", unfollowed := true, recurses := true, apart := false, narrowed := true }
def EngineCutsUptoSaid : Prop := engineCutsUptoRow.holds Try.pinned (OpenSpec.upto engineCutsSpec)

/-- 'cupellaw17.EngineRows', WHERE WHAT IT READS IS OF BULK AT MOST 1048576: true; the input reads as it did. -/
def engineRowsUptoRow : OpenClaim := { program := "ytfkedhclhmbpfaa", sum := "b7241362ac3240426e7f706a2cc8430a8d894f50f379b540034564530e3b8e58", func := "cupel/cupellaw17.EngineRows", spec := "engineRows", unfollowed := true, recurses := true, apart := false, narrowed := true }
def EngineRowsUptoSaid : Prop := engineRowsUptoRow.holds Try.pinned (OpenSpec.upto engineRowsSpec)

/-- 'cupellaw17.EngineTells', WHERE WHAT IT READS IS OF BULK AT MOST 1048576: true; the input reads as it did. -/
def engineTellsUptoRow : OpenClaim := { program := "ytfkedhclhmbpfaa", sum := "b7241362ac3240426e7f706a2cc8430a8d894f50f379b540034564530e3b8e58", func := "cupel/cupellaw17.EngineTells", spec := "engineTells", unfollowed := true, recurses := true, apart := false, narrowed := true }
def EngineTellsUptoSaid : Prop := engineTellsUptoRow.holds Try.pinned (OpenSpec.upto engineTellsSpec)

/-- 'cupellaw17.EngineNil', WHERE WHAT IT READS IS OF BULK AT MOST 1048576: true; the input reads as it did. -/
def engineNilUptoRow : OpenClaim := { program := "ytfkedhclhmbpfaa", sum := "b7241362ac3240426e7f706a2cc8430a8d894f50f379b540034564530e3b8e58", func := "cupel/cupellaw17.EngineNil", spec := "engineNil", unfollowed := true, recurses := true, apart := false, narrowed := true }
def EngineNilUptoSaid : Prop := engineNilUptoRow.holds Try.pinned (OpenSpec.upto engineNilSpec)

/-- 'cupellaw17.EngineBudgets', WHERE WHAT IT READS IS OF BULK AT MOST 1048576: true; the input reads as it did. -/
def engineBudgetsUptoRow : OpenClaim := { program := "ytfkedhclhmbpfaa", sum := "b7241362ac3240426e7f706a2cc8430a8d894f50f379b540034564530e3b8e58", func := "cupel/cupellaw17.EngineBudgets", spec := "engineBudgets", unfollowed := true, recurses := true, apart := false, narrowed := true }
def EngineBudgetsUptoSaid : Prop := engineBudgetsUptoRow.holds Try.pinned (OpenSpec.upto engineBudgetsSpec)

end Rows
end Go.Proofs.Ytfkedhclhmbpfaa
