/-
  No cell of these rows narrows 'for every input' (looked for: loops, veiled, ifaces, maps, wideKeys, modest, calm, conditions, laid).
  DERIVED. THE GIVEN ROWS OF THIS SEAT. 12 by the template 'for every input the law returns true; each argument reads behind the call as it read before'; 0 by the template 'total and deterministic' (their statements: YtpjkjnejlmmapaaTotals.lean).
  GIVEN WITH THE SEED: the statements are not yours to turn. If you find one false, say at which input.
  Laid BY PROGRAM, IN A SANDBOX (cutbox-rows.mjs): the forced cells as the released guide's own fill.sh prints them over the translation b638a0150d4b5c79… (all of the seat's roots in one cut). By AI agents, Wed Nov 11 2026. No macro, syntax, notation, axiom, sorry.
-/
import Derived.Test.YtpjkjnejlmmapaaChecked
import GoSem.Claim
import GoSem.ClaimJoined
import GoSem.ClaimMapViews
import Derived.JoinedTies
import Derived.KernelRfl
namespace Go.Proofs.Ytpjkjnejlmmapaa
/- THE CELL 'sum', in the pinned program and in every row, IS THE sha256 OF THE DUMP (.gsa) THAT YtpjkjnejlmmapaaProg.lean LOADS. Nothing in Lean hashes anything: it is a label: what it is worth is what the hold of that sum in a sandbox is worth. -/
noncomputable def Try.pinned : Pinned := { name := "ytpjkjnejlmmapaa", sum := "b638a0150d4b5c79473bb7d618a7c85a7695e21851313476cae8315fe2ea3eae", checked := Try.checked }
namespace Rows
def none {H : Type} : Left H := { results := [], args := [] }

/-- 'tarpaulinlaw8.ReadyActs': WHATEVER THE INPUT: true; the input reads as it did. -/
def readyActsSpec : ChangeSpec := { name := "readyActs", fn := fun _ => fun
  | [d] => { results := [.lit (.bool true)], args := [d] }
  | _ => none }
def readyActsRow : OpenClaim := { program := "ytpjkjnejlmmapaa", sum := "b638a0150d4b5c79473bb7d618a7c85a7695e21851313476cae8315fe2ea3eae", func := "tarpaulin/tarpaulinlaw8.ReadyActs", spec := "readyActs", apart := false }
def ReadyActsSaid : Prop := readyActsRow.holds Try.pinned (OpenSpec.ofChange readyActsSpec)

/-- ITS FALSE NEIGHBOUR: 'it returns false'. Refute it at one input. -/
def readyActsWrong : ChangeSpec := { name := "readyActs", fn := fun _ => fun
  | [d] => { results := [.lit (.bool false)], args := [d] }
  | _ => none }
def ReadyActsWrongFalsely : Prop := readyActsRow.holds Try.pinned (OpenSpec.ofChange readyActsWrong)

/-- 'tarpaulinlaw8.ReadyTurns': WHATEVER THE INPUT: true; the input reads as it did. -/
def readyTurnsSpec : ChangeSpec := { name := "readyTurns", fn := fun _ => fun
  | [d1, d2] => { results := [.lit (.bool true)], args := [d1, d2] }
  | _ => none }
def readyTurnsRow : OpenClaim := { program := "ytpjkjnejlmmapaa", sum := "b638a0150d4b5c79473bb7d618a7c85a7695e21851313476cae8315fe2ea3eae", func := "tarpaulin/tarpaulinlaw8.ReadyTurns", spec := "readyTurns", apart := false }
def ReadyTurnsSaid : Prop := readyTurnsRow.holds Try.pinned (OpenSpec.ofChange readyTurnsSpec)

/-- ITS FALSE NEIGHBOUR: 'it returns false'. Refute it at one input. -/
def readyTurnsWrong : ChangeSpec := { name := "readyTurns", fn := fun _ => fun
  | [d1, d2] => { results := [.lit (.bool false)], args := [d1, d2] }
  | _ => none }
def ReadyTurnsWrongFalsely : Prop := readyTurnsRow.holds Try.pinned (OpenSpec.ofChange readyTurnsWrong)

/-- 'tarpaulinlaw8.ReadyBehind': WHATEVER THE INPUT: true; the input reads as it did. -/
def readyBehindSpec : ChangeSpec := { name := "readyBehind", fn := fun _ => fun
  | [d1, d2] => { results := [.lit (.bool true)], args := [d1, d2] }
  | _ => none }
def readyBehindRow : OpenClaim := { program := "ytpjkjnejlmmapaa", sum := "b638a0150d4b5c79473bb7d618a7c85a7695e21851313476cae8315fe2ea3eae", func := "tarpaulin/tarpaulinlaw8.ReadyBehind", spec := "readyBehind", apart := false }
def ReadyBehindSaid : Prop := readyBehindRow.holds Try.pinned (OpenSpec.ofChange readyBehindSpec)

/-- ITS FALSE NEIGHBOUR: 'it returns false'. Refute it at one input. -/
def readyBehindWrong : ChangeSpec := { name := "readyBehind", fn := fun _ => fun
  | [d1, d2] => { results := [.lit (.bool false)], args := [d1, d2] }
  | _ => none }
def ReadyBehindWrongFalsely : Prop := readyBehindRow.holds Try.pinned (OpenSpec.ofChange readyBehindWrong)

/-- 'tarpaulinlaw8.ReadyNone': WHATEVER THE INPUT: true; the input reads as it did. -/
def readyNoneSpec : ChangeSpec := { name := "readyNone", fn := fun _ => fun
  | [d1, d2] => { results := [.lit (.bool true)], args := [d1, d2] }
  | _ => none }
def readyNoneRow : OpenClaim := { program := "ytpjkjnejlmmapaa", sum := "b638a0150d4b5c79473bb7d618a7c85a7695e21851313476cae8315fe2ea3eae", func := "tarpaulin/tarpaulinlaw8.ReadyNone", spec := "readyNone", apart := false }
def ReadyNoneSaid : Prop := readyNoneRow.holds Try.pinned (OpenSpec.ofChange readyNoneSpec)

/-- ITS FALSE NEIGHBOUR: 'it returns false'. Refute it at one input. -/
def readyNoneWrong : ChangeSpec := { name := "readyNone", fn := fun _ => fun
  | [d1, d2] => { results := [.lit (.bool false)], args := [d1, d2] }
  | _ => none }
def ReadyNoneWrongFalsely : Prop := readyNoneRow.holds Try.pinned (OpenSpec.ofChange readyNoneWrong)

/-- 'tarpaulinlaw6.WaitActs': WHATEVER THE INPUT: true; the input reads as it did. -/
def waitActsSpec : ChangeSpec := { name := "waitActs", fn := fun _ => fun
  | [d] => { results := [.lit (.bool true)], args := [d] }
  | _ => none }
def waitActsRow : OpenClaim := { program := "ytpjkjnejlmmapaa", sum := "b638a0150d4b5c79473bb7d618a7c85a7695e21851313476cae8315fe2ea3eae", func := "tarpaulin/tarpaulinlaw6.WaitActs", spec := "waitActs", unfollowed := true, recurses := true, apart := false }
def WaitActsSaid : Prop := waitActsRow.holds Try.pinned (OpenSpec.ofChange waitActsSpec)

/-- ITS FALSE NEIGHBOUR: 'it returns false'. Refute it at one input. -/
def waitActsWrong : ChangeSpec := { name := "waitActs", fn := fun _ => fun
  | [d] => { results := [.lit (.bool false)], args := [d] }
  | _ => none }
def WaitActsWrongFalsely : Prop := waitActsRow.holds Try.pinned (OpenSpec.ofChange waitActsWrong)

/-- 'tarpaulinlaw6.WaitRows': WHATEVER THE INPUT: true; the input reads as it did. -/
def waitRowsSpec : ChangeSpec := { name := "waitRows", fn := fun _ => fun
  | [d1, d2] => { results := [.lit (.bool true)], args := [d1, d2] }
  | _ => none }
def waitRowsRow : OpenClaim := { program := "ytpjkjnejlmmapaa", sum := "b638a0150d4b5c79473bb7d618a7c85a7695e21851313476cae8315fe2ea3eae", func := "tarpaulin/tarpaulinlaw6.WaitRows", spec := "waitRows", unfollowed := true, recurses := true, apart := false }
def WaitRowsSaid : Prop := waitRowsRow.holds Try.pinned (OpenSpec.ofChange waitRowsSpec)

/-- ITS FALSE NEIGHBOUR: 'it returns false'. Refute it at one input. -/
def waitRowsWrong : ChangeSpec := { name := "waitRows", fn := fun _ => fun
  | [d1, d2] => { results := [.lit (.bool false)], args := [d1, d2] }
  | _ => none }
def WaitRowsWrongFalsely : Prop := waitRowsRow.holds Try.pinned (OpenSpec.ofChange waitRowsWrong)

/-- 'tarpaulinlaw6.WaitTakes': WHATEVER THE INPUT: true; the input reads as it did. -/
def waitTakesSpec : ChangeSpec := { name := "waitTakes", fn := fun _ => fun
  | [d1, d2, d3, d4] => { results := [.lit (.bool true)], args := [d1, d2, d3, d4] }
  | _ => none }
def waitTakesRow : OpenClaim := { program := "ytpjkjnejlmmapaa", sum := "b638a0150d4b5c79473bb7d618a7c85a7695e21851313476cae8315fe2ea3eae", func := "tarpaulin/tarpaulinlaw6.WaitTakes", spec := "waitTakes", unfollowed := true, recurses := true, apart := false }
def WaitTakesSaid : Prop := waitTakesRow.holds Try.pinned (OpenSpec.ofChange waitTakesSpec)

/-- ITS FALSE NEIGHBOUR: 'it returns false'. Refute it at one input. -/
def waitTakesWrong : ChangeSpec := { name := "waitTakes", fn := fun _ => fun
  | [d1, d2, d3, d4] => { results := [.lit (.bool false)], args := [d1, d2, d3, d4] }
  | _ => none }
def WaitTakesWrongFalsely : Prop := waitTakesRow.holds Try.pinned (OpenSpec.ofChange waitTakesWrong)

/-- 'tarpaulinlaw14.TreeActs': WHATEVER THE INPUT: true; the input reads as it did. -/
def treeActsSpec : ChangeSpec := { name := "treeActs", fn := fun _ => fun
  | [d] => { results := [.lit (.bool true)], args := [d] }
  | _ => none }
def treeActsRow : OpenClaim := { program := "ytpjkjnejlmmapaa", sum := "b638a0150d4b5c79473bb7d618a7c85a7695e21851313476cae8315fe2ea3eae", func := "tarpaulin/tarpaulinlaw14.TreeActs", spec := "treeActs", recurses := true, apart := false }
def TreeActsSaid : Prop := treeActsRow.holds Try.pinned (OpenSpec.ofChange treeActsSpec)

/-- ITS FALSE NEIGHBOUR: 'it returns false'. Refute it at one input. -/
def treeActsWrong : ChangeSpec := { name := "treeActs", fn := fun _ => fun
  | [d] => { results := [.lit (.bool false)], args := [d] }
  | _ => none }
def TreeActsWrongFalsely : Prop := treeActsRow.holds Try.pinned (OpenSpec.ofChange treeActsWrong)

/-- 'tarpaulinlaw14.TreeWalks': WHATEVER THE INPUT: true; the input reads as it did. -/
def treeWalksSpec : ChangeSpec := { name := "treeWalks", fn := fun _ => fun
  | [d1, d2] => { results := [.lit (.bool true)], args := [d1, d2] }
  | _ => none }
def treeWalksRow : OpenClaim := { program := "ytpjkjnejlmmapaa", sum := "b638a0150d4b5c79473bb7d618a7c85a7695e21851313476cae8315fe2ea3eae", func := "tarpaulin/tarpaulinlaw14.TreeWalks", spec := "treeWalks", recurses := true, apart := false }
def TreeWalksSaid : Prop := treeWalksRow.holds Try.pinned (OpenSpec.ofChange treeWalksSpec)

/-- ITS FALSE NEIGHBOUR: 'it returns false'. Refute it at one input. -/
def treeWalksWrong : ChangeSpec := { name := "treeWalks", fn := fun _ => fun
  | [d1, d2] => { results := [.lit (.bool false)], args := [d1, d2] }
  | _ => none }
def TreeWalksWrongFalsely : Prop := treeWalksRow.holds Try.pinned (OpenSpec.ofChange treeWalksWrong)

/-- 'tarpaulinlaw14.TreeDetach': WHATEVER THE INPUT: true; the input reads as it did. -/
def treeDetachSpec : ChangeSpec := { name := "treeDetach", fn := fun _ => fun
  | [d1, d2] => { results := [.lit (.bool true)], args := [d1, d2] }
  | _ => none }
def treeDetachRow : OpenClaim := { program := "ytpjkjnejlmmapaa", sum := "b638a0150d4b5c79473bb7d618a7c85a7695e21851313476cae8315fe2ea3eae", func := "tarpaulin/tarpaulinlaw14.TreeDetach", spec := "treeDetach", recurses := true, apart := false }
def TreeDetachSaid : Prop := treeDetachRow.holds Try.pinned (OpenSpec.ofChange treeDetachSpec)

/-- ITS FALSE NEIGHBOUR: 'it returns false'. Refute it at one input. -/
def treeDetachWrong : ChangeSpec := { name := "treeDetach", fn := fun _ => fun
  | [d1, d2] => { results := [.lit (.bool false)], args := [d1, d2] }
  | _ => none }
def TreeDetachWrongFalsely : Prop := treeDetachRow.holds Try.pinned (OpenSpec.ofChange treeDetachWrong)

/-- 'tarpaulinlaw14.TreeUnder': WHATEVER THE INPUT: true; the input reads as it did. -/
def treeUnderSpec : ChangeSpec := { name := "treeUnder", fn := fun _ => fun
  | [d1, d2, d3] => { results := [.lit (.bool true)], args := [d1, d2, d3] }
  | _ => none }
def treeUnderRow : OpenClaim := { program := "ytpjkjnejlmmapaa", sum := "b638a0150d4b5c79473bb7d618a7c85a7695e21851313476cae8315fe2ea3eae", func := "tarpaulin/tarpaulinlaw14.TreeUnder", spec := "treeUnder", recurses := true, apart := false }
def TreeUnderSaid : Prop := treeUnderRow.holds Try.pinned (OpenSpec.ofChange treeUnderSpec)

/-- ITS FALSE NEIGHBOUR: 'it returns false'. Refute it at one input. -/
def treeUnderWrong : ChangeSpec := { name := "treeUnder", fn := fun _ => fun
  | [d1, d2, d3] => { results := [.lit (.bool false)], args := [d1, d2, d3] }
  | _ => none }
def TreeUnderWrongFalsely : Prop := treeUnderRow.holds Try.pinned (OpenSpec.ofChange treeUnderWrong)

/-- 'tarpaulinlaw14.TreeLines': WHATEVER THE INPUT: true; the input reads as it did. -/
def treeLinesSpec : ChangeSpec := { name := "treeLines", fn := fun _ => fun
  | [d1, d2] => { results := [.lit (.bool true)], args := [d1, d2] }
  | _ => none }
def treeLinesRow : OpenClaim := { program := "ytpjkjnejlmmapaa", sum := "b638a0150d4b5c79473bb7d618a7c85a7695e21851313476cae8315fe2ea3eae", func := "tarpaulin/tarpaulinlaw14.TreeLines", spec := "treeLines", recurses := true, apart := false }
def TreeLinesSaid : Prop := treeLinesRow.holds Try.pinned (OpenSpec.ofChange treeLinesSpec)

/-- ITS FALSE NEIGHBOUR: 'it returns false'. Refute it at one input. -/
def treeLinesWrong : ChangeSpec := { name := "treeLines", fn := fun _ => fun
  | [d1, d2] => { results := [.lit (.bool false)], args := [d1, d2] }
  | _ => none }
def TreeLinesWrongFalsely : Prop := treeLinesRow.holds Try.pinned (OpenSpec.ofChange treeLinesWrong)

/- THE SECOND FORM. 'bulk': how many values and letters a reading holds, each counted each time it is reached (what is shared counts as often as it is met; a slice's spare places count too). A statement '..UptoSaid' is the law's where the arguments, and the package variables that the reading takes, are together of bulk at most 1048576: NARROWER than '..Said'. Prove '..Said' where nothing that the law and all that it calls make is longer than what came in: it says more and counts as full. Else prove '..UptoSaid'. A law counts once. -/
mutual
def uptoBulk {H : Type} : DataW H → Nat
  | .lit (.string bytes) => bytes.length + 1
  | .lit _ => 1
  | .nil => 1
  | .ptr d => uptoBulk d + 1
  | .slice elems spare => uptoBulkAll elems + uptoBulkAll spare + 1
  | .agg parts => uptoBulkAll parts + 1
  | .iface _ d => uptoBulk d + 1
  | .map entries => uptoBulkEntries entries + 1
  | .held _ => 1
def uptoBulkAll {H : Type} : List (DataW H) → Nat
  | [] => 0
  | d :: r => uptoBulk d + uptoBulkAll r
def uptoBulkEntries {H : Type} : List (Lit × DataW H) → Nat
  | [] => 0
  | x :: r => uptoBulkEntry x + uptoBulkEntries r
def uptoBulkEntry {H : Type} : Lit × DataW H → Nat
  | (.string bytes, d) => bytes.length + uptoBulk d + 1
  | (_, d) => uptoBulk d + 1
 end
def uptoSmall : (H : Type) → List (DataW H) → Bool := fun _ ds => decide (uptoBulkAll ds ≤ 1048576)
def OpenSpec.upto (s : _root_.Go.ChangeSpec) : _root_.Go.OpenSpec := { _root_.Go.OpenSpec.ofChange s with cond := some uptoSmall }

/-- 'tarpaulinlaw8.ReadyActs', WHERE WHAT IT READS IS OF BULK AT MOST 1048576: true; the input reads as it did. -/
def readyActsUptoRow : OpenClaim := { program := "ytpjkjnejlmmapaa", sum := "b638a0150d4b5c79473bb7d618a7c85a7695e21851313476cae8315fe2ea3eae", func := "tarpaulin/tarpaulinlaw8.ReadyActs", spec := "readyActs", apart := false, narrowed := true }
def ReadyActsUptoSaid : Prop := readyActsUptoRow.holds Try.pinned (OpenSpec.upto readyActsSpec)

/-- 'tarpaulinlaw8.ReadyTurns', WHERE WHAT IT READS IS OF BULK AT MOST 1048576: true; the input reads as it did. -/
def readyTurnsUptoRow : OpenClaim := { program := "ytpjkjnejlmmapaa", sum := "b638a0150d4b5c79473bb7d618a7c85a7695e21851313476cae8315fe2ea3eae", func := "tarpaulin/tarpaulinlaw8.ReadyTurns", spec := "readyTurns", apart := false, narrowed := true }
def ReadyTurnsUptoSaid : Prop := readyTurnsUptoRow.holds Try.pinned (OpenSpec.upto readyTurnsSpec)

/-- 'tarpaulinlaw8.ReadyBehind', WHERE WHAT IT READS IS OF BULK AT MOST 1048576: true; the input reads as it did. -/
def readyBehindUptoRow : OpenClaim := { program := "ytpjkjnejlmmapaa", sum := "b638a0150d4b5c79473bb7d618a7c85a7695e21851313476cae8315fe2ea3eae", func := "tarpaulin/tarpaulinlaw8.ReadyBehind", spec := "readyBehind", apart := false, narrowed := true }
def ReadyBehindUptoSaid : Prop := readyBehindUptoRow.holds Try.pinned (OpenSpec.upto readyBehindSpec)

/-- 'tarpaulinlaw8.ReadyNone', WHERE WHAT IT READS IS OF BULK AT MOST 1048576: true; the input reads as it did. -/
def readyNoneUptoRow : OpenClaim := { program := "ytpjkjnejlmmapaa", sum := "b638a0150d4b5c79473bb7d618a7c85a7695e21851313476cae8315fe2ea3eae", func := "tarpaulin/tarpaulinlaw8.ReadyNone", spec := "readyNone", apart := false, narrowed := true }
def ReadyNoneUptoSaid : Prop := readyNoneUptoRow.holds Try.pinned (OpenSpec.upto readyNoneSpec)

/-- 'tarpaulinlaw6.WaitActs', WHERE WHAT IT READS IS OF BULK AT MOST 1048576: true; the input reads as it did. -/
def waitActsUptoRow : OpenClaim := { program := "ytpjkjnejlmmapaa", sum := "b638a0150d4b5c79473bb7d618a7c85a7695e21851313476cae8315fe2ea3eae", func := "tarpaulin/tarpaulinlaw6.WaitActs", spec := "waitActs", unfollowed := true, recurses := true, apart := false, narrowed := true }
def WaitActsUptoSaid : Prop := waitActsUptoRow.holds Try.pinned (OpenSpec.upto waitActsSpec)

/-- 'tarpaulinlaw6.WaitRows', WHERE WHAT IT READS IS OF BULK AT MOST 1048576: true; the input reads as it did. -/
def waitRowsUptoRow : OpenClaim := { program := "ytpjkjnejlmmapaa", sum := "b638a0150d4b5c79473bb7d618a7c85a7695e21851313476cae8315fe2ea3eae", func := "tarpaulin/tarpaulinlaw6.WaitRows", spec := "waitRows", unfollowed := true, recurses := true, apart := false, narrowed := true }
def WaitRowsUptoSaid : Prop := waitRowsUptoRow.holds Try.pinned (OpenSpec.upto waitRowsSpec)

/-- 'tarpaulinlaw6.WaitTakes', WHERE WHAT IT READS IS OF BULK AT MOST 1048576: true; the input reads as it did. -/
def waitTakesUptoRow : OpenClaim := { program := "ytpjkjnejlmmapaa", sum := "b638a0150d4b5c79473bb7d618a7c85a7695e21851313476cae8315fe2ea3eae", func := "tarpaulin/tarpaulinlaw6.WaitTakes", spec := "waitTakes", unfollowed := true, recurses := true, apart := false, narrowed := true }
def WaitTakesUptoSaid : Prop := waitTakesUptoRow.holds Try.pinned (OpenSpec.upto waitTakesSpec)

/-- 'tarpaulinlaw14.TreeActs', WHERE WHAT IT READS IS OF BULK AT MOST 1048576: true; the input reads as it did. -/
def treeActsUptoRow : OpenClaim := { program := "ytpjkjnejlmmapaa", sum := "b638a0150d4b5c79473bb7d618a7c85a7695e21851313476cae8315fe2ea3eae", func := "tarpaulin/tarpaulinlaw14.TreeActs", spec := "treeActs", recurses := true, apart := false, narrowed := true }
def TreeActsUptoSaid : Prop := treeActsUptoRow.holds Try.pinned (OpenSpec.upto treeActsSpec)

/-- 'tarpaulinlaw14.TreeWalks', WHERE WHAT IT READS IS OF BULK AT MOST 1048576: true; the input reads as it did. -/
def treeWalksUptoRow : OpenClaim := { program := "ytpjkjnejlmmapaa", sum := "b638a0150d4b5c79473bb7d618a7c85a7695e21851313476cae8315fe2ea3eae", func := "tarpaulin/tarpaulinlaw14.TreeWalks", spec := "treeWalks", recurses := true, apart := false, narrowed := true }
def TreeWalksUptoSaid : Prop := treeWalksUptoRow.holds Try.pinned (OpenSpec.upto treeWalksSpec)

/-- 'tarpaulinlaw14.TreeDetach', WHERE WHAT IT READS IS OF BULK AT MOST 1048576: true; the input reads as it did. -/
def treeDetachUptoRow : OpenClaim := { program := "ytpjkjnejlmmapaa", sum := "b638a0150d4b5c79473bb7d618a7c85a7695e21851313476cae8315fe2ea3eae", func := "tarpaulin/tarpaulinlaw14.TreeDetach", spec := "treeDetach", recurses := true, apart := false, narrowed := true }
def TreeDetachUptoSaid : Prop := treeDetachUptoRow.holds Try.pinned (OpenSpec.upto treeDetachSpec)

/-- 'tarpaulinlaw14.TreeUnder', WHERE WHAT IT READS IS OF BULK AT MOST 1048576: true; the input reads as it did. -/
def treeUnderUptoRow : OpenClaim := { program := "ytpjkjnejlmmapaa", sum := "b638a0150d4b5c79473bb7d618a7c85a7695e21851313476cae8315fe2ea3eae", func := "tarpaulin/tarpaulinlaw14.TreeUnder", spec := "treeUnder", recurses := true, apart := false, narrowed := true }
def TreeUnderUptoSaid : Prop := treeUnderUptoRow.holds Try.pinned (OpenSpec.upto treeUnderSpec)

/-- 'tarpaulinlaw14.TreeLines', WHERE WHAT IT READS IS OF BULK AT MOST 1048576: true; the input reads as it did. -/
def treeLinesUptoRow : OpenClaim := { program := "ytpjkjnejlmmapaa", sum := "b638a0150d4b5c79473bb7d618a7c85a7695e21851313476cae8315fe2ea3eae", func := "tarpaulin/tarpaulinlaw14.TreeLines", spec := "treeLines", recurses := true, apart := false, narrowed := true }
def TreeLinesUptoSaid : Prop := treeLinesUptoRow.holds Try.pinned (OpenSpec.upto treeLinesSpec)

end Rows
end Go.Proofs.Ytpjkjnejlmmapaa
