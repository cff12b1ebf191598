/-
  No cell of these rows narrows 'for every input' (looked for: loops, veiled, ifaces, maps, wideKeys, modest, calm, conditions, laid).
  DERIVED. THE GIVEN ROWS OF THIS SEAT. 5 by the template 'for every input the law returns true; each argument reads behind the call as it read before'; 0 by the template 'total and deterministic' (their statements: YteabiaoklpfbdaaTotals.lean).
  GIVEN WITH THE SEED: the statements are not yours to turn. If you find one false, say at which input.
  Laid BY PROGRAM, IN A SANDBOX (cutbox-rows.mjs): the forced cells as the released guide's own fill.sh prints them over the translation de8e32b25564c448… (all of the seat's roots in one cut). By AI agents, Wed Nov 11 2026. No macro, syntax, notation, axiom, sorry.
-/
import Derived.Test.YteabiaoklpfbdaaChecked
import GoSem.Claim
import GoSem.ClaimJoined
import GoSem.ClaimMapViews
import Derived.JoinedTies
import Derived.KernelRfl
namespace Go.Proofs.Yteabiaoklpfbdaa
/- THE CELL 'sum', in the pinned program and in every row, IS THE sha256 OF THE DUMP (.gsa) THAT YteabiaoklpfbdaaProg.lean LOADS. Nothing in Lean hashes anything: it is a label: what it is worth is what the hold of that sum in a sandbox is worth. -/
noncomputable def Try.pinned : Pinned := { name := "yteabiaoklpfbdaa", sum := "de8e32b25564c448fb8122a36179f9349e57ed91377101ac971960cf34f0feb8", checked := Try.checked }
namespace Rows
def none {H : Type} : Left H := { results := [], args := [] }

/-- 'tarpaulinlaw17.TaskLine': WHATEVER THE INPUT: true; the input reads as it did. -/
def taskLineSpec : ChangeSpec := { name := "taskLine", fn := fun _ => fun
  | [d] => { results := [.lit (.bool true)], args := [d] }
  | _ => none }
def taskLineRow : OpenClaim := { program := "yteabiaoklpfbdaa", sum := "de8e32b25564c448fb8122a36179f9349e57ed91377101ac971960cf34f0feb8", func := "tarpaulin/tarpaulinlaw17.TaskLine", spec := "taskLine", unfollowed := true, recurses := true, apart := false }
def TaskLineSaid : Prop := taskLineRow.holds Try.pinned (OpenSpec.ofChange taskLineSpec)

/-- ITS FALSE NEIGHBOUR: 'it returns false'. Refute it at one input. -/
def taskLineWrong : ChangeSpec := { name := "taskLine", fn := fun _ => fun
  | [d] => { results := [.lit (.bool false)], args := [d] }
  | _ => none }
def TaskLineWrongFalsely : Prop := taskLineRow.holds Try.pinned (OpenSpec.ofChange taskLineWrong)

/-- 'tarpaulinlaw17.TaskFull': WHATEVER THE INPUT: true; the input reads as it did. -/
def taskFullSpec : ChangeSpec := { name := "taskFull", fn := fun _ => fun
  | [d1, d2] => { results := [.lit (.bool true)], args := [d1, d2] }
  | _ => none }
def taskFullRow : OpenClaim := { program := "yteabiaoklpfbdaa", sum := "de8e32b25564c448fb8122a36179f9349e57ed91377101ac971960cf34f0feb8", func := "tarpaulin/tarpaulinlaw17.TaskFull", spec := "taskFull", unfollowed := true, recurses := true, apart := false }
def TaskFullSaid : Prop := taskFullRow.holds Try.pinned (OpenSpec.ofChange taskFullSpec)

/-- ITS FALSE NEIGHBOUR: 'it returns false'. Refute it at one input. -/
def taskFullWrong : ChangeSpec := { name := "taskFull", fn := fun _ => fun
  | [d1, d2] => { results := [.lit (.bool false)], args := [d1, d2] }
  | _ => none }
def TaskFullWrongFalsely : Prop := taskFullRow.holds Try.pinned (OpenSpec.ofChange taskFullWrong)

/-- 'tarpaulinlaw17.TaskPicks': WHATEVER THE INPUT: true; the input reads as it did. -/
def taskPicksSpec : ChangeSpec := { name := "taskPicks", fn := fun _ => fun
  | [d1, d2] => { results := [.lit (.bool true)], args := [d1, d2] }
  | _ => none }
def taskPicksRow : OpenClaim := { program := "yteabiaoklpfbdaa", sum := "de8e32b25564c448fb8122a36179f9349e57ed91377101ac971960cf34f0feb8", func := "tarpaulin/tarpaulinlaw17.TaskPicks", spec := "taskPicks", unfollowed := true, recurses := true, apart := false }
def TaskPicksSaid : Prop := taskPicksRow.holds Try.pinned (OpenSpec.ofChange taskPicksSpec)

/-- ITS FALSE NEIGHBOUR: 'it returns false'. Refute it at one input. -/
def taskPicksWrong : ChangeSpec := { name := "taskPicks", fn := fun _ => fun
  | [d1, d2] => { results := [.lit (.bool false)], args := [d1, d2] }
  | _ => none }
def TaskPicksWrongFalsely : Prop := taskPicksRow.holds Try.pinned (OpenSpec.ofChange taskPicksWrong)

/-- 'tarpaulinlaw17.TaskWakes': WHATEVER THE INPUT: true; the input reads as it did. -/
def taskWakesSpec : ChangeSpec := { name := "taskWakes", fn := fun _ => fun
  | [d1, d2, d3, d4, d5, d6, d7] => { results := [.lit (.bool true)], args := [d1, d2, d3, d4, d5, d6, d7] }
  | _ => none }
def taskWakesRow : OpenClaim := { program := "yteabiaoklpfbdaa", sum := "de8e32b25564c448fb8122a36179f9349e57ed91377101ac971960cf34f0feb8", func := "tarpaulin/tarpaulinlaw17.TaskWakes", spec := "taskWakes", unfollowed := true, recurses := true, apart := false }
def TaskWakesSaid : Prop := taskWakesRow.holds Try.pinned (OpenSpec.ofChange taskWakesSpec)

/-- ITS FALSE NEIGHBOUR: 'it returns false'. Refute it at one input. -/
def taskWakesWrong : ChangeSpec := { name := "taskWakes", fn := fun _ => fun
  | [d1, d2, d3, d4, d5, d6, d7] => { results := [.lit (.bool false)], args := [d1, d2, d3, d4, d5, d6, d7] }
  | _ => none }
def TaskWakesWrongFalsely : Prop := taskWakesRow.holds Try.pinned (OpenSpec.ofChange taskWakesWrong)

/-- 'tarpaulinlaw17.TaskEnds': WHATEVER THE INPUT: true; the input reads as it did. -/
def taskEndsSpec : ChangeSpec := { name := "taskEnds", fn := fun _ => fun
  | [d1, d2, d3, d4] => { results := [.lit (.bool true)], args := [d1, d2, d3, d4] }
  | _ => none }
def taskEndsRow : OpenClaim := { program := "yteabiaoklpfbdaa", sum := "de8e32b25564c448fb8122a36179f9349e57ed91377101ac971960cf34f0feb8", func := "tarpaulin/tarpaulinlaw17.TaskEnds", spec := "taskEnds", unfollowed := true, recurses := true, apart := false }
def TaskEndsSaid : Prop := taskEndsRow.holds Try.pinned (OpenSpec.ofChange taskEndsSpec)

/-- ITS FALSE NEIGHBOUR: 'it returns false'. Refute it at one input. -/
def taskEndsWrong : ChangeSpec := { name := "taskEnds", fn := fun _ => fun
  | [d1, d2, d3, d4] => { results := [.lit (.bool false)], args := [d1, d2, d3, d4] }
  | _ => none }
def TaskEndsWrongFalsely : Prop := taskEndsRow.holds Try.pinned (OpenSpec.ofChange taskEndsWrong)

/- THE SECOND FORM. 'bulk': how many values and letters a reading holds, each counted each time it is reached (what is shared counts as often as it is met; a slice's spare places count too). A statement '..UptoSaid' is the law's where the arguments, and the package variables that the reading takes, are together of bulk at most 1048576: NARROWER than '..Said'. Prove '..Said' where nothing that the law and all that it calls make is longer than what came in: it says more and counts as full. Else prove '..UptoSaid'. A law counts once. -/
mutual
def uptoBulk {H : Type} : DataW H → Nat
  | .lit (.string bytes) => bytes.length + 1
  | .lit _ => 1
  | .nil => 1
  | .ptr d => uptoBulk d + 1
  | .slice elems spare => uptoBulkAll elems + uptoBulkAll spare + 1
  | .agg parts => uptoBulkAll parts + 1
  | .iface _ d => uptoBulk d + 1
  | .map entries => uptoBulkEntries entries + 1
  | .held _ => 1
def uptoBulkAll {H : Type} : List (DataW H) → Nat
  | [] => 0
  | d :: r => uptoBulk d + uptoBulkAll r
def uptoBulkEntries {H : Type} : List (Lit × DataW H) → Nat
  | [] => 0
  | x :: r => uptoBulkEntry x + uptoBulkEntries r
def uptoBulkEntry {H : Type} : Lit × DataW H → Nat
  | (.string bytes, d) => bytes.length + uptoBulk d + 1
  | (_, d) => uptoBulk d + 1
 end
def uptoSmall : (H : Type) → List (DataW H) → Bool := fun _ ds => decide (uptoBulkAll ds ≤ 1048576)
def OpenSpec.upto (s : _root_.Go.ChangeSpec) : _root_.Go.OpenSpec := { _root_.Go.OpenSpec.ofChange s with cond := some uptoSmall }

/-- 'tarpaulinlaw17.TaskLine', WHERE WHAT IT READS IS OF BULK AT MOST 1048576: true; the input reads as it did. -/
def taskLineUptoRow : OpenClaim := { program := "yteabiaoklpfbdaa", sum := "de8e32b25564c448fb8122a36179f9349e57ed91377101ac971960cf34f0feb8", func := "tarpaulin/tarpaulinlaw17.TaskLine", spec := "taskLine", unfollowed := true, recurses := true, apart := false, narrowed := true }
def TaskLineUptoSaid : Prop := taskLineUptoRow.holds Try.pinned (OpenSpec.upto taskLineSpec)

/-- 'tarpaulinlaw17.TaskFull', WHERE WHAT IT READS IS OF BULK AT MOST 1048576: true; the input reads as it did. -/
def taskFullUptoRow : OpenClaim := { program := "yteabiaoklpfbdaa", sum := "de8e32b25564c448fb8122a36179f9349e57ed91377101ac971960cf34f0feb8", func := "tarpaulin/tarpaulinlaw17.TaskFull", spec := "taskFull", unfollowed := true, recurses := true, apart := false, narrowed := true }
def TaskFullUptoSaid : Prop := taskFullUptoRow.holds Try.pinned (OpenSpec.upto taskFullSpec)

/-- 'tarpaulinlaw17.TaskPicks', WHERE WHAT IT READS IS OF BULK AT MOST 1048576: true; the input reads as it did. -/
def taskPicksUptoRow : OpenClaim := { program := "yteabiaoklpfbdaa", sum := "de8e32b25564c448fb8122a36179f9349e57ed91377101ac971960cf34f0feb8", func := "tarpaulin/tarpaulinlaw17.TaskPicks", spec := "taskPicks", unfollowed := true, recurses := true, apart := false, narrowed := true }
def TaskPicksUptoSaid : Prop := taskPicksUptoRow.holds Try.pinned (OpenSpec.upto taskPicksSpec)

/-- 'tarpaulinlaw17.TaskWakes', WHERE WHAT IT READS IS OF BULK AT MOST 1048576: true; the input reads as it did. -/
def taskWakesUptoRow : OpenClaim := { program := "yteabiaoklpfbdaa", sum := "de8e32b25564c448fb8122a36179f9349e57ed91377101ac971960cf34f0feb8", func := "tarpaulin/tarpaulinlaw17.TaskWakes", spec := "taskWakes", unfollowed := true, recurses := true, apart := false, narrowed := true }
def TaskWakesUptoSaid : Prop := taskWakesUptoRow.holds Try.pinned (OpenSpec.upto taskWakesSpec)

/-- 'tarpaulinlaw17.TaskEnds', WHERE WHAT IT READS IS OF BULK AT MOST 1048576: true; the input reads as it did. -/
def taskEndsUptoRow : OpenClaim := { program := "yteabiaoklpfbdaa", sum := "de8e32b25564c448fb8122a36179f9349e57ed91377101ac971960cf34f0feb8", func := "tarpaulin/tarpaulinlaw17.TaskEnds", spec := "taskEnds", unfollowed := true, recurses := true, apart := false, narrowed := true }
def TaskEndsUptoSaid : Prop := taskEndsUptoRow.holds Try.pinned (OpenSpec.upto taskEndsSpec)

end Rows
end Go.Proofs.Yteabiaoklpfbdaa
