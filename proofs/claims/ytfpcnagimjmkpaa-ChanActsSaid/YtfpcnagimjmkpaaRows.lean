/-
  No cell of these rows narrows 'for every input' (looked for: loops, veiled, ifaces, maps, wideKeys, modest, calm, conditions, laid).
  DERIVED. THE GIVEN ROWS OF THIS SEAT. 8 by the template 'for every input the law returns true; each argument reads behind the call as it read before'; 0 by the template 'total and deterministic' (their statements: YtfpcnagimjmkpaaTotals.lean).
  GIVEN WITH THE SEED: the statements are not yours to turn. If you find one false, say at which input.
  Laid BY PROGRAM, IN A SANDBOX (cutbox-rows.mjs): the forced cells as the released guide's own fill.sh prints them over the translation 8a95f4b4a2807080… (all of the seat's roots in one cut). By AI agents, Wed Nov 11 2026. No macro, syntax, notation, axiom, sorry.
-/
import Derived.Test.YtfpcnagimjmkpaaChecked
import GoSem.Claim
import GoSem.ClaimJoined
import GoSem.ClaimMapViews
import Derived.JoinedTies
import Derived.KernelRfl
namespace Go.Proofs.Ytfpcnagimjmkpaa
/- THE CELL 'sum', in the pinned program and in every row, IS THE sha256 OF THE DUMP (.gsa) THAT YtfpcnagimjmkpaaProg.lean LOADS. Nothing in Lean hashes anything: it is a label: what it is worth is what the hold of that sum in a sandbox is worth. -/
noncomputable def Try.pinned : Pinned := { name := "ytfpcnagimjmkpaa", sum := "8a95f4b4a2807080bd011b9f7ebb8752cbfe069db170d1d7ea6f06c92470aedf", checked := Try.checked }
namespace Rows
def none {H : Type} : Left H := { results := [], args := [] }

/-- 'tarpaulinlaw9.ChanOrder': WHATEVER THE INPUT: true; the input reads as it did. -/
def chanOrderSpec : ChangeSpec := { name := "chanOrder", fn := fun _ => fun
  | [d1, d2] => { results := [.lit (.bool true)], args := [d1, d2] }
  | _ => none }
def chanOrderRow : OpenClaim := { program := "ytfpcnagimjmkpaa", sum := "8a95f4b4a2807080bd011b9f7ebb8752cbfe069db170d1d7ea6f06c92470aedf", func := "tarpaulin/tarpaulinlaw9.ChanOrder", spec := "chanOrder", unfollowed := true, recurses := true, apart := false }
def ChanOrderSaid : Prop := chanOrderRow.holds Try.pinned (OpenSpec.ofChange chanOrderSpec)

/-- ITS FALSE NEIGHBOUR: 'it returns false'. Refute it at one input. -/
def chanOrderWrong : ChangeSpec := { name := "chanOrder", fn := fun _ => fun
  | [d1, d2] => { results := [.lit (.bool false)], args := [d1, d2] }
  | _ => none }
def ChanOrderWrongFalsely : Prop := chanOrderRow.holds Try.pinned (OpenSpec.ofChange chanOrderWrong)

/-- 'tarpaulinlaw9.ChanCloses': WHATEVER THE INPUT: true; the input reads as it did. -/
def chanClosesSpec : ChangeSpec := { name := "chanCloses", fn := fun _ => fun
  | [d1, d2, d3, d4] => { results := [.lit (.bool true)], args := [d1, d2, d3, d4] }
  | _ => none }
def chanClosesRow : OpenClaim := { program := "ytfpcnagimjmkpaa", sum := "8a95f4b4a2807080bd011b9f7ebb8752cbfe069db170d1d7ea6f06c92470aedf", func := "tarpaulin/tarpaulinlaw9.ChanCloses", spec := "chanCloses", unfollowed := true, recurses := true, apart := false }
def ChanClosesSaid : Prop := chanClosesRow.holds Try.pinned (OpenSpec.ofChange chanClosesSpec)

/-- ITS FALSE NEIGHBOUR: 'it returns false'. Refute it at one input. -/
def chanClosesWrong : ChangeSpec := { name := "chanCloses", fn := fun _ => fun
  | [d1, d2, d3, d4] => { results := [.lit (.bool false)], args := [d1, d2, d3, d4] }
  | _ => none }
def ChanClosesWrongFalsely : Prop := chanClosesRow.holds Try.pinned (OpenSpec.ofChange chanClosesWrong)

/-- 'tarpaulinlaw9.ChanHands': WHATEVER THE INPUT: true; the input reads as it did. -/
def chanHandsSpec : ChangeSpec := { name := "chanHands", fn := fun _ => fun
  | [d1, d2, d3] => { results := [.lit (.bool true)], args := [d1, d2, d3] }
  | _ => none }
def chanHandsRow : OpenClaim := { program := "ytfpcnagimjmkpaa", sum := "8a95f4b4a2807080bd011b9f7ebb8752cbfe069db170d1d7ea6f06c92470aedf", func := "tarpaulin/tarpaulinlaw9.ChanHands", spec := "chanHands", unfollowed := true, recurses := true, apart := false }
def ChanHandsSaid : Prop := chanHandsRow.holds Try.pinned (OpenSpec.ofChange chanHandsSpec)

/-- ITS FALSE NEIGHBOUR: 'it returns false'. Refute it at one input. -/
def chanHandsWrong : ChangeSpec := { name := "chanHands", fn := fun _ => fun
  | [d1, d2, d3] => { results := [.lit (.bool false)], args := [d1, d2, d3] }
  | _ => none }
def ChanHandsWrongFalsely : Prop := chanHandsRow.holds Try.pinned (OpenSpec.ofChange chanHandsWrong)

/-- 'tarpaulinlaw9.ChanTwice': WHATEVER THE INPUT: true; the input reads as it did. -/
def chanTwiceSpec : ChangeSpec := { name := "chanTwice", fn := fun _ => fun
  | [d1, d2, d3] => { results := [.lit (.bool true)], args := [d1, d2, d3] }
  | _ => none }
def chanTwiceRow : OpenClaim := { program := "ytfpcnagimjmkpaa", sum := "8a95f4b4a2807080bd011b9f7ebb8752cbfe069db170d1d7ea6f06c92470aedf", func := "tarpaulin/tarpaulinlaw9.ChanTwice", spec := "chanTwice", unfollowed := true, recurses := true, apart := false }
def ChanTwiceSaid : Prop := chanTwiceRow.holds Try.pinned (OpenSpec.ofChange chanTwiceSpec)

/-- ITS FALSE NEIGHBOUR: 'it returns false'. Refute it at one input. -/
def chanTwiceWrong : ChangeSpec := { name := "chanTwice", fn := fun _ => fun
  | [d1, d2, d3] => { results := [.lit (.bool false)], args := [d1, d2, d3] }
  | _ => none }
def ChanTwiceWrongFalsely : Prop := chanTwiceRow.holds Try.pinned (OpenSpec.ofChange chanTwiceWrong)

/-- 'tarpaulinlaw9.ChanTimed': WHATEVER THE INPUT: true; the input reads as it did. -/
def chanTimedSpec : ChangeSpec := { name := "chanTimed", fn := fun _ => fun
  | [d] => { results := [.lit (.bool true)], args := [d] }
  | _ => none }
def chanTimedRow : OpenClaim := { program := "ytfpcnagimjmkpaa", sum := "8a95f4b4a2807080bd011b9f7ebb8752cbfe069db170d1d7ea6f06c92470aedf", func := "tarpaulin/tarpaulinlaw9.ChanTimed", spec := "chanTimed", unfollowed := true, recurses := true, apart := false }
def ChanTimedSaid : Prop := chanTimedRow.holds Try.pinned (OpenSpec.ofChange chanTimedSpec)

/-- ITS FALSE NEIGHBOUR: 'it returns false'. Refute it at one input. -/
def chanTimedWrong : ChangeSpec := { name := "chanTimed", fn := fun _ => fun
  | [d] => { results := [.lit (.bool false)], args := [d] }
  | _ => none }
def ChanTimedWrongFalsely : Prop := chanTimedRow.holds Try.pinned (OpenSpec.ofChange chanTimedWrong)

/-- 'tarpaulinlaw9.ChanSignal': WHATEVER THE INPUT: true; the input reads as it did. -/
def chanSignalSpec : ChangeSpec := { name := "chanSignal", fn := fun _ => fun
  | [d1, d2] => { results := [.lit (.bool true)], args := [d1, d2] }
  | _ => none }
def chanSignalRow : OpenClaim := { program := "ytfpcnagimjmkpaa", sum := "8a95f4b4a2807080bd011b9f7ebb8752cbfe069db170d1d7ea6f06c92470aedf", func := "tarpaulin/tarpaulinlaw9.ChanSignal", spec := "chanSignal", unfollowed := true, recurses := true, apart := false }
def ChanSignalSaid : Prop := chanSignalRow.holds Try.pinned (OpenSpec.ofChange chanSignalSpec)

/-- ITS FALSE NEIGHBOUR: 'it returns false'. Refute it at one input. -/
def chanSignalWrong : ChangeSpec := { name := "chanSignal", fn := fun _ => fun
  | [d1, d2] => { results := [.lit (.bool false)], args := [d1, d2] }
  | _ => none }
def ChanSignalWrongFalsely : Prop := chanSignalRow.holds Try.pinned (OpenSpec.ofChange chanSignalWrong)

/-- 'tarpaulinlaw9.ChanLeaves': WHATEVER THE INPUT: true; the input reads as it did. -/
def chanLeavesSpec : ChangeSpec := { name := "chanLeaves", fn := fun _ => fun
  | [d1, d2, d3] => { results := [.lit (.bool true)], args := [d1, d2, d3] }
  | _ => none }
def chanLeavesRow : OpenClaim := { program := "ytfpcnagimjmkpaa", sum := "8a95f4b4a2807080bd011b9f7ebb8752cbfe069db170d1d7ea6f06c92470aedf", func := "tarpaulin/tarpaulinlaw9.ChanLeaves", spec := "chanLeaves", unfollowed := true, recurses := true, apart := false }
def ChanLeavesSaid : Prop := chanLeavesRow.holds Try.pinned (OpenSpec.ofChange chanLeavesSpec)

/-- ITS FALSE NEIGHBOUR: 'it returns false'. Refute it at one input. -/
def chanLeavesWrong : ChangeSpec := { name := "chanLeaves", fn := fun _ => fun
  | [d1, d2, d3] => { results := [.lit (.bool false)], args := [d1, d2, d3] }
  | _ => none }
def ChanLeavesWrongFalsely : Prop := chanLeavesRow.holds Try.pinned (OpenSpec.ofChange chanLeavesWrong)

/-- 'tarpaulinlaw9.ChanActs': WHATEVER THE INPUT: true; the input reads as it did. -/
def chanActsSpec : ChangeSpec := { name := "chanActs", fn := fun _ => fun
  | [d1, d2, d3] => { results := [.lit (.bool true)], args := [d1, d2, d3] }
  | _ => none }
def chanActsRow : OpenClaim := { program := "ytfpcnagimjmkpaa", sum := "8a95f4b4a2807080bd011b9f7ebb8752cbfe069db170d1d7ea6f06c92470aedf", func := "tarpaulin/tarpaulinlaw9.ChanActs", spec := "chanActs", unfollowed := true, recurses := true, apart := false }
def ChanActsSaid : Prop := chanActsRow.holds Try.pinned (OpenSpec.ofChange chanActsSpec)

/-- ITS FALSE NEIGHBOUR: 'it returns false'. Refute it at one input. -/
def chanActsWrong : ChangeSpec := { name := "chanActs", fn := fun _ => fun
  | [d1, d2, d3] => { results := [.lit (.bool false)], args := [d1, d2, d3] }
  | _ => none }
def ChanActsWrongFalsely : Prop := chanActsRow.holds Try.pinned (OpenSpec.ofChange chanActsWrong)

/- THE SECOND FORM. 'bulk': how many values and letters a reading holds, each counted each time it is reached (what is shared counts as often as it is met; a slice's spare places count too). A statement '..UptoSaid' is the law's where the arguments, and the package variables that the reading takes, are together of bulk at most 1048576: NARROWER than '..Said'. Prove '..Said' where nothing that the law and all that it calls make is longer than what came in: it says more and counts as full. Else prove '..UptoSaid'. A law counts once. -/
mutual
def uptoBulk {H : Type} : DataW H → Nat
  | .lit (.string bytes) => bytes.length + 1
  | .lit _ => 1
  | .nil => 1
  | .ptr d => uptoBulk d + 1
  | .slice elems spare => uptoBulkAll elems + uptoBulkAll spare + 1
  | .agg parts => uptoBulkAll parts + 1
  | .iface _ d => uptoBulk d + 1
  | .map entries => uptoBulkEntries entries + 1
  | .held _ => 1
def uptoBulkAll {H : Type} : List (DataW H) → Nat
  | [] => 0
  | d :: r => uptoBulk d + uptoBulkAll r
def uptoBulkEntries {H : Type} : List (Lit × DataW H) → Nat
  | [] => 0
  | x :: r => uptoBulkEntry x + uptoBulkEntries r
def uptoBulkEntry {H : Type} : Lit × DataW H → Nat
  | (.string bytes, d) => bytes.length + uptoBulk d + 1
  | (_, d) => uptoBulk d + 1
 end
def uptoSmall : (H : Type) → List (DataW H) → Bool := fun _ ds => decide (uptoBulkAll ds ≤ 1048576)
def OpenSpec.upto (s : _root_.Go.ChangeSpec) : _root_.Go.OpenSpec := { _root_.Go.OpenSpec.ofChange s with cond := some uptoSmall }

/-- 'tarpaulinlaw9.ChanOrder', WHERE WHAT IT READS IS OF BULK AT MOST 1048576: true; the input reads as it did. -/
def chanOrderUptoRow : OpenClaim := { program := "ytfpcnagimjmkpaa", sum := "8a95f4b4a2807080bd011b9f7ebb8752cbfe069db170d1d7ea6f06c92470aedf", func := "tarpaulin/tarpaulinlaw9.ChanOrder", spec := "chanOrder", unfollowed := true, recurses := true, apart := false, narrowed := true }
def ChanOrderUptoSaid : Prop := chanOrderUptoRow.holds Try.pinned (OpenSpec.upto chanOrderSpec)

/-- 'tarpaulinlaw9.ChanCloses', WHERE WHAT IT READS IS OF BULK AT MOST 1048576: true; the input reads as it did. -/
def chanClosesUptoRow : OpenClaim := { program := "ytfpcnagimjmkpaa", sum := "8a95f4b4a2807080bd011b9f7ebb8752cbfe069db170d1d7ea6f06c92470aedf", func := "tarpaulin/tarpaulinlaw9.ChanCloses", spec := "chanCloses", unfollowed := true, recurses := true, apart := false, narrowed := true }
def ChanClosesUptoSaid : Prop := chanClosesUptoRow.holds Try.pinned (OpenSpec.upto chanClosesSpec)

/-- 'tarpaulinlaw9.ChanHands', WHERE WHAT IT READS IS OF BULK AT MOST 1048576: true; the input reads as it did. -/
def chanHandsUptoRow : OpenClaim := { program := "ytfpcnagimjmkpaa", sum := "8a95f4b4a2807080bd011b9f7ebb8752cbfe069db170d1d7ea6f06c92470aedf", func := "tarpaulin/tarpaulinlaw9.ChanHands", spec := "chanHands", unfollowed := true, recurses := true, apart := false, narrowed := true }
def ChanHandsUptoSaid : Prop := chanHandsUptoRow.holds Try.pinned (OpenSpec.upto chanHandsSpec)

/-- 'tarpaulinlaw9.ChanTwice', WHERE WHAT IT READS IS OF BULK AT MOST 1048576: true; the input reads as it did. -/
def chanTwiceUptoRow : OpenClaim := { program := "ytfpcnagimjmkpaa", sum := "8a95f4b4a2807080bd011b9f7ebb8752cbfe069db170d1d7ea6f06c92470aedf", func := "tarpaulin/tarpaulinlaw9.ChanTwice", spec := "chanTwice", unfollowed := true, recurses := true, apart := false, narrowed := true }
def ChanTwiceUptoSaid : Prop := chanTwiceUptoRow.holds Try.pinned (OpenSpec.upto chanTwiceSpec)

/-- 'tarpaulinlaw9.ChanTimed', WHERE WHAT IT READS IS OF BULK AT MOST 1048576: true; the input reads as it did. -/
def chanTimedUptoRow : OpenClaim := { program := "ytfpcnagimjmkpaa", sum := "8a95f4b4a2807080bd011b9f7ebb8752cbfe069db170d1d7ea6f06c92470aedf", func := "tarpaulin/tarpaulinlaw9.ChanTimed", spec := "chanTimed", unfollowed := true, recurses := true, apart := false, narrowed := true }
def ChanTimedUptoSaid : Prop := chanTimedUptoRow.holds Try.pinned (OpenSpec.upto chanTimedSpec)

/-- 'tarpaulinlaw9.ChanSignal', WHERE WHAT IT READS IS OF BULK AT MOST 1048576: true; the input reads as it did. -/
def chanSignalUptoRow : OpenClaim := { program := "ytfpcnagimjmkpaa", sum := "8a95f4b4a2807080bd011b9f7ebb8752cbfe069db170d1d7ea6f06c92470aedf", func := "tarpaulin/tarpaulinlaw9.ChanSignal", spec := "chanSignal", unfollowed := true, recurses := true, apart := false, narrowed := true }
def ChanSignalUptoSaid : Prop := chanSignalUptoRow.holds Try.pinned (OpenSpec.upto chanSignalSpec)

/-- 'tarpaulinlaw9.ChanLeaves', WHERE WHAT IT READS IS OF BULK AT MOST 1048576: true; the input reads as it did. -/
def chanLeavesUptoRow : OpenClaim := { program := "ytfpcnagimjmkpaa", sum := "8a95f4b4a2807080bd011b9f7ebb8752cbfe069db170d1d7ea6f06c92470aedf", func := "tarpaulin/tarpaulinlaw9.ChanLeaves", spec := "chanLeaves", unfollowed := true, recurses := true, apart := false, narrowed := true }
def ChanLeavesUptoSaid : Prop := chanLeavesUptoRow.holds Try.pinned (OpenSpec.upto chanLeavesSpec)

/-- 'tarpaulinlaw9.ChanActs', WHERE WHAT IT READS IS OF BULK AT MOST 1048576: true; the input reads as it did. -/
def chanActsUptoRow : OpenClaim := { program := "ytfpcnagimjmkpaa", sum := "8a95f4b4a2807080bd011b9f7ebb8752cbfe069db170d1d7ea6f06c92470aedf", func := "tarpaulin/tarpaulinlaw9.ChanActs", spec := "chanActs", unfollowed := true, recurses := true, apart := false, narrowed := true }
def ChanActsUptoSaid : Prop := chanActsUptoRow.holds Try.pinned (OpenSpec.upto chanActsSpec)

end Rows
end Go.Proofs.Ytfpcnagimjmkpaa
