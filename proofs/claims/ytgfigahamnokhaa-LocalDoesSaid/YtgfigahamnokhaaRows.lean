/-
  No cell of these rows narrows 'for every input' (looked for: loops, veiled, ifaces, maps, wideKeys, modest, calm, conditions, laid).
  DERIVED. THE GIVEN ROWS OF THIS SEAT. 4 by the template 'for every input the law returns true; each argument reads behind the call as it read before'; 0 by the template 'total and deterministic' (their statements: YtgfigahamnokhaaTotals.lean).
  GIVEN WITH THE SEED: the statements are not yours to turn. If you find one false, say at which input.
  Laid BY PROGRAM, IN A SANDBOX (cutbox-rows.mjs): the forced cells as the released guide's own fill.sh prints them over the translation 755d65ef8a77ca3d… (all of the seat's roots in one cut). By AI agents, Wed Nov 11 2026. No macro, syntax, notation, axiom, sorry.
-/
import Derived.Test.YtgfigahamnokhaaChecked
import GoSem.Claim
import GoSem.ClaimJoined
import GoSem.ClaimMapViews
import Derived.JoinedTies
import Derived.KernelRfl
namespace Go.Proofs.Ytgfigahamnokhaa
/- THE CELL 'sum', in the pinned program and in every row, IS THE sha256 OF THE DUMP (.gsa) THAT YtgfigahamnokhaaProg.lean LOADS. Nothing in Lean hashes anything: it is a label: what it is worth is what the hold of that sum in a sandbox is worth. -/
noncomputable def Try.pinned : Pinned := { name := "ytgfigahamnokhaa", sum := "755d65ef8a77ca3d5305aab2f41ef9091afbb67582ce99111dd100406a52ae0e", checked := Try.checked }
namespace Rows
def none {H : Type} : Left H := { results := [], args := [] }

/-- 'tarpaulinlaw18.LocalDoes': WHATEVER THE INPUT: true; the input reads as it did. -/
def localDoesSpec : ChangeSpec := { name := "localDoes", fn := fun _ => fun
  | [d1, d2, d3, d4, d5] => { results := [.lit (.bool true)], args := [d1, d2, d3, d4, d5] }
  | _ => none }
def localDoesRow : OpenClaim := { program := "ytgfigahamnokhaa", sum := "755d65ef8a77ca3d5305aab2f41ef9091afbb67582ce99111dd100406a52ae0e", func := "tarpaulin/tarpaulinlaw18.LocalDoes", spec := "localDoes", unfollowed := true, recurses := true, apart := false }
def LocalDoesSaid : Prop := localDoesRow.holds Try.pinned (OpenSpec.ofChange localDoesSpec)

/-- ITS FALSE NEIGHBOUR: 'it returns false'. Refute it at one input. -/
def localDoesWrong : ChangeSpec := { name := "localDoes", fn := fun _ => fun
  | [d1, d2, d3, d4, d5] => { results := [.lit (.bool false)], args := [d1, d2, d3, d4, d5] }
  | _ => none }
def LocalDoesWrongFalsely : Prop := localDoesRow.holds Try.pinned (OpenSpec.ofChange localDoesWrong)

/-- 'tarpaulinlaw18.LocalLoops': WHATEVER THE INPUT: true; the input reads as it did. -/
def localLoopsSpec : ChangeSpec := { name := "localLoops", fn := fun _ => fun
  | [d1, d2] => { results := [.lit (.bool true)], args := [d1, d2] }
  | _ => none }
def localLoopsRow : OpenClaim := { program := "ytgfigahamnokhaa", sum := "755d65ef8a77ca3d5305aab2f41ef9091afbb67582ce99111dd100406a52ae0e", func := "tarpaulin/tarpaulinlaw18.LocalLoops", spec := "localLoops", unfollowed := true, recurses := true, apart := false }
def LocalLoopsSaid : Prop := localLoopsRow.holds Try.pinned (OpenSpec.ofChange localLoopsSpec)

/-- ITS FALSE NEIGHBOUR: 'it returns false'. Refute it at one input. -/
def localLoopsWrong : ChangeSpec := { name := "localLoops", fn := fun _ => fun
  | [d1, d2] => { results := [.lit (.bool false)], args := [d1, d2] }
  | _ => none }
def LocalLoopsWrongFalsely : Prop := localLoopsRow.holds Try.pinned (OpenSpec.ofChange localLoopsWrong)

/-- 'tarpaulinlaw18.LocalSums': WHATEVER THE INPUT: true; the input reads as it did. -/
def localSumsSpec : ChangeSpec := { name := "localSums", fn := fun _ => fun
  | [d1, d2] => { results := [.lit (.bool true)], args := [d1, d2] }
  | _ => none }
def localSumsRow : OpenClaim := { program := "ytgfigahamnokhaa", sum := "755d65ef8a77ca3d5305aab2f41ef9091afbb67582ce99111dd100406a52ae0e", func := "tarpaulin/tarpaulinlaw18.LocalSums", spec := "localSums", unfollowed := true, recurses := true, apart := false }
def LocalSumsSaid : Prop := localSumsRow.holds Try.pinned (OpenSpec.ofChange localSumsSpec)

/-- ITS FALSE NEIGHBOUR: 'it returns false'. Refute it at one input. -/
def localSumsWrong : ChangeSpec := { name := "localSums", fn := fun _ => fun
  | [d1, d2] => { results := [.lit (.bool false)], args := [d1, d2] }
  | _ => none }
def LocalSumsWrongFalsely : Prop := localSumsRow.holds Try.pinned (OpenSpec.ofChange localSumsWrong)

/-- 'tarpaulinlaw18.LocalRefuses': WHATEVER THE INPUT: true; the input reads as it did. -/
def localRefusesSpec : ChangeSpec := { name := "localRefuses", fn := fun _ => fun
  | [d1, d2, d3] => { results := [.lit (.bool true)], args := [d1, d2, d3] }
  | _ => none }
def localRefusesRow : OpenClaim := { program := "ytgfigahamnokhaa", sum := "755d65ef8a77ca3d5305aab2f41ef9091afbb67582ce99111dd100406a52ae0e", func := "tarpaulin/tarpaulinlaw18.LocalRefuses", spec := "localRefuses", unfollowed := true, recurses := true, apart := false }
def LocalRefusesSaid : Prop := localRefusesRow.holds Try.pinned (OpenSpec.ofChange localRefusesSpec)

/-- ITS FALSE NEIGHBOUR: 'it returns false'. Refute it at one input. -/
def localRefusesWrong : ChangeSpec := { name := "localRefuses", fn := fun _ => fun
  | [d1, d2, d3] => { results := [.lit (.bool false)], args := [d1, d2, d3] }
  | _ => none }
def LocalRefusesWrongFalsely : Prop := localRefusesRow.holds Try.pinned (OpenSpec.ofChange localRefusesWrong)

/- THE SECOND FORM. 'bulk': how many values and letters a reading holds, each counted each time it is reached (what is shared counts as often as it is met; a slice's spare places count too). A statement '..UptoSaid' is the law's where the arguments, and the package variables that the reading takes, are together of bulk at most 1048576: NARROWER than '..Said'. Prove '..Said' where nothing that the law and all that it calls make is longer than what came in: it says more and counts as full. Else prove '..UptoSaid'. A law counts once. -/
mutual
def uptoBulk {H : Type} : DataW H → Nat
  | .lit (.string bytes) => bytes.length + 1
  | .lit _ => 1
  | .nil => 1
  | .ptr d => uptoBulk d + 1
  | .slice elems spare => uptoBulkAll elems + uptoBulkAll spare + 1
  | .agg parts => uptoBulkAll parts + 1
  | .iface _ d => uptoBulk d + 1
  | .map entries => uptoBulkEntries entries + 1
  | .held _ => 1
def uptoBulkAll {H : Type} : List (DataW H) → Nat
  | [] => 0
  | d :: r => uptoBulk d + uptoBulkAll r
def uptoBulkEntries {H : Type} : List (Lit × DataW H) → Nat
  | [] => 0
  | x :: r => uptoBulkEntry x + uptoBulkEntries r
def uptoBulkEntry {H : Type} : Lit × DataW H → Nat
  | (.string bytes, d) => bytes.length + uptoBulk d + 1
  | (_, d) => uptoBulk d + 1
 end
def uptoSmall : (H : Type) → List (DataW H) → Bool := fun _ ds => decide (uptoBulkAll ds ≤ 1048576)
def OpenSpec.upto (s : _root_.Go.ChangeSpec) : _root_.Go.OpenSpec := { _root_.Go.OpenSpec.ofChange s with cond := some uptoSmall }

/-- 'tarpaulinlaw18.LocalDoes', WHERE WHAT IT READS IS OF BULK AT MOST 1048576: true; the input reads as it did. -/
def localDoesUptoRow : OpenClaim := { program := "ytgfigahamnokhaa", sum := "755d65ef8a77ca3d5305aab2f41ef9091afbb67582ce99111dd100406a52ae0e", func := "tarpaulin/tarpaulinlaw18.LocalDoes", spec := "localDoes", unfollowed := true, recurses := true, apart := false, narrowed := true }
def LocalDoesUptoSaid : Prop := localDoesUptoRow.holds Try.pinned (OpenSpec.upto localDoesSpec)

/-- 'tarpaulinlaw18.LocalLoops', WHERE WHAT IT READS IS OF BULK AT MOST 1048576: true; the input reads as it did. -/
def localLoopsUptoRow : OpenClaim := { program := "ytgfigahamnokhaa", sum := "755d65ef8a77ca3d5305aab2f41ef9091afbb67582ce99111dd100406a52ae0e", func := "tarpaulin/tarpaulinlaw18.LocalLoops", spec := "localLoops", unfollowed := true, recurses := true, apart := false, narrowed := true }
def LocalLoopsUptoSaid : Prop := localLoopsUptoRow.holds Try.pinned (OpenSpec.upto localLoopsSpec)

/-- 'tarpaulinlaw18.LocalSums', WHERE WHAT IT READS IS OF BULK AT MOST 1048576: true; the input reads as it did. -/
def localSumsUptoRow : OpenClaim := { program := "ytgfigahamnokhaa", sum := "755d65ef8a77ca3d5305aab2f41ef9091afbb67582ce99111dd100406a52ae0e", func := "tarpaulin/tarpaulinlaw18.LocalSums", spec := "localSums", unfollowed := true, recurses := true, apart := false, narrowed := true }
def LocalSumsUptoSaid : Prop := localSumsUptoRow.holds Try.pinned (OpenSpec.upto localSumsSpec)

/-- 'tarpaulinlaw18.LocalRefuses', WHERE WHAT IT READS IS OF BULK AT MOST 1048576: true; the input reads as it did. -/
def localRefusesUptoRow : OpenClaim := { program := "ytgfigahamnokhaa", sum := "755d65ef8a77ca3d5305aab2f41ef9091afbb67582ce99111dd100406a52ae0e", func := "tarpaulin/tarpaulinlaw18.LocalRefuses", spec := "localRefuses", unfollowed := true, recurses := true, apart := false, narrowed := true }
def LocalRefusesUptoSaid : Prop := localRefusesUptoRow.holds Try.pinned (OpenSpec.upto localRefusesSpec)

end Rows
end Go.Proofs.Ytgfigahamnokhaa
