/-
  No cell of these rows narrows 'for every input' (looked for: loops, veiled, ifaces, maps, wideKeys, modest, calm, conditions, laid).
  DERIVED. THE GIVEN ROWS OF THIS SEAT. 6 by the template 'for every input the law returns true; each argument reads behind the call as it read before'; 0 by the template 'total and deterministic' (their statements: YtcffplgimbbflaaGreatTotals.lean).
  GIVEN WITH THE SEED: the statements are not yours to turn. If you find one false, say at which input.
  Laid BY PROGRAM, IN A SANDBOX (cutbox-rows.mjs): the forced cells as the released guide's own fill.sh prints them over the translation 4c86cae6320538db… (all of the seat's roots in one cut). By AI agents, Wed Nov 11 2026. No macro, syntax, notation, axiom, sorry.
-/
import Derived.Test.YtcffplgimbbflaaGreatChecked
import GoSem.Claim
import GoSem.ClaimJoined
import GoSem.ClaimMapViews
import Derived.JoinedTies
import Derived.KernelRfl
namespace Go.Proofs.YtcffplgimbbflaaGreat
/- THE CELL 'sum', in the pinned program and in every row, IS THE sha256 OF THE DUMP (.gsa) THAT YtcffplgimbbflaaGreatProg.lean LOADS. Nothing in Lean hashes anything: it is a label: what it is worth is what the hold of that sum in a sandbox is worth. -/
noncomputable def Tryz.pinned : Pinned := { name := "ytcffplgimbbflaagreat", sum := "4c86cae6320538dbd021dfc799ca206d33cf62bdc439afb34ea4d6aa12e4053b", checked := Tryz.checked }
namespace Rows
def none {H : Type} : Left H := { results := [], args := [] }

/-- 'tarpaulintop.TopTickers': WHATEVER THE INPUT: true; the input reads as it did. -/
def topTickersSpec : ChangeSpec := { name := "topTickers", fn := fun _ => fun
  | [d1, d2, d3] => { results := [.lit (.bool true)], args := [d1, d2, d3] }
  | _ => none }
def topTickersRow : OpenClaim := { program := "ytcffplgimbbflaagreat", sum := "4c86cae6320538dbd021dfc799ca206d33cf62bdc439afb34ea4d6aa12e4053b", func := "tarpaulin/tarpaulintop.TopTickers", spec := "topTickers", unfollowed := true, recurses := true, apart := false }
def TopTickersSaid : Prop := topTickersRow.holds Tryz.pinned (OpenSpec.ofChange topTickersSpec)

/-- ITS FALSE NEIGHBOUR: 'it returns false'. Refute it at one input. -/
def topTickersWrong : ChangeSpec := { name := "topTickers", fn := fun _ => fun
  | [d1, d2, d3] => { results := [.lit (.bool false)], args := [d1, d2, d3] }
  | _ => none }
def TopTickersWrongFalsely : Prop := topTickersRow.holds Tryz.pinned (OpenSpec.ofChange topTickersWrong)

/-- 'tarpaulintop.TopBehind': WHATEVER THE INPUT: true; the input reads as it did. -/
def topBehindSpec : ChangeSpec := { name := "topBehind", fn := fun _ => fun
  | [d1, d2] => { results := [.lit (.bool true)], args := [d1, d2] }
  | _ => none }
def topBehindRow : OpenClaim := { program := "ytcffplgimbbflaagreat", sum := "4c86cae6320538dbd021dfc799ca206d33cf62bdc439afb34ea4d6aa12e4053b", func := "tarpaulin/tarpaulintop.TopBehind", spec := "topBehind", unfollowed := true, recurses := true, apart := false }
def TopBehindSaid : Prop := topBehindRow.holds Tryz.pinned (OpenSpec.ofChange topBehindSpec)

/-- ITS FALSE NEIGHBOUR: 'it returns false'. Refute it at one input. -/
def topBehindWrong : ChangeSpec := { name := "topBehind", fn := fun _ => fun
  | [d1, d2] => { results := [.lit (.bool false)], args := [d1, d2] }
  | _ => none }
def TopBehindWrongFalsely : Prop := topBehindRow.holds Tryz.pinned (OpenSpec.ofChange topBehindWrong)

/-- 'tarpaulintop.TopMutex': WHATEVER THE INPUT: true; the input reads as it did. -/
def topMutexSpec : ChangeSpec := { name := "topMutex", fn := fun _ => fun
  | [d1, d2, d3] => { results := [.lit (.bool true)], args := [d1, d2, d3] }
  | _ => none }
def topMutexRow : OpenClaim := { program := "ytcffplgimbbflaagreat", sum := "4c86cae6320538dbd021dfc799ca206d33cf62bdc439afb34ea4d6aa12e4053b", func := "tarpaulin/tarpaulintop.TopMutex", spec := "topMutex", unfollowed := true, recurses := true, apart := false }
def TopMutexSaid : Prop := topMutexRow.holds Tryz.pinned (OpenSpec.ofChange topMutexSpec)

/-- ITS FALSE NEIGHBOUR: 'it returns false'. Refute it at one input. -/
def topMutexWrong : ChangeSpec := { name := "topMutex", fn := fun _ => fun
  | [d1, d2, d3] => { results := [.lit (.bool false)], args := [d1, d2, d3] }
  | _ => none }
def TopMutexWrongFalsely : Prop := topMutexRow.holds Tryz.pinned (OpenSpec.ofChange topMutexWrong)

/-- 'tarpaulintop.TopTimes': WHATEVER THE INPUT: true; the input reads as it did. -/
def topTimesSpec : ChangeSpec := { name := "topTimes", fn := fun _ => fun
  | [d1, d2, d3] => { results := [.lit (.bool true)], args := [d1, d2, d3] }
  | _ => none }
def topTimesRow : OpenClaim := { program := "ytcffplgimbbflaagreat", sum := "4c86cae6320538dbd021dfc799ca206d33cf62bdc439afb34ea4d6aa12e4053b", func := "tarpaulin/tarpaulintop.TopTimes", spec := "topTimes", unfollowed := true, recurses := true, apart := false }
def TopTimesSaid : Prop := topTimesRow.holds Tryz.pinned (OpenSpec.ofChange topTimesSpec)

/-- ITS FALSE NEIGHBOUR: 'it returns false'. Refute it at one input. -/
def topTimesWrong : ChangeSpec := { name := "topTimes", fn := fun _ => fun
  | [d1, d2, d3] => { results := [.lit (.bool false)], args := [d1, d2, d3] }
  | _ => none }
def TopTimesWrongFalsely : Prop := topTimesRow.holds Tryz.pinned (OpenSpec.ofChange topTimesWrong)

/-- 'tarpaulintop.TopSelects': WHATEVER THE INPUT: true; the input reads as it did. -/
def topSelectsSpec : ChangeSpec := { name := "topSelects", fn := fun _ => fun
  | [d1, d2, d3] => { results := [.lit (.bool true)], args := [d1, d2, d3] }
  | _ => none }
def topSelectsRow : OpenClaim := { program := "ytcffplgimbbflaagreat", sum := "4c86cae6320538dbd021dfc799ca206d33cf62bdc439afb34ea4d6aa12e4053b", func := "tarpaulin/tarpaulintop.TopSelects", spec := "topSelects", unfollowed := true, recurses := true, apart := false }
def TopSelectsSaid : Prop := topSelectsRow.holds Tryz.pinned (OpenSpec.ofChange topSelectsSpec)

/-- ITS FALSE NEIGHBOUR: 'it returns false'. Refute it at one input. -/
def topSelectsWrong : ChangeSpec := { name := "topSelects", fn := fun _ => fun
  | [d1, d2, d3] => { results := [.lit (.bool false)], args := [d1, d2, d3] }
  | _ => none }
def TopSelectsWrongFalsely : Prop := topSelectsRow.holds Tryz.pinned (OpenSpec.ofChange topSelectsWrong)

/-- 'tarpaulintop.TopTimeout': WHATEVER THE INPUT: true; the input reads as it did. -/
def topTimeoutSpec : ChangeSpec := { name := "topTimeout", fn := fun _ => fun
  | [d1, d2, d3] => { results := [.lit (.bool true)], args := [d1, d2, d3] }
  | _ => none }
def topTimeoutRow : OpenClaim := { program := "ytcffplgimbbflaagreat", sum := "4c86cae6320538dbd021dfc799ca206d33cf62bdc439afb34ea4d6aa12e4053b", func := "tarpaulin/tarpaulintop.TopTimeout", spec := "topTimeout", unfollowed := true, recurses := true, apart := false }
def TopTimeoutSaid : Prop := topTimeoutRow.holds Tryz.pinned (OpenSpec.ofChange topTimeoutSpec)

/-- ITS FALSE NEIGHBOUR: 'it returns false'. Refute it at one input. -/
def topTimeoutWrong : ChangeSpec := { name := "topTimeout", fn := fun _ => fun
  | [d1, d2, d3] => { results := [.lit (.bool false)], args := [d1, d2, d3] }
  | _ => none }
def TopTimeoutWrongFalsely : Prop := topTimeoutRow.holds Tryz.pinned (OpenSpec.ofChange topTimeoutWrong)

/- THE SECOND FORM. 'bulk': how many values and letters a reading holds, each counted each time it is reached (what is shared counts as often as it is met; a slice's spare places count too). A statement '..UptoSaid' is the law's where the arguments, and the package variables that the reading takes, are together of bulk at most 1048576: NARROWER than '..Said'. Prove '..Said' where nothing that the law and all that it calls make is longer than what came in: it says more and counts as full. Else prove '..UptoSaid'. A law counts once. -/
mutual
def uptoBulk {H : Type} : DataW H → Nat
  | .lit (.string bytes) => bytes.length + 1
  | .lit _ => 1
  | .nil => 1
  | .ptr d => uptoBulk d + 1
  | .slice elems spare => uptoBulkAll elems + uptoBulkAll spare + 1
  | .agg parts => uptoBulkAll parts + 1
  | .iface _ d => uptoBulk d + 1
  | .map entries => uptoBulkEntries entries + 1
  | .held _ => 1
def uptoBulkAll {H : Type} : List (DataW H) → Nat
  | [] => 0
  | d :: r => uptoBulk d + uptoBulkAll r
def uptoBulkEntries {H : Type} : List (Lit × DataW H) → Nat
  | [] => 0
  | x :: r => uptoBulkEntry x + uptoBulkEntries r
def uptoBulkEntry {H : Type} : Lit × DataW H → Nat
  | (.string bytes, d) => bytes.length + uptoBulk d + 1
  | (_, d) => uptoBulk d + 1
 end
def uptoSmall : (H : Type) → List (DataW H) → Bool := fun _ ds => decide (uptoBulkAll ds ≤ 1048576)
def OpenSpec.upto (s : _root_.Go.ChangeSpec) : _root_.Go.OpenSpec := { _root_.Go.OpenSpec.ofChange s with cond := some uptoSmall }

/-- 'tarpaulintop.TopTickers', WHERE WHAT IT READS IS OF BULK AT MOST 1048576: true; the input reads as it did. -/
def topTickersUptoRow : OpenClaim := { program := "ytcffplgimbbflaagreat", sum := "4c86cae6320538dbd021dfc799ca206d33cf62bdc439afb34ea4d6aa12e4053b", func := "tarpaulin/tarpaulintop.TopTickers", spec := "topTickers", unfollowed := true, recurses := true, apart := false, narrowed := true }
def TopTickersUptoSaid : Prop := topTickersUptoRow.holds Tryz.pinned (OpenSpec.upto topTickersSpec)

/-- 'tarpaulintop.TopBehind', WHERE WHAT IT READS IS OF BULK AT MOST 1048576: true; the input reads as it did. -/
def topBehindUptoRow : OpenClaim := { program := "ytcffplgimbbflaagreat", sum := "4c86cae6320538dbd021dfc799ca206d33cf62bdc439afb34ea4d6aa12e4053b", func := "tarpaulin/tarpaulintop.TopBehind", spec := "topBehind", unfollowed := true, recurses := true, apart := false, narrowed := true }
def TopBehindUptoSaid : Prop := topBehindUptoRow.holds Tryz.pinned (OpenSpec.upto topBehindSpec)

/-- 'tarpaulintop.TopMutex', WHERE WHAT IT READS IS OF BULK AT MOST 1048576: true; the input reads as it did. -/
def topMutexUptoRow : OpenClaim := { program := "ytcffplgimbbflaagreat", sum := "4c86cae6320538dbd021dfc799ca206d33cf62bdc439afb34ea4d6aa12e4053b", func := "tarpaulin/tarpaulintop.TopMutex", spec := "topMutex", unfollowed := true, recurses := true, apart := false, narrowed := true }
def TopMutexUptoSaid : Prop := topMutexUptoRow.holds Tryz.pinned (OpenSpec.upto topMutexSpec)

/-- 'tarpaulintop.TopTimes', WHERE WHAT IT READS IS OF BULK AT MOST 1048576: true; the input reads as it did. -/
def topTimesUptoRow : OpenClaim := { program := "ytcffplgimbbflaagreat", sum := "4c86cae6320538dbd021dfc799ca206d33cf62bdc439afb34ea4d6aa12e4053b", func := "tarpaulin/tarpaulintop.TopTimes", spec := "topTimes", unfollowed := true, recurses := true, apart := false, narrowed := true }
def TopTimesUptoSaid : Prop := topTimesUptoRow.holds Tryz.pinned (OpenSpec.upto topTimesSpec)

/-- 'tarpaulintop.TopSelects', WHERE WHAT IT READS IS OF BULK AT MOST 1048576: true; the input reads as it did. -/
def topSelectsUptoRow : OpenClaim := { program := "ytcffplgimbbflaagreat", sum := "4c86cae6320538dbd021dfc799ca206d33cf62bdc439afb34ea4d6aa12e4053b", func := "tarpaulin/tarpaulintop.TopSelects", spec := "topSelects", unfollowed := true, recurses := true, apart := false, narrowed := true }
def TopSelectsUptoSaid : Prop := topSelectsUptoRow.holds Tryz.pinned (OpenSpec.upto topSelectsSpec)

/-- 'tarpaulintop.TopTimeout', WHERE WHAT IT READS IS OF BULK AT MOST 1048576: true; the input reads as it did. -/
def topTimeoutUptoRow : OpenClaim := { program := "ytcffplgimbbflaagreat", sum := "4c86cae6320538dbd021dfc799ca206d33cf62bdc439afb34ea4d6aa12e4053b", func := "tarpaulin/tarpaulintop.TopTimeout", spec := "topTimeout", unfollowed := true, recurses := true, apart := false, narrowed := true }
def TopTimeoutUptoSaid : Prop := topTimeoutUptoRow.holds Tryz.pinned (OpenSpec.upto topTimeoutSpec)

end Rows
end Go.Proofs.YtcffplgimbbflaaGreat
