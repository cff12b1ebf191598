/-
  No cell of these rows narrows 'for every input' (looked for: loops, veiled, ifaces, maps, wideKeys, modest, calm, conditions, laid).
  DERIVED. THE GIVEN ROWS OF THIS SEAT. 6 by the template 'for every input the law returns true; each argument reads behind the call as it read before'; 0 by the template 'total and deterministic' (their statements: YtdemeghhjnehbaaTotals.lean).
  GIVEN WITH THE SEED: the statements are not yours to turn. If you find one false, say at which input.
  Laid BY PROGRAM, IN A SANDBOX (cutbox-rows.mjs): the forced cells as the released guide's own fill.sh prints them over the translation d8159ee02b808b9d… (all of the seat's roots in one cut). By AI agents, Wed Nov 11 2026. No macro, syntax, notation, axiom, sorry.
-/
import Derived.Test.YtdemeghhjnehbaaChecked
import GoSem.Claim
import GoSem.ClaimJoined
import GoSem.ClaimMapViews
import Derived.JoinedTies
import Derived.KernelRfl
namespace Go.Proofs.Ytdemeghhjnehbaa
/- THE CELL 'sum', in the pinned program and in every row, IS THE sha256 OF THE DUMP (.gsa) THAT YtdemeghhjnehbaaProg.lean LOADS. Nothing in Lean hashes anything: it is a label: what it is worth is what the hold of that sum in a sandbox is worth. -/
noncomputable def Try.pinned : Pinned := { name := "ytdemeghhjnehbaa", sum := "d8159ee02b808b9d314184fa0652ffe331bb9d57ed84cd33ee04fbc74db4d6e1", checked := Try.checked }
namespace Rows
def none {H : Type} : Left H := { results := [], args := [] }

/-- 'tarpaulinlaw10.ChooseMeets': WHATEVER THE INPUT: true; the input reads as it did. -/
def chooseMeetsSpec : ChangeSpec := { name := "chooseMeets", fn := fun _ => fun
  | [d1, d2, d3] => { results := [.lit (.bool true)], args := [d1, d2, d3] }
  | _ => none }
def chooseMeetsRow : OpenClaim := { program := "ytdemeghhjnehbaa", sum := "d8159ee02b808b9d314184fa0652ffe331bb9d57ed84cd33ee04fbc74db4d6e1", func := "tarpaulin/tarpaulinlaw10.ChooseMeets", spec := "chooseMeets", unfollowed := true, recurses := true, apart := false }
def ChooseMeetsSaid : Prop := chooseMeetsRow.holds Try.pinned (OpenSpec.ofChange chooseMeetsSpec)

/-- ITS FALSE NEIGHBOUR: 'it returns false'. Refute it at one input. -/
def chooseMeetsWrong : ChangeSpec := { name := "chooseMeets", fn := fun _ => fun
  | [d1, d2, d3] => { results := [.lit (.bool false)], args := [d1, d2, d3] }
  | _ => none }
def ChooseMeetsWrongFalsely : Prop := chooseMeetsRow.holds Try.pinned (OpenSpec.ofChange chooseMeetsWrong)

/-- 'tarpaulinlaw10.ChooseNil': WHATEVER THE INPUT: true; the input reads as it did. -/
def chooseNilSpec : ChangeSpec := { name := "chooseNil", fn := fun _ => fun
  | [d1, d2, d3, d4] => { results := [.lit (.bool true)], args := [d1, d2, d3, d4] }
  | _ => none }
def chooseNilRow : OpenClaim := { program := "ytdemeghhjnehbaa", sum := "d8159ee02b808b9d314184fa0652ffe331bb9d57ed84cd33ee04fbc74db4d6e1", func := "tarpaulin/tarpaulinlaw10.ChooseNil", spec := "chooseNil", unfollowed := true, recurses := true, apart := false }
def ChooseNilSaid : Prop := chooseNilRow.holds Try.pinned (OpenSpec.ofChange chooseNilSpec)

/-- ITS FALSE NEIGHBOUR: 'it returns false'. Refute it at one input. -/
def chooseNilWrong : ChangeSpec := { name := "chooseNil", fn := fun _ => fun
  | [d1, d2, d3, d4] => { results := [.lit (.bool false)], args := [d1, d2, d3, d4] }
  | _ => none }
def ChooseNilWrongFalsely : Prop := chooseNilRow.holds Try.pinned (OpenSpec.ofChange chooseNilWrong)

/-- 'tarpaulinlaw10.ChooseDraws': WHATEVER THE INPUT: true; the input reads as it did. -/
def chooseDrawsSpec : ChangeSpec := { name := "chooseDraws", fn := fun _ => fun
  | [d1, d2] => { results := [.lit (.bool true)], args := [d1, d2] }
  | _ => none }
def chooseDrawsRow : OpenClaim := { program := "ytdemeghhjnehbaa", sum := "d8159ee02b808b9d314184fa0652ffe331bb9d57ed84cd33ee04fbc74db4d6e1", func := "tarpaulin/tarpaulinlaw10.ChooseDraws", spec := "chooseDraws", unfollowed := true, recurses := true, apart := false }
def ChooseDrawsSaid : Prop := chooseDrawsRow.holds Try.pinned (OpenSpec.ofChange chooseDrawsSpec)

/-- ITS FALSE NEIGHBOUR: 'it returns false'. Refute it at one input. -/
def chooseDrawsWrong : ChangeSpec := { name := "chooseDraws", fn := fun _ => fun
  | [d1, d2] => { results := [.lit (.bool false)], args := [d1, d2] }
  | _ => none }
def ChooseDrawsWrongFalsely : Prop := chooseDrawsRow.holds Try.pinned (OpenSpec.ofChange chooseDrawsWrong)

/-- 'tarpaulinlaw10.ChooseOne': WHATEVER THE INPUT: true; the input reads as it did. -/
def chooseOneSpec : ChangeSpec := { name := "chooseOne", fn := fun _ => fun
  | [d1, d2, d3] => { results := [.lit (.bool true)], args := [d1, d2, d3] }
  | _ => none }
def chooseOneRow : OpenClaim := { program := "ytdemeghhjnehbaa", sum := "d8159ee02b808b9d314184fa0652ffe331bb9d57ed84cd33ee04fbc74db4d6e1", func := "tarpaulin/tarpaulinlaw10.ChooseOne", spec := "chooseOne", unfollowed := true, recurses := true, apart := false }
def ChooseOneSaid : Prop := chooseOneRow.holds Try.pinned (OpenSpec.ofChange chooseOneSpec)

/-- ITS FALSE NEIGHBOUR: 'it returns false'. Refute it at one input. -/
def chooseOneWrong : ChangeSpec := { name := "chooseOne", fn := fun _ => fun
  | [d1, d2, d3] => { results := [.lit (.bool false)], args := [d1, d2, d3] }
  | _ => none }
def ChooseOneWrongFalsely : Prop := chooseOneRow.holds Try.pinned (OpenSpec.ofChange chooseOneWrong)

/-- 'tarpaulinlaw10.ChooseSends': WHATEVER THE INPUT: true; the input reads as it did. -/
def chooseSendsSpec : ChangeSpec := { name := "chooseSends", fn := fun _ => fun
  | [d1, d2] => { results := [.lit (.bool true)], args := [d1, d2] }
  | _ => none }
def chooseSendsRow : OpenClaim := { program := "ytdemeghhjnehbaa", sum := "d8159ee02b808b9d314184fa0652ffe331bb9d57ed84cd33ee04fbc74db4d6e1", func := "tarpaulin/tarpaulinlaw10.ChooseSends", spec := "chooseSends", unfollowed := true, recurses := true, apart := false }
def ChooseSendsSaid : Prop := chooseSendsRow.holds Try.pinned (OpenSpec.ofChange chooseSendsSpec)

/-- ITS FALSE NEIGHBOUR: 'it returns false'. Refute it at one input. -/
def chooseSendsWrong : ChangeSpec := { name := "chooseSends", fn := fun _ => fun
  | [d1, d2] => { results := [.lit (.bool false)], args := [d1, d2] }
  | _ => none }
def ChooseSendsWrongFalsely : Prop := chooseSendsRow.holds Try.pinned (OpenSpec.ofChange chooseSendsWrong)

/-- 'tarpaulinlaw10.ChooseTells': WHATEVER THE INPUT: true; the input reads as it did. -/
def chooseTellsSpec : ChangeSpec := { name := "chooseTells", fn := fun _ => fun
  | [d1, d2, d3, d4, d5, d6, d7] => { results := [.lit (.bool true)], args := [d1, d2, d3, d4, d5, d6, d7] }
  | _ => none }
def chooseTellsRow : OpenClaim := { program := "ytdemeghhjnehbaa", sum := "d8159ee02b808b9d314184fa0652ffe331bb9d57ed84cd33ee04fbc74db4d6e1", func := "tarpaulin/tarpaulinlaw10.ChooseTells", spec := "chooseTells", unfollowed := true, recurses := true, apart := false }
def ChooseTellsSaid : Prop := chooseTellsRow.holds Try.pinned (OpenSpec.ofChange chooseTellsSpec)

/-- ITS FALSE NEIGHBOUR: 'it returns false'. Refute it at one input. -/
def chooseTellsWrong : ChangeSpec := { name := "chooseTells", fn := fun _ => fun
  | [d1, d2, d3, d4, d5, d6, d7] => { results := [.lit (.bool false)], args := [d1, d2, d3, d4, d5, d6, d7] }
  | _ => none }
def ChooseTellsWrongFalsely : Prop := chooseTellsRow.holds Try.pinned (OpenSpec.ofChange chooseTellsWrong)

/- THE SECOND FORM. 'bulk': how many values and letters a reading holds, each counted each time it is reached (what is shared counts as often as it is met; a slice's spare places count too). A statement '..UptoSaid' is the law's where the arguments, and the package variables that the reading takes, are together of bulk at most 1048576: NARROWER than '..Said'. Prove '..Said' where nothing that the law and all that it calls make is longer than what came in: it says more and counts as full. Else prove '..UptoSaid'. A law counts once. -/
mutual
def uptoBulk {H : Type} : DataW H → Nat
  | .lit (.string bytes) => bytes.length + 1
  | .lit _ => 1
  | .nil => 1
  | .ptr d => uptoBulk d + 1
  | .slice elems spare => uptoBulkAll elems + uptoBulkAll spare + 1
  | .agg parts => uptoBulkAll parts + 1
  | .iface _ d => uptoBulk d + 1
  | .map entries => uptoBulkEntries entries + 1
  | .held _ => 1
def uptoBulkAll {H : Type} : List (DataW H) → Nat
  | [] => 0
  | d :: r => uptoBulk d + uptoBulkAll r
def uptoBulkEntries {H : Type} : List (Lit × DataW H) → Nat
  | [] => 0
  | x :: r => uptoBulkEntry x + uptoBulkEntries r
def uptoBulkEntry {H : Type} : Lit × DataW H → Nat
  | (.string bytes, d) => bytes.length + uptoBulk d + 1
  | (_, d) => uptoBulk d + 1
 end
def uptoSmall : (H : Type) → List (DataW H) → Bool := fun _ ds => decide (uptoBulkAll ds ≤ 1048576)
def OpenSpec.upto (s : _root_.Go.ChangeSpec) : _root_.Go.OpenSpec := { _root_.Go.OpenSpec.ofChange s with cond := some uptoSmall }

/-- 'tarpaulinlaw10.ChooseMeets', WHERE WHAT IT READS IS OF BULK AT MOST 1048576: true; the input reads as it did. -/
def chooseMeetsUptoRow : OpenClaim := { program := "ytdemeghhjnehbaa", sum := "d8159ee02b808b9d314184fa0652ffe331bb9d57ed84cd33ee04fbc74db4d6e1", func := "tarpaulin/tarpaulinlaw10.ChooseMeets", spec := "chooseMeets", unfollowed := true, recurses := true, apart := false, narrowed := true }
def ChooseMeetsUptoSaid : Prop := chooseMeetsUptoRow.holds Try.pinned (OpenSpec.upto chooseMeetsSpec)

/-- 'tarpaulinlaw10.ChooseNil', WHERE WHAT IT READS IS OF BULK AT MOST 1048576: true; the input reads as it did. -/
def chooseNilUptoRow : OpenClaim := { program := "ytdemeghhjnehbaa", sum := "d8159ee02b808b9d314184fa0652ffe331bb9d57ed84cd33ee04fbc74db4d6e1", func := "tarpaulin/tarpaulinlaw10.ChooseNil", spec := "chooseNil", unfollowed := true, recurses := true, apart := false, narrowed := true }
def ChooseNilUptoSaid : Prop := chooseNilUptoRow.holds Try.pinned (OpenSpec.upto chooseNilSpec)

/-- 'tarpaulinlaw10.ChooseDraws', WHERE WHAT IT READS IS OF BULK AT MOST 1048576: true; the input reads as it did. -/
def chooseDrawsUptoRow : OpenClaim := { program := "ytdemeghhjnehbaa", sum := "d8159ee02b808b9d314184fa0652ffe331bb9d57ed84cd33ee04fbc74db4d6e1", func := "tarpaulin/tarpaulinlaw10.ChooseDraws", spec := "chooseDraws", unfollowed := true, recurses := true, apart := false, narrowed := true }
def ChooseDrawsUptoSaid : Prop := chooseDrawsUptoRow.holds Try.pinned (OpenSpec.upto chooseDrawsSpec)

/-- 'tarpaulinlaw10.ChooseOne', WHERE WHAT IT READS IS OF BULK AT MOST 1048576: true; the input reads as it did. -/
def chooseOneUptoRow : OpenClaim := { program := "ytdemeghhjnehbaa", sum := "d8159ee02b808b9d314184fa0652ffe331bb9d57ed84cd33ee04fbc74db4d6e1", func := "tarpaulin/tarpaulinlaw10.ChooseOne", spec := "chooseOne", unfollowed := true, recurses := true, apart := false, narrowed := true }
def ChooseOneUptoSaid : Prop := chooseOneUptoRow.holds Try.pinned (OpenSpec.upto chooseOneSpec)

/-- 'tarpaulinlaw10.ChooseSends', WHERE WHAT IT READS IS OF BULK AT MOST 1048576: true; the input reads as it did. -/
def chooseSendsUptoRow : OpenClaim := { program := "ytdemeghhjnehbaa", sum := "d8159ee02b808b9d314184fa0652ffe331bb9d57ed84cd33ee04fbc74db4d6e1", func := "tarpaulin/tarpaulinlaw10.ChooseSends", spec := "chooseSends", unfollowed := true, recurses := true, apart := false, narrowed := true }
def ChooseSendsUptoSaid : Prop := chooseSendsUptoRow.holds Try.pinned (OpenSpec.upto chooseSendsSpec)

/-- 'tarpaulinlaw10.ChooseTells', WHERE WHAT IT READS IS OF BULK AT MOST 1048576: true; the input reads as it did. -/
def chooseTellsUptoRow : OpenClaim := { program := "ytdemeghhjnehbaa", sum := "d8159ee02b808b9d314184fa0652ffe331bb9d57ed84cd33ee04fbc74db4d6e1", func := "tarpaulin/tarpaulinlaw10.ChooseTells", spec := "chooseTells", unfollowed := true, recurses := true, apart := false, narrowed := true }
def ChooseTellsUptoSaid : Prop := chooseTellsUptoRow.holds Try.pinned (OpenSpec.upto chooseTellsSpec)

end Rows
end Go.Proofs.Ytdemeghhjnehbaa
