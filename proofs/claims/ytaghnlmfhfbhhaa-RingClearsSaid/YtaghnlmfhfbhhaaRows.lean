/-
  No cell of these rows narrows 'for every input' (looked for: loops, veiled, ifaces, maps, wideKeys, modest, calm, conditions, laid).
  DERIVED. THE GIVEN ROWS OF THIS SEAT. 11 by the template 'for every input the law returns true; each argument reads behind the call as it read before'; 0 by the template 'total and deterministic' (their statements: YtaghnlmfhfbhhaaTotals.lean).
  GIVEN WITH THE SEED: the statements are not yours to turn. If you find one false, say at which input.
  Laid BY PROGRAM, IN A SANDBOX (cutbox-rows.mjs): the forced cells as the released guide's own fill.sh prints them over the translation a91d4f1fa281ce07… (all of the seat's roots in one cut). By AI agents, Wed Nov 11 2026. No macro, syntax, notation, axiom, sorry.
-/
import Derived.Test.YtaghnlmfhfbhhaaChecked
import GoSem.Claim
import GoSem.ClaimJoined
import GoSem.ClaimMapViews
import Derived.JoinedTies
import Derived.KernelRfl
namespace Go.Proofs.Ytaghnlmfhfbhhaa
/- THE CELL 'sum', in the pinned program and in every row, IS THE sha256 OF THE DUMP (.gsa) THAT YtaghnlmfhfbhhaaProg.lean LOADS. Nothing in Lean hashes anything: it is a label: what it is worth is what the hold of that sum in a sandbox is worth. -/
noncomputable def Try.pinned : Pinned := { name := "ytaghnlmfhfbhhaa", sum := "a91d4f1fa281ce0709268268bcab8f0414b7212e2c3d3fe3a627a4ff3411e28d", checked := Try.checked }
namespace Rows
def none {H : Type} : Left H := { results := [], args := [] }

/-- 'tarpaulinlaw7.ArenaActs': WHATEVER THE INPUT: true; the input reads as it did. -/
def arenaActsSpec : ChangeSpec := { name := "arenaActs", fn := fun _ => fun
  | [d1, d2] => { results := [.lit (.bool true)], args := [d1, d2] }
  | _ => none }
def arenaActsRow : OpenClaim := { program := "ytaghnlmfhfbhhaa", sum := "a91d4f1fa281ce0709268268bcab8f0414b7212e2c3d3fe3a627a4ff3411e28d", func := "tarpaulin/tarpaulinlaw7.ArenaActs", spec := "arenaActs", apart := false }
def ArenaActsSaid : Prop := arenaActsRow.holds Try.pinned (OpenSpec.ofChange arenaActsSpec)

/-- ITS FALSE NEIGHBOUR: 'it returns false'. Refute it at one input. -/
def arenaActsWrong : ChangeSpec := { name := "arenaActs", fn := fun _ => fun
  | [d1, d2] => { results := [.lit (.bool false)], args := [d1, d2] }
  | _ => none }
def ArenaActsWrongFalsely : Prop := arenaActsRow.holds Try.pinned (OpenSpec.ofChange arenaActsWrong)

/-- 'tarpaulinlaw7.ArenaKinds': WHATEVER THE INPUT: true; the input reads as it did. -/
def arenaKindsSpec : ChangeSpec := { name := "arenaKinds", fn := fun _ => fun
  | [d1, d2] => { results := [.lit (.bool true)], args := [d1, d2] }
  | _ => none }
def arenaKindsRow : OpenClaim := { program := "ytaghnlmfhfbhhaa", sum := "a91d4f1fa281ce0709268268bcab8f0414b7212e2c3d3fe3a627a4ff3411e28d", func := "tarpaulin/tarpaulinlaw7.ArenaKinds", spec := "arenaKinds", apart := false }
def ArenaKindsSaid : Prop := arenaKindsRow.holds Try.pinned (OpenSpec.ofChange arenaKindsSpec)

/-- ITS FALSE NEIGHBOUR: 'it returns false'. Refute it at one input. -/
def arenaKindsWrong : ChangeSpec := { name := "arenaKinds", fn := fun _ => fun
  | [d1, d2] => { results := [.lit (.bool false)], args := [d1, d2] }
  | _ => none }
def ArenaKindsWrongFalsely : Prop := arenaKindsRow.holds Try.pinned (OpenSpec.ofChange arenaKindsWrong)

/-- 'tarpaulinlaw7.ArenaFills': WHATEVER THE INPUT: true; the input reads as it did. -/
def arenaFillsSpec : ChangeSpec := { name := "arenaFills", fn := fun _ => fun
  | [d1, d2] => { results := [.lit (.bool true)], args := [d1, d2] }
  | _ => none }
def arenaFillsRow : OpenClaim := { program := "ytaghnlmfhfbhhaa", sum := "a91d4f1fa281ce0709268268bcab8f0414b7212e2c3d3fe3a627a4ff3411e28d", func := "tarpaulin/tarpaulinlaw7.ArenaFills", spec := "arenaFills", apart := false }
def ArenaFillsSaid : Prop := arenaFillsRow.holds Try.pinned (OpenSpec.ofChange arenaFillsSpec)

/-- ITS FALSE NEIGHBOUR: 'it returns false'. Refute it at one input. -/
def arenaFillsWrong : ChangeSpec := { name := "arenaFills", fn := fun _ => fun
  | [d1, d2] => { results := [.lit (.bool false)], args := [d1, d2] }
  | _ => none }
def ArenaFillsWrongFalsely : Prop := arenaFillsRow.holds Try.pinned (OpenSpec.ofChange arenaFillsWrong)

/-- 'tarpaulinlaw5.RingActs': WHATEVER THE INPUT: true; the input reads as it did. -/
def ringActsSpec : ChangeSpec := { name := "ringActs", fn := fun _ => fun
  | [d1, d2] => { results := [.lit (.bool true)], args := [d1, d2] }
  | _ => none }
def ringActsRow : OpenClaim := { program := "ytaghnlmfhfbhhaa", sum := "a91d4f1fa281ce0709268268bcab8f0414b7212e2c3d3fe3a627a4ff3411e28d", func := "tarpaulin/tarpaulinlaw5.RingActs", spec := "ringActs", apart := false }
def RingActsSaid : Prop := ringActsRow.holds Try.pinned (OpenSpec.ofChange ringActsSpec)

/-- ITS FALSE NEIGHBOUR: 'it returns false'. Refute it at one input. -/
def ringActsWrong : ChangeSpec := { name := "ringActs", fn := fun _ => fun
  | [d1, d2] => { results := [.lit (.bool false)], args := [d1, d2] }
  | _ => none }
def RingActsWrongFalsely : Prop := ringActsRow.holds Try.pinned (OpenSpec.ofChange ringActsWrong)

/-- 'tarpaulinlaw5.RingRows': WHATEVER THE INPUT: true; the input reads as it did. -/
def ringRowsSpec : ChangeSpec := { name := "ringRows", fn := fun _ => fun
  | [d1, d2, d3] => { results := [.lit (.bool true)], args := [d1, d2, d3] }
  | _ => none }
def ringRowsRow : OpenClaim := { program := "ytaghnlmfhfbhhaa", sum := "a91d4f1fa281ce0709268268bcab8f0414b7212e2c3d3fe3a627a4ff3411e28d", func := "tarpaulin/tarpaulinlaw5.RingRows", spec := "ringRows", apart := false }
def RingRowsSaid : Prop := ringRowsRow.holds Try.pinned (OpenSpec.ofChange ringRowsSpec)

/-- ITS FALSE NEIGHBOUR: 'it returns false'. Refute it at one input. -/
def ringRowsWrong : ChangeSpec := { name := "ringRows", fn := fun _ => fun
  | [d1, d2, d3] => { results := [.lit (.bool false)], args := [d1, d2, d3] }
  | _ => none }
def RingRowsWrongFalsely : Prop := ringRowsRow.holds Try.pinned (OpenSpec.ofChange ringRowsWrong)

/-- 'tarpaulinlaw5.RingClears': WHATEVER THE INPUT: true; the input reads as it did. -/
def ringClearsSpec : ChangeSpec := { name := "ringClears", fn := fun _ => fun
  | [d1, d2, d3] => { results := [.lit (.bool true)], args := [d1, d2, d3] }
  | _ => none }
def ringClearsRow : OpenClaim := { program := "ytaghnlmfhfbhhaa", sum := "a91d4f1fa281ce0709268268bcab8f0414b7212e2c3d3fe3a627a4ff3411e28d", func := "tarpaulin/tarpaulinlaw5.RingClears", spec := "ringClears", apart := false }
def RingClearsSaid : Prop := ringClearsRow.holds Try.pinned (OpenSpec.ofChange ringClearsSpec)

/-- ITS FALSE NEIGHBOUR: 'it returns false'. Refute it at one input. -/
def ringClearsWrong : ChangeSpec := { name := "ringClears", fn := fun _ => fun
  | [d1, d2, d3] => { results := [.lit (.bool false)], args := [d1, d2, d3] }
  | _ => none }
def RingClearsWrongFalsely : Prop := ringClearsRow.holds Try.pinned (OpenSpec.ofChange ringClearsWrong)

/-- 'tarpaulinlaw5.RingNone': WHATEVER THE INPUT: true; the input reads as it did. -/
def ringNoneSpec : ChangeSpec := { name := "ringNone", fn := fun _ => fun
  | [d1, d2] => { results := [.lit (.bool true)], args := [d1, d2] }
  | _ => none }
def ringNoneRow : OpenClaim := { program := "ytaghnlmfhfbhhaa", sum := "a91d4f1fa281ce0709268268bcab8f0414b7212e2c3d3fe3a627a4ff3411e28d", func := "tarpaulin/tarpaulinlaw5.RingNone", spec := "ringNone", apart := false }
def RingNoneSaid : Prop := ringNoneRow.holds Try.pinned (OpenSpec.ofChange ringNoneSpec)

/-- ITS FALSE NEIGHBOUR: 'it returns false'. Refute it at one input. -/
def ringNoneWrong : ChangeSpec := { name := "ringNone", fn := fun _ => fun
  | [d1, d2] => { results := [.lit (.bool false)], args := [d1, d2] }
  | _ => none }
def RingNoneWrongFalsely : Prop := ringNoneRow.holds Try.pinned (OpenSpec.ofChange ringNoneWrong)

/-- 'tarpaulinlaw25.FairTells': WHATEVER THE INPUT: true; the input reads as it did. -/
def fairTellsSpec : ChangeSpec := { name := "fairTells", fn := fun _ => fun
  | [d1, d2, d3] => { results := [.lit (.bool true)], args := [d1, d2, d3] }
  | _ => none }
def fairTellsRow : OpenClaim := { program := "ytaghnlmfhfbhhaa", sum := "a91d4f1fa281ce0709268268bcab8f0414b7212e2c3d3fe3a627a4ff3411e28d", func := "tarpaulin/tarpaulinlaw25.FairTells", spec := "fairTells", unfollowed := true, recurses := true, apart := false }
def FairTellsSaid : Prop := fairTellsRow.holds Try.pinned (OpenSpec.ofChange fairTellsSpec)

/-- ITS FALSE NEIGHBOUR: 'it returns false'. Refute it at one input. -/
def fairTellsWrong : ChangeSpec := { name := "fairTells", fn := fun _ => fun
  | [d1, d2, d3] => { results := [.lit (.bool false)], args := [d1, d2, d3] }
  | _ => none }
def FairTellsWrongFalsely : Prop := fairTellsRow.holds Try.pinned (OpenSpec.ofChange fairTellsWrong)

/-- 'tarpaulinlaw25.FairTurns': WHATEVER THE INPUT: true; the input reads as it did. -/
def fairTurnsSpec : ChangeSpec := { name := "fairTurns", fn := fun _ => fun
  | [d1, d2, d3] => { results := [.lit (.bool true)], args := [d1, d2, d3] }
  | _ => none }
def fairTurnsRow : OpenClaim := { program := "ytaghnlmfhfbhhaa", sum := "a91d4f1fa281ce0709268268bcab8f0414b7212e2c3d3fe3a627a4ff3411e28d", func := "tarpaulin/tarpaulinlaw25.FairTurns", spec := "fairTurns", unfollowed := true, recurses := true, apart := false }
def FairTurnsSaid : Prop := fairTurnsRow.holds Try.pinned (OpenSpec.ofChange fairTurnsSpec)

/-- ITS FALSE NEIGHBOUR: 'it returns false'. Refute it at one input. -/
def fairTurnsWrong : ChangeSpec := { name := "fairTurns", fn := fun _ => fun
  | [d1, d2, d3] => { results := [.lit (.bool false)], args := [d1, d2, d3] }
  | _ => none }
def FairTurnsWrongFalsely : Prop := fairTurnsRow.holds Try.pinned (OpenSpec.ofChange fairTurnsWrong)

/-- 'tarpaulinlaw25.FairPlayed': WHATEVER THE INPUT: true; the input reads as it did. -/
def fairPlayedSpec : ChangeSpec := { name := "fairPlayed", fn := fun _ => fun
  | [d1, d2, d3] => { results := [.lit (.bool true)], args := [d1, d2, d3] }
  | _ => none }
def fairPlayedRow : OpenClaim := { program := "ytaghnlmfhfbhhaa", sum := "a91d4f1fa281ce0709268268bcab8f0414b7212e2c3d3fe3a627a4ff3411e28d", func := "tarpaulin/tarpaulinlaw25.FairPlayed", spec := "fairPlayed", unfollowed := true, recurses := true, apart := false }
def FairPlayedSaid : Prop := fairPlayedRow.holds Try.pinned (OpenSpec.ofChange fairPlayedSpec)

/-- ITS FALSE NEIGHBOUR: 'it returns false'. Refute it at one input. -/
def fairPlayedWrong : ChangeSpec := { name := "fairPlayed", fn := fun _ => fun
  | [d1, d2, d3] => { results := [.lit (.bool false)], args := [d1, d2, d3] }
  | _ => none }
def FairPlayedWrongFalsely : Prop := fairPlayedRow.holds Try.pinned (OpenSpec.ofChange fairPlayedWrong)

/-- 'tarpaulinlaw25.FairMore': WHATEVER THE INPUT: true; the input reads as it did. -/
def fairMoreSpec : ChangeSpec := { name := "fairMore", fn := fun _ => fun
  | [d1, d2] => { results := [.lit (.bool true)], args := [d1, d2] }
  | _ => none }
def fairMoreRow : OpenClaim := { program := "ytaghnlmfhfbhhaa", sum := "a91d4f1fa281ce0709268268bcab8f0414b7212e2c3d3fe3a627a4ff3411e28d", func := "tarpaulin/tarpaulinlaw25.FairMore", spec := "fairMore", unfollowed := true, recurses := true, apart := false }
def FairMoreSaid : Prop := fairMoreRow.holds Try.pinned (OpenSpec.ofChange fairMoreSpec)

/-- ITS FALSE NEIGHBOUR: 'it returns false'. Refute it at one input. -/
def fairMoreWrong : ChangeSpec := { name := "fairMore", fn := fun _ => fun
  | [d1, d2] => { results := [.lit (.bool false)], args := [d1, d2] }
  | _ => none }
def FairMoreWrongFalsely : Prop := fairMoreRow.holds Try.pinned (OpenSpec.ofChange fairMoreWrong)

/- THE SECOND FORM. 'bulk': how many values and letters a reading holds, each counted each time it is reached (what is shared counts as often as it is met; a slice's spare places count too). A statement '..UptoSaid' is the law's where the arguments, and the package variables that the reading takes, are together of bulk at most 1048576: NARROWER than '..Said'. Prove '..Said' where nothing that the law and all that it calls make is longer than what came in: it says more and counts as full. Else prove '..UptoSaid'. A law counts once. -/
mutual
def uptoBulk {H : Type} : DataW H → Nat
  | .lit (.string bytes) => bytes.length + 1
  | .lit _ => 1
  | .nil => 1
  | .ptr d => uptoBulk d + 1
  | .slice elems spare => uptoBulkAll elems + uptoBulkAll spare + 1
  | .agg parts => uptoBulkAll parts + 1
  | .iface _ d => uptoBulk d + 1
  | .map entries => uptoBulkEntries entries + 1
  | .held _ => 1
def uptoBulkAll {H : Type} : List (DataW H) → Nat
  | [] => 0
  | d :: r => uptoBulk d + uptoBulkAll r
def uptoBulkEntries {H : Type} : List (Lit × DataW H) → Nat
  | [] => 0
  | x :: r => uptoBulkEntry x + uptoBulkEntries r
def uptoBulkEntry {H : Type} : Lit × DataW H → Nat
  | (.string bytes, d) => bytes.length + uptoBulk d + 1
  | (_, d) => uptoBulk d + 1
 end
def uptoSmall : (H : Type) → List (DataW H) → Bool := fun _ ds => decide (uptoBulkAll ds ≤ 1048576)
def OpenSpec.upto (s : _root_.Go.ChangeSpec) : _root_.Go.OpenSpec := { _root_.Go.OpenSpec.ofChange s with cond := some uptoSmall }

/-- 'tarpaulinlaw7.ArenaActs', WHERE WHAT IT READS IS OF BULK AT MOST 1048576: true; the input reads as it did. -/
def arenaActsUptoRow : OpenClaim := { program := "ytaghnlmfhfbhhaa", sum := "a91d4f1fa281ce0709268268bcab8f0414b7212e2c3d3fe3a627a4ff3411e28d", func := "tarpaulin/tarpaulinlaw7.ArenaActs", spec := "arenaActs", apart := false, narrowed := true }
def ArenaActsUptoSaid : Prop := arenaActsUptoRow.holds Try.pinned (OpenSpec.upto arenaActsSpec)

/-- 'tarpaulinlaw7.ArenaKinds', WHERE WHAT IT READS IS OF BULK AT MOST 1048576: true; the input reads as it did. -/
def arenaKindsUptoRow : OpenClaim := { program := "ytaghnlmfhfbhhaa", sum := "a91d4f1fa281ce0709268268bcab8f0414b7212e2c3d3fe3a627a4ff3411e28d", func := "tarpaulin/tarpaulinlaw7.ArenaKinds", spec := "arenaKinds", apart := false, narrowed := true }
def ArenaKindsUptoSaid : Prop := arenaKindsUptoRow.holds Try.pinned (OpenSpec.upto arenaKindsSpec)

/-- 'tarpaulinlaw7.ArenaFills', WHERE WHAT IT READS IS OF BULK AT MOST 1048576: true; the input reads as it did. -/
def arenaFillsUptoRow : OpenClaim := { program := "ytaghnlmfhfbhhaa", sum := "a91d4f1fa281ce0709268268bcab8f0414b7212e2c3d3fe3a627a4ff3411e28d", func := "tarpaulin/tarpaulinlaw7.ArenaFills", spec := "arenaFills", apart := false, narrowed := true }
def ArenaFillsUptoSaid : Prop := arenaFillsUptoRow.holds Try.pinned (OpenSpec.upto arenaFillsSpec)

/-- 'tarpaulinlaw5.RingActs', WHERE WHAT IT READS IS OF BULK AT MOST 1048576: true; the input reads as it did. -/
def ringActsUptoRow : OpenClaim := { program := "ytaghnlmfhfbhhaa", sum := "a91d4f1fa281ce0709268268bcab8f0414b7212e2c3d3fe3a627a4ff3411e28d", func := "tarpaulin/tarpaulinlaw5.RingActs", spec := "ringActs", apart := false, narrowed := true }
def RingActsUptoSaid : Prop := ringActsUptoRow.holds Try.pinned (OpenSpec.upto ringActsSpec)

/-- 'tarpaulinlaw5.RingRows', WHERE WHAT IT READS IS OF BULK AT MOST 1048576: true; the input reads as it did. -/
def ringRowsUptoRow : OpenClaim := { program := "ytaghnlmfhfbhhaa", sum := "a91d4f1fa281ce0709268268bcab8f0414b7212e2c3d3fe3a627a4ff3411e28d", func := "tarpaulin/tarpaulinlaw5.RingRows", spec := "ringRows", apart := false, narrowed := true }
def RingRowsUptoSaid : Prop := ringRowsUptoRow.holds Try.pinned (OpenSpec.upto ringRowsSpec)

/-- 'tarpaulinlaw5.RingClears', WHERE WHAT IT READS IS OF BULK AT MOST 1048576: true; the input reads as it did. -/
def ringClearsUptoRow : OpenClaim := { program := "ytaghnlmfhfbhhaa", sum := "a91d4f1fa281ce0709268268bcab8f0414b7212e2c3d3fe3a627a4ff3411e28d", func := "tarpaulin/tarpaulinlaw5.RingClears", spec := "ringClears", apart := false, narrowed := true }
def RingClearsUptoSaid : Prop := ringClearsUptoRow.holds Try.pinned (OpenSpec.upto ringClearsSpec)

/-- 'tarpaulinlaw5.RingNone', WHERE WHAT IT READS IS OF BULK AT MOST 1048576: true; the input reads as it did. -/
def ringNoneUptoRow : OpenClaim := { program := "ytaghnlmfhfbhhaa", sum := "a91d4f1fa281ce0709268268bcab8f0414b7212e2c3d3fe3a627a4ff3411e28d", func := "tarpaulin/tarpaulinlaw5.RingNone", spec := "ringNone", apart := false, narrowed := true }
def RingNoneUptoSaid : Prop := ringNoneUptoRow.holds Try.pinned (OpenSpec.upto ringNoneSpec)

/-- 'tarpaulinlaw25.FairTells', WHERE WHAT IT READS IS OF BULK AT MOST 1048576: true; the input reads as it did. -/
def fairTellsUptoRow : OpenClaim := { program := "ytaghnlmfhfbhhaa", sum := "a91d4f1fa281ce0709268268bcab8f0414b7212e2c3d3fe3a627a4ff3411e28d", func := "tarpaulin/tarpaulinlaw25.FairTells", spec := "fairTells", unfollowed := true, recurses := true, apart := false, narrowed := true }
def FairTellsUptoSaid : Prop := fairTellsUptoRow.holds Try.pinned (OpenSpec.upto fairTellsSpec)

/-- 'tarpaulinlaw25.FairTurns', WHERE WHAT IT READS IS OF BULK AT MOST 1048576: true; the input reads as it did. -/
def fairTurnsUptoRow : OpenClaim := { program := "ytaghnlmfhfbhhaa", sum := "a91d4f1fa281ce0709268268bcab8f0414b7212e2c3d3fe3a627a4ff3411e28d", func := "tarpaulin/tarpaulinlaw25.FairTurns", spec := "fairTurns", unfollowed := true, recurses := true, apart := false, narrowed := true }
def FairTurnsUptoSaid : Prop := fairTurnsUptoRow.holds Try.pinned (OpenSpec.upto fairTurnsSpec)

/-- 'tarpaulinlaw25.FairPlayed', WHERE WHAT IT READS IS OF BULK AT MOST 1048576: true; the input reads as it did. -/
def fairPlayedUptoRow : OpenClaim := { program := "ytaghnlmfhfbhhaa", sum := "a91d4f1fa281ce0709268268bcab8f0414b7212e2c3d3fe3a627a4ff3411e28d", func := "tarpaulin/tarpaulinlaw25.FairPlayed", spec := "fairPlayed", unfollowed := true, recurses := true, apart := false, narrowed := true }
def FairPlayedUptoSaid : Prop := fairPlayedUptoRow.holds Try.pinned (OpenSpec.upto fairPlayedSpec)

/-- 'tarpaulinlaw25.FairMore', WHERE WHAT IT READS IS OF BULK AT MOST 1048576: true; the input reads as it did. -/
def fairMoreUptoRow : OpenClaim := { program := "ytaghnlmfhfbhhaa", sum := "a91d4f1fa281ce0709268268bcab8f0414b7212e2c3d3fe3a627a4ff3411e28d", func := "tarpaulin/tarpaulinlaw25.FairMore", spec := "fairMore", unfollowed := true, recurses := true, apart := false, narrowed := true }
def FairMoreUptoSaid : Prop := fairMoreUptoRow.holds Try.pinned (OpenSpec.upto fairMoreSpec)

end Rows
end Go.Proofs.Ytaghnlmfhfbhhaa
