/- How arguments of the laws come in: a slice of whole numbers as a slice that is read. -/
import Derived.Test.YtaghnlmfhfbhhaaRows
import Derived.Test.YtaghnlmfhfbhhaaBase
import Derived.ProofKit
import Derived.OpenShut
import Derived.ShutString
import Derived.ChangeOld
import Derived.Below
set_option linter.unusedVariables false
set_option linter.unusedSimpArgs false
namespace Go.Proofs.Ytaghnlmfhfbhhaa
open Go.ChangeShapes Go.WideShapes Go.ChangeAt Go.RowKit

/-- A slice of whole numbers that came in. -/
def IsInts (w : World) (v : Value) (l : List Int) : Prop := Rd w 1 v l.length (ints l) ∧ ∀ x ∈ l, (Lit.int .i64 x).wf = true
theorem opn_ints {H : Type} {enc : TypeId × Value → H} {W : World} {base : Nat} {v : Value} {d : DataW H} {p : List MemPlace} (hv : Value.okWide Try.prog W .any base 28 v) (h : DataW.Trod enc Try.prog W 0 (fun _ => true) true 28 v d p) : ∃ l, IsInts W v l := by
  obtain ⟨a, len, cap, rfl⟩ := okWide_slice Try.underlying28 hv
  have lt : ∀ x ∈ p, x.block < W.heap.size := by obtain ⟨m, hm⟩ := h; exact DataW.trod_lt m _ _ _ hm
  obtain ⟨fuel, hf⟩ := h
  rcases Go.ChangeShapes.open_ints Try.underlying28 Try.underlying3 (by kernel_rfl) hf with ⟨hcs, _⟩ | ⟨x, l, c, zs, hcs, _, hl, hm, hz, _, hcell, hwz⟩
  · simp [Value.cells] at hcs
    obtain ⟨rfl, rfl, rfl⟩ := hcs
    exact ⟨[], ⟨by simp, by simp [maxLen], _, _, rfl, by simp, by simp [maxLen], fun h => absurd h (by simp)⟩, fun x hx => by simp at hx⟩
  · simp [Value.cells] at hcs
    obtain ⟨rfl, rfl, rfl⟩ := hcs
    have hzl : zs.length = cap := by simpa using hz
    refine ⟨zs.take len, ⟨by simp, by simp [List.length_take]; omega, some x, cap, by simp [List.length_take]; omega, by simp [List.length_take]; omega, hm, fun hn => ?_⟩, fun y hy => hwz y (List.mem_of_mem_take hy)⟩
    have hn' : 0 < cap := by simp [List.length_take] at hn; omega
    obtain ⟨b, off, rfl, hc⟩ := Go.ints_at hcell (by omega)
    have h0 := hc 0 (by omega)
    refine ⟨b, off, rfl, block_lt_of_cell h0, fun j u hj => ?_⟩
    have hjl := (List.getElem?_eq_some_iff.1 hj).1
    simp [List.length_take] at hjl
    rw [hc j (by omega), ← hj]
    simp [List.getD, List.getElem?_take, hjl, List.getElem?_eq_getElem (show j < zs.length by omega)]
end Go.Proofs.Ytaghnlmfhfbhhaa
