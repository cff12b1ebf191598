/- Eight numbers, that came in. -/
import Derived.Test.YtgfigahamnokhaaOpen
import Derived.Test.YtgfigahamnokhaaLocal
set_option linter.unusedVariables false
set_option linter.unusedSimpArgs false
namespace Go.Proofs.Ytgfigahamnokhaa
open Go.RowKit
set_option maxRecDepth 100000
def IsArr8 (w : World) (v : Value) (r : Nat → Int) : Prop := v = .agg (regA r) ∧ ∀ i, i < 8 → (Lit.int .i64 (r i)).wf = true
theorem opn_arr8 {H : Type} {enc : TypeId × Value → H} {W : World} {base : Nat} {v : Value} {d : DataW H} {p : List MemPlace} (hv : Value.okWide Try.prog W .any base 23 v) (h : DataW.Trod enc Try.prog W 0 (fun _ => true) true 23 v d p) : ∃ r, IsArr8 W v r := by
  unfold Value.okWide at hv
  rw [Try.underlying23] at hv
  obtain ⟨cs, rfl, hsz, _⟩ := hv
  obtain ⟨hl, hk⟩ := opn_of (dec_array Try.underlying23 (show Try.prog.cellsOf 3 = 1 by kernel_rfl) (by kernel_rfl) (dec_int Try.underlying3)) h
  obtain ⟨cl⟩ := cs
  simp [Value.cells] at hl hk
  match cl, hl with
  | [a0, a1, a2, a3, a4, a5, a6, a7], _ =>
    obtain ⟨x0, h0, w0⟩ := hk 0 (by omega)
    obtain ⟨x1, h1, w1⟩ := hk 1 (by omega)
    obtain ⟨x2, h2, w2⟩ := hk 2 (by omega)
    obtain ⟨x3, h3, w3⟩ := hk 3 (by omega)
    obtain ⟨x4, h4, w4⟩ := hk 4 (by omega)
    obtain ⟨x5, h5, w5⟩ := hk 5 (by omega)
    obtain ⟨x6, h6, w6⟩ := hk 6 (by omega)
    obtain ⟨x7, h7, w7⟩ := hk 7 (by omega)
    simp at h0 h1 h2 h3 h4 h5 h6 h7
    subst h0; subst h1; subst h2; subst h3; subst h4; subst h5; subst h6; subst h7
    refine ⟨fun j => [x0, x1, x2, x3, x4, x5, x6, x7].getD j 0, rfl, fun i hi => ?_⟩
    rcases (by omega : i = 0 ∨ i = 1 ∨ i = 2 ∨ i = 3 ∨ i = 4 ∨ i = 5 ∨ i = 6 ∨ i = 7) with rfl | rfl | rfl | rfl | rfl | rfl | rfl | rfl <;> assumption
end Go.Proofs.Ytgfigahamnokhaa
