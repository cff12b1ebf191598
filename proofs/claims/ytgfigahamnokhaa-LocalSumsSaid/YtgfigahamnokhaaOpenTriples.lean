/- A slice of triples, that came in. -/
import Derived.Test.YtgfigahamnokhaaOpen
set_option linter.unusedVariables false
set_option linter.unusedSimpArgs false
namespace Go.Proofs.Ytgfigahamnokhaa
open Go.RowKit
set_option maxRecDepth 100000
abbrev Tri := Int × Int × Int
abbrev triEn (p : Tri) : List Value := [.int .i64 p.1, .int .i64 p.2.1, .int .i64 p.2.2]
def IsTriples (w : World) (v : Value) (l : List Tri) : Prop := Rd w 3 v l.length (l.flatMap triEn) ∧ ∀ x ∈ l, (Lit.int .i64 x.1).wf = true ∧ (Lit.int .i64 x.2.1).wf = true ∧ (Lit.int .i64 x.2.2).wf = true
theorem opn_triples {H : Type} {enc : TypeId × Value → H} {W : World} {base : Nat} {v : Value} {d : DataW H} {p : List MemPlace} (hv : Value.okWide Try.prog W .any base 41 v) (h : DataW.Trod enc Try.prog W 0 (fun _ => true) true 41 v d p) : ∃ l, IsTriples W v l := by
  refine opn_slice (sz := 3) triEn (fun x => (Lit.int .i64 x.1).wf = true ∧ (Lit.int .i64 x.2.1).wf = true ∧ (Lit.int .i64 x.2.2).wf = true) (by omega) Try.underlying41 (by kernel_rfl) (fun _ => rfl) ?_ hv h
  refine (dec_array Try.underlying43 (show Try.prog.cellsOf 3 = 1 by kernel_rfl) (by kernel_rfl) (dec_int Try.underlying3)).mono fun cs ⟨hl, hk⟩ => ?_
  obtain ⟨x, hx, wx⟩ := hk 0 (by omega)
  obtain ⟨y, hy, wy⟩ := hk 1 (by omega)
  obtain ⟨z, hz, wz⟩ := hk 2 (by omega)
  match cs, hl with
  | [a, b, c], _ =>
    simp at hx hy hz
    exact ⟨(x, y, z), by rw [hx, hy, hz], wx, wy, wz⟩
end Go.Proofs.Ytgfigahamnokhaa
