/- A slice of acts on a tree, that came in. -/
import Derived.Test.YtpjkjnejlmmapaaOpen
set_option linter.unusedVariables false
set_option linter.unusedSimpArgs false
namespace Go.Proofs.Ytpjkjnejlmmapaa
open Go.RowKit
set_option maxRecDepth 100000
abbrev Act14 := Int × Int × Bool
abbrev act14En (a : Act14) : List Value := [.int .i64 a.1, .int .i64 a.2.1, .bool a.2.2]
def IsActs14 (w : World) (v : Value) (l : List Act14) : Prop := Rd w 3 v l.length (l.flatMap act14En) ∧ ∀ a ∈ l, (Lit.int .i64 a.2.1).wf = true
theorem cells_int14 : Try.prog.cellsOf 3 = 1 := by kernel_rfl
theorem cells_bool14 : Try.prog.cellsOf 4 = 1 := by kernel_rfl
theorem opn_acts14 {H : Type} {enc : TypeId × Value → H} {W : World} {base : Nat} {v : Value} {d : DataW H} {p : List MemPlace} (hv : Value.okWide Try.prog W .any base 58 v) (h : DataW.Trod enc Try.prog W 0 (fun _ => true) true 58 v d p) : ∃ l, IsActs14 W v l := by
  refine opn_slice (sz := 3) act14En (fun a => (Lit.int .i64 a.2.1).wf = true) (by omega) Try.underlying58 (by kernel_rfl) (fun _ => rfl) ?_ hv h
  refine (dec_struct Try.underlying66 (sz := 3) (by kernel_rfl) (fun i cs => if i = 2 then ∃ x, cs = [.bool x] else ∃ x, cs = [.int .i64 x] ∧ (Lit.int .i64 x).wf = true) ?_).mono ?_
  · intro i f hf
    have hi := (Array.getElem?_eq_some_iff.1 hf).1
    have hi' : i = 0 ∨ i = 1 ∨ i = 2 := by simp at hi; omega
    rcases hi' with rfl | rfl | rfl
    · cases hf; exact dec_int Try.underlying3
    · cases hf; exact dec_int Try.underlying3
    · cases hf; exact dec_bool Try.underlying4
  · rintro cs ⟨hl, hk⟩
    obtain ⟨x, hx, _⟩ := hk 0 _ rfl
    obtain ⟨y, hy, wy⟩ := hk 1 _ rfl
    obtain ⟨z, hz⟩ := hk 2 _ rfl
    match cs, hl with
    | [a0, a1, a2], _ =>
      simp at hx hy hz
      rw [cells_int14] at hx hy
      rw [cells_bool14] at hz
      simp at hx hy hz
      exact ⟨(x, y, z), by simp [hx, hy, hz], wy⟩
end Go.Proofs.Ytpjkjnejlmmapaa
