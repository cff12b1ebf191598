/- A program, that came in. -/
import Derived.Test.YtgfigahamnokhaaOpen
import Derived.Test.YtgfigahamnokhaaInstr
set_option linter.unusedVariables false
set_option linter.unusedSimpArgs false
namespace Go.Proofs.Ytgfigahamnokhaa
open Go.RowKit
set_option maxRecDepth 100000
def IsInstrs (w : World) (v : Value) (l : List Ins) : Prop := Rd w 6 v l.length (l.flatMap insEn) ∧ ∀ i ∈ l, InsOk w i
theorem i_cells_int : Try.prog.cellsOf 3 = 1 := by kernel_rfl
theorem i_cells_bool : Try.prog.cellsOf 4 = 1 := by kernel_rfl
theorem i_cells_cases : Try.prog.cellsOf 37 = 1 := by kernel_rfl
theorem dec_case (W : World) : Dec Try.prog W 57 fun cs => ∃ x : Cs, cs = csEn x ∧ True := by
  refine (dec_struct Try.underlying57 (sz := 3) (by kernel_rfl) (fun i cs => if i = 0 then ∃ x, cs = [.bool x] else ∃ x, cs = [.int .i64 x] ∧ (Lit.int .i64 x).wf = true) ?_).mono ?_
  · intro i f hf
    have hi := (Array.getElem?_eq_some_iff.1 hf).1
    have hi' : i = 0 ∨ i = 1 ∨ i = 2 := by simp at hi; omega
    rcases hi' with rfl | rfl | rfl
    · cases hf; exact dec_bool Try.underlying4
    · cases hf; exact dec_int Try.underlying3
    · cases hf; exact dec_int Try.underlying3
  · rintro cs ⟨hl, hk⟩
    obtain ⟨x, hx⟩ := hk 0 _ rfl
    obtain ⟨y, hy, _⟩ := hk 1 _ rfl
    obtain ⟨z, hz, _⟩ := hk 2 _ rfl
    match cs, hl with
    | [a, b, c], _ =>
      simp at hx hy hz
      rw [i_cells_bool] at hx
      rw [i_cells_int] at hy hz
      simp at hx hy hz
      exact ⟨(x, y, z), by simp [hx, hy, hz], trivial⟩
theorem dec_cases (W : World) : Dec Try.prog W 37 fun cs => ∃ v, cs = [v] ∧ ∃ l : List Cs, Rd W 3 v l.length (l.flatMap csEn) ∧ ∀ a ∈ l, True :=
  dec_slice (sz := 3) csEn (fun _ => True) (by omega) Try.underlying37 (by kernel_rfl) (fun _ => rfl) (dec_case W)
theorem dec_instr (W : World) : Dec Try.prog W 39 fun cs => ∃ x : Ins, cs = insEn x ∧ InsOk W x := by
  refine (dec_struct Try.underlying39 (sz := 6) (by kernel_rfl) (fun i cs => if i = 4 then ∃ v, cs = [v] ∧ ∃ l : List Cs, Rd W 3 v l.length (l.flatMap csEn) ∧ ∀ a ∈ l, True else if i = 5 then ∃ x, cs = [.bool x] else ∃ x, cs = [.int .i64 x] ∧ (Lit.int .i64 x).wf = true) ?_).mono ?_
  · intro i f hf
    have hi := (Array.getElem?_eq_some_iff.1 hf).1
    have hi' : i = 0 ∨ i = 1 ∨ i = 2 ∨ i = 3 ∨ i = 4 ∨ i = 5 := by simp at hi; omega
    rcases hi' with rfl | rfl | rfl | rfl | rfl | rfl
    · cases hf; exact dec_int Try.underlying3
    · cases hf; exact dec_int Try.underlying3
    · cases hf; exact dec_int Try.underlying3
    · cases hf; exact dec_int Try.underlying3
    · cases hf; exact dec_cases W
    · cases hf; exact dec_bool Try.underlying4
  · rintro cs ⟨hl, hk⟩
    obtain ⟨x0, h0, _⟩ := hk 0 _ rfl
    obtain ⟨x1, h1, _⟩ := hk 1 _ rfl
    obtain ⟨x2, h2, _⟩ := hk 2 _ rfl
    obtain ⟨x3, h3, _⟩ := hk 3 _ rfl
    obtain ⟨v, h4, l, hr, _⟩ := hk 4 _ rfl
    obtain ⟨d, h5⟩ := hk 5 _ rfl
    match cs, hl with
    | [a0, a1, a2, a3, a4, a5], _ =>
      simp at h0 h1 h2 h3 h4 h5
      rw [i_cells_int] at h0 h1 h2 h3
      rw [i_cells_cases] at h4
      rw [i_cells_bool] at h5
      simp at h0 h1 h2 h3 h4 h5
      exact ⟨((x0, x1, x2, x3), v, l, d), by simp [h0, h1, h2, h3, h4, h5], hr⟩
theorem opn_instrs {H : Type} {enc : TypeId × Value → H} {W : World} {base : Nat} {v : Value} {d : DataW H} {p : List MemPlace} (hv : Value.okWide Try.prog W .any base 22 v) (h : DataW.Trod enc Try.prog W 0 (fun _ => true) true 22 v d p) : ∃ l, IsInstrs W v l :=
  opn_slice (sz := 6) insEn (InsOk W) (by omega) Try.underlying22 (by kernel_rfl) (fun _ => rfl) (dec_instr W) hv h
end Go.Proofs.Ytgfigahamnokhaa
