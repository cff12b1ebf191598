/- A slice of acts on a channel, that came in. -/
import Derived.Test.YtfpcnagimjmkpaaOpen
import Derived.Test.YtfpcnagimjmkpaaChanShows
import Derived.Test.YtfpcnagimjmkpaaRound
set_option linter.unusedVariables false
set_option linter.unusedSimpArgs false
namespace Go.Proofs.Ytfpcnagimjmkpaa
open Go.RowKit
set_option maxRecDepth 100000
abbrev Act9 := Int × Int × Wt × Bool
abbrev act9En (a : Act9) : List Value := [.int .i64 a.1, .int .i64 a.2.1, .int .i64 a.2.2.1.1, .int .i64 a.2.2.1.2.1, .int .i64 a.2.2.1.2.2, .bool a.2.2.2]
def IsActs9 (w : World) (v : Value) (l : List Act9) : Prop := Rd w 6 v l.length (l.flatMap act9En) ∧ ∀ a ∈ l, True
theorem cells_int : Try.prog.cellsOf 3 = 1 := by kernel_rfl
theorem cells_bool : Try.prog.cellsOf 4 = 1 := by kernel_rfl
theorem cells_wait : Try.prog.cellsOf 34 = 3 := by kernel_rfl
theorem dec_wait (W : World) : Dec Try.prog W 34 fun cs => ∃ x : Wt, cs = wtCells x := by
  refine (dec_struct Try.underlying34 (sz := 3) (by kernel_rfl) (fun i cs => ∃ x, cs = [.int .i64 x] ∧ (Lit.int .i64 x).wf = true) ?_).mono ?_
  · intro i f hf
    have hi := (Array.getElem?_eq_some_iff.1 hf).1
    have hi' : i = 0 ∨ i = 1 ∨ i = 2 := by simp at hi; omega
    rcases hi' with rfl | rfl | rfl <;> (cases hf; exact dec_int Try.underlying3)
  · rintro cs ⟨hl, hk⟩
    obtain ⟨x, hx, _⟩ := hk 0 _ rfl
    obtain ⟨y, hy, _⟩ := hk 1 _ rfl
    obtain ⟨z, hz, _⟩ := hk 2 _ rfl
    match cs, hl with
    | [a, b, c], _ =>
      simp at hx hy hz
      rw [cells_int] at hx hy hz
      simp at hx hy hz
      exact ⟨(x, y, z), by simp [hx, hy, hz]⟩
theorem opn_acts9 {H : Type} {enc : TypeId × Value → H} {W : World} {base : Nat} {v : Value} {d : DataW H} {p : List MemPlace} (hv : Value.okWide Try.prog W .any base 58 v) (h : DataW.Trod enc Try.prog W 0 (fun _ => true) true 58 v d p) : ∃ l, IsActs9 W v l := by
  refine opn_slice (sz := 6) act9En (fun _ => True) (by omega) Try.underlying58 (by kernel_rfl) (fun _ => rfl) ?_ hv h
  refine (dec_struct Try.underlying64 (sz := 6) (by kernel_rfl) (fun i cs => if i = 2 then ∃ x : Wt, cs = wtCells x else if i = 3 then ∃ x, cs = [.bool x] else ∃ x, cs = [.int .i64 x] ∧ (Lit.int .i64 x).wf = true) ?_).mono ?_
  · intro i f hf
    have hi := (Array.getElem?_eq_some_iff.1 hf).1
    have hi' : i = 0 ∨ i = 1 ∨ i = 2 ∨ i = 3 := by simp at hi; omega
    rcases hi' with rfl | rfl | rfl | rfl
    · cases hf; exact dec_int Try.underlying3
    · cases hf; exact dec_int Try.underlying3
    · cases hf; exact dec_wait W
    · cases hf; exact dec_bool Try.underlying4
  · rintro cs ⟨hl, hk⟩
    obtain ⟨x, hx, _⟩ := hk 0 _ rfl
    obtain ⟨z, hz, _⟩ := hk 1 _ rfl
    obtain ⟨y, hy⟩ := hk 2 _ rfl
    obtain ⟨u, hu⟩ := hk 3 _ rfl
    match cs, hl with
    | [a0, a1, a2, a3, a4, a5], _ =>
      simp at hx hy hz hu
      rw [cells_int] at hx hz
      rw [cells_wait] at hy
      rw [cells_bool] at hu
      simp at hx hy hz hu
      obtain ⟨y0, y1, y2⟩ := y
      exact ⟨(x, z, (y0, y1, y2), u), by simp at hy; simp [hx, hy, hz, hu], trivial⟩
end Go.Proofs.Ytfpcnagimjmkpaa
