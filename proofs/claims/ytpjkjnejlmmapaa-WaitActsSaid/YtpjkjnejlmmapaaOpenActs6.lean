/- A slice of acts on who waits, that came in. -/
import Derived.Test.YtpjkjnejlmmapaaOpen
import Derived.Test.YtpjkjnejlmmapaaWait
set_option linter.unusedVariables false
set_option linter.unusedSimpArgs false
namespace Go.Proofs.Ytpjkjnejlmmapaa
open Go.RowKit
set_option maxRecDepth 100000
abbrev Act6 := Int × Wt × Int × Int
abbrev act6En (a : Act6) : List Value := [.int .i64 a.1, .int .i64 a.2.1.1, .int .i64 a.2.1.2.1, .int .i64 a.2.1.2.2, .int .i64 a.2.2.1, .int .i64 a.2.2.2]
def IsActs6 (w : World) (v : Value) (l : List Act6) : Prop := Rd w 6 v l.length (l.flatMap act6En) ∧ ∀ a ∈ l, True
theorem cells_int : Try.prog.cellsOf 3 = 1 := by kernel_rfl
theorem cells_wait : Try.prog.cellsOf 46 = 3 := by kernel_rfl
theorem dec_wait (W : World) : Dec Try.prog W 46 fun cs => ∃ x : Wt, cs = wtCells x := by
  refine (dec_struct Try.underlying46 (sz := 3) (by kernel_rfl) (fun i cs => ∃ x, cs = [.int .i64 x] ∧ (Lit.int .i64 x).wf = true) ?_).mono ?_
  · intro i f hf
    have hi := (Array.getElem?_eq_some_iff.1 hf).1
    have hi' : i = 0 ∨ i = 1 ∨ i = 2 := by simp at hi; omega
    rcases hi' with rfl | rfl | rfl <;> (cases hf; exact dec_int Try.underlying3)
  · rintro cs ⟨hl, hk⟩
    obtain ⟨x, hx, _⟩ := hk 0 _ rfl
    obtain ⟨y, hy, _⟩ := hk 1 _ rfl
    obtain ⟨z, hz, _⟩ := hk 2 _ rfl
    match cs, hl with
    | [a, b, c], _ =>
      simp at hx hy hz
      rw [cells_int] at hx hy hz
      simp at hx hy hz
      exact ⟨(x, y, z), by simp [hx, hy, hz]⟩
theorem opn_acts6 {H : Type} {enc : TypeId × Value → H} {W : World} {base : Nat} {v : Value} {d : DataW H} {p : List MemPlace} (hv : Value.okWide Try.prog W .any base 41 v) (h : DataW.Trod enc Try.prog W 0 (fun _ => true) true 41 v d p) : ∃ l, IsActs6 W v l := by
  refine opn_slice (sz := 6) act6En (fun _ => True) (by omega) Try.underlying41 (by kernel_rfl) (fun _ => rfl) ?_ hv h
  refine (dec_struct Try.underlying48 (sz := 6) (by kernel_rfl) (fun i cs => if i = 1 then ∃ x : Wt, cs = wtCells x else ∃ x, cs = [.int .i64 x] ∧ (Lit.int .i64 x).wf = true) ?_).mono ?_
  · intro i f hf
    have hi := (Array.getElem?_eq_some_iff.1 hf).1
    have hi' : i = 0 ∨ i = 1 ∨ i = 2 ∨ i = 3 := by simp at hi; omega
    rcases hi' with rfl | rfl | rfl | rfl
    · cases hf; exact dec_int Try.underlying3
    · cases hf; exact dec_wait W
    · cases hf; exact dec_int Try.underlying3
    · cases hf; exact dec_int Try.underlying3
  · rintro cs ⟨hl, hk⟩
    obtain ⟨x, hx, _⟩ := hk 0 _ rfl
    obtain ⟨y, hy⟩ := hk 1 _ rfl
    obtain ⟨z, hz, _⟩ := hk 2 _ rfl
    obtain ⟨u, hu, _⟩ := hk 3 _ rfl
    match cs, hl with
    | [a0, a1, a2, a3, a4, a5], _ =>
      simp at hx hy hz hu
      rw [cells_int] at hx hz hu
      rw [cells_wait] at hy
      simp at hx hy hz hu
      obtain ⟨y0, y1, y2⟩ := y
      exact ⟨(x, (y0, y1, y2), z, u), by simp at hy; simp [hx, hy, hz, hu], trivial⟩
end Go.Proofs.Ytpjkjnejlmmapaa
