/- A slice of looks that came in. -/
import Derived.Test.YtaghnlmfhfbhhaaFair
set_option linter.unusedVariables false
set_option linter.unusedSimpArgs false
namespace Go.Proofs.Ytaghnlmfhfbhhaa
open Go.RowKit
set_option maxRecDepth 100000
/-- A slice of looks that came in. -/
def IsLooks (w : World) (v : Value) (M : List (Value × Lk)) : Prop := Looks w v M ∧ ∀ m ∈ M, ∀ x ∈ m.2.1, (Lit.int .i64 x).wf = true
theorem opn_looks {H : Type} {enc : TypeId × Value → H} {W : World} {base : Nat} {v : Value} {d : DataW H} {p : List MemPlace} (hv : Value.okWide Try.prog W .any base 62 v) (h : DataW.Trod enc Try.prog W 0 (fun _ => true) true 62 v d p) : ∃ M, IsLooks W v M := by
  obtain ⟨M, h1, h2⟩ := opn_slice (sz := 2) lookEn (fun m => Rd W 1 m.1 m.2.1.length (ints m.2.1) ∧ ∀ x ∈ m.2.1, (Lit.int .i64 x).wf = true) (by omega) Try.underlying62 (by kernel_rfl) (fun _ => rfl) (by
    refine (dec_struct Try.underlying74 (sz := 2) (by kernel_rfl) (fun i cs => if i = 0 then (∃ v, cs = [v] ∧ ∃ l : List Int, Rd W 1 v l.length (l.flatMap fun x => [.int .i64 x]) ∧ ∀ a ∈ l, (Lit.int .i64 a).wf = true) else ∃ x, cs = [.int .i64 x] ∧ (Lit.int .i64 x).wf = true) ?_).mono ?_
    · intro i f hf
      have hi := (Array.getElem?_eq_some_iff.1 hf).1
      have hi' : i = 0 ∨ i = 1 := by simp at hi; omega
      rcases hi' with rfl | rfl
      · cases hf
        simp only [if_true]
        exact dec_slice (sz := 1) (fun x : Int => [.int .i64 x]) (fun x => (Lit.int .i64 x).wf = true) (by omega) Try.underlying28 (by kernel_rfl) (fun _ => rfl) (dec_int Try.underlying3)
      · cases hf
        simp only [Nat.one_ne_zero, if_false]
        exact dec_int Try.underlying3
    · rintro cs ⟨hl, hk⟩
      have h0 := hk 0 _ rfl
      have h1 := hk 1 _ rfl
      have e0 : Try.prog.cellsOf 28 = 1 := by kernel_rfl
      have e1 : Try.prog.cellsOf 3 = 1 := by kernel_rfl
      simp only [if_true, Nat.one_ne_zero, if_false, e0, e1] at h0 h1
      match cs, hl with
      | [a, b], _ =>
        obtain ⟨v, hv, l, hl1, hl2⟩ := h0
        obtain ⟨x, hx, _⟩ := h1
        simp at hv hx
        rw [e0] at hv
        rw [e1] at hx
        simp at hv hx
        rw [flat_one] at hl1
        exact ⟨(v, l, x), by simp [hv, hx], hl1, hl2⟩) hv h
  exact ⟨M, ⟨h1, fun m hm => (h2 m hm).1⟩, fun m hm => (h2 m hm).2⟩
end Go.Proofs.Ytaghnlmfhfbhhaa
