/- What Round of package tarpaulinalike does. -/
import Derived.Test.YtdemeghhjnehbaaProg
import Derived.Test.YtdemeghhjnehbaaBase
set_option linter.unusedVariables false
set_option linter.unusedSimpArgs false
namespace Go.Proofs.Ytdemeghhjnehbaa
open Go.RowKit
set_option maxRecDepth 100000

theorem rnd_eq (k n : Int) (h : 0 < n) : (k.tmod n + n).tmod n = k % n := by
  have h1 := Int.emod_nonneg k (show n ≠ 0 by omega)
  have h2 := Int.emod_lt_of_pos k h
  by_cases hk : 0 ≤ k
  · rw [Int.tmod_eq_emod_of_nonneg hk, Int.tmod_eq_emod_of_nonneg (by omega), Int.add_emod_right, Int.emod_emod]
  · have h3 := Int.tmod_lt_of_pos k h
    have h4 := Int.lt_tmod_of_pos k h
    rw [Int.tmod_eq_emod_of_nonneg (by omega), Int.add_emod_right]
    rw [Int.tmod_eq_emod]
    split
    · simp
    · rw [Int.natAbs_of_nonneg (by omega), Int.sub_emod_right, Int.emod_emod]
/-- A number from 0 to ahead of n. -/
theorem alike_round (w : World) (k n : Int) (h : 0 < n) (hn : n ≤ 4611686018427387904) :
    Calls Try.prog 12 #[.int .i64 k, .int .i64 n] w fun e w' => e = .returned (.int .i64 (k % n)) ∧ w = w' := by
  have h1 := rnd_eq k n h
  have h3 := Int.tmod_lt_of_pos k h
  have h4 := Int.lt_tmod_of_pos k h
  have h5 := Int.emod_nonneg k (show n ≠ 0 by omega)
  have h6 := Int.emod_lt_of_pos k h
  have h7 : wrap64 (k.tmod n + n) = k.tmod n + n := by unfold wrap64; omega
  have H1 := Lib.hid h1; clear h1 h3 h4 h5 h6
  have H7 := Lib.hid h7; clear h7
  go_enter Try.func12, Try.ntmps12
  go_wp2
  go_ret
  refine ⟨?_, rfl⟩
  show Ending.returned (.int .i64 ((wrap64 (k.tmod n + n)).tmod n)) = _
  rw [H7.out, H1.out]
end Go.Proofs.Ytdemeghhjnehbaa
