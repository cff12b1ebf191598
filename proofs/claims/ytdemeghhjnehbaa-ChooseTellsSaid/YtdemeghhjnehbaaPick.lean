/- What Pick of package script does. -/
import Derived.Test.YtdemeghhjnehbaaRound
set_option linter.unusedVariables false
set_option linter.unusedSimpArgs false
namespace Go.Proofs.Ytdemeghhjnehbaa
open Go.RowKit
set_option maxRecDepth 100000
theorem script_pick (w : World) (k n : Int) (h : 0 < n) (hn : n ≤ 4611686018427387904) :
    Calls Try.prog 34 #[.int .i64 k, .int .i64 n] w fun e w' => e = .returned (.int .i64 (k % n)) ∧ w = w' := by
  have h3 := Int.tmod_lt_of_pos k h
  have h4 := Int.lt_tmod_of_pos k h
  have h1 : ¬ n < 1 := by omega
  by_cases hneg : k.tmod n < 0
  · have h7 : wrap64 (k.tmod n + n) = k.tmod n + n := by unfold wrap64; omega
    have e1 : k.tmod n + n = k % n := by
      have h5 := Int.tmod_eq_of_lt (a := k.tmod n + n) (b := n) (by omega) (by omega)
      rw [← rnd_eq k n h, h5]
    have H7 := Lib.hid (h7.trans e1); clear h7 e1
    go_enter Try.func34, Try.ntmps34
    go_wp2
    go_ret
    refine ⟨?_, rfl⟩
    first | (show Ending.returned (.int .i64 (wrap64 (k.tmod n + n))) = _; rw [H7.out]) | (show Ending.returned (.int .i64 (k.tmod n + n)) = _; rw [← H7.out]; congr 2; unfold wrap64; omega)
  · have e1 : k.tmod n = k % n := by
      have h5 := Int.tmod_eq_of_lt (a := k.tmod n) (b := n) (by omega) (by omega)
      rw [← rnd_eq k n h, Int.tmod_eq_emod_of_nonneg (a := k.tmod n + n) (by omega), Int.add_emod_right, ← Int.tmod_eq_emod_of_nonneg (by omega), h5]
    have H7 := Lib.hid e1; clear e1
    go_enter Try.func34, Try.ntmps34
    go_wp2
    go_ret
    refine ⟨?_, rfl⟩
    show Ending.returned (.int .i64 (k.tmod n)) = _
    rw [H7.out]
end Go.Proofs.Ytdemeghhjnehbaa
