/- Sums of times, held at the greatest: what Add of package clock and the document's own do. -/
import Derived.Test.YtgfigahamnokhaaProg
import Derived.Test.YtgfigahamnokhaaBase
import Derived.IntWalk
set_option linter.unusedVariables false
set_option linter.unusedSimpArgs false
namespace Go.Proofs.Ytgfigahamnokhaa
open Go.RowKit
set_option maxRecDepth 100000
def heldT (t : Int) : Int := max (min t 4611686018427387904) (-4611686018427387904)
def addT (t d : Int) : Int := max (min (heldT t + heldT d) 4611686018427387904) (-4611686018427387904)
theorem heldT_lo (t : Int) (h : t < -4611686018427387904) : heldT t = -4611686018427387904 := by unfold heldT; omega
theorem heldT_hi (t : Int) (h : 4611686018427387904 < t) : heldT t = 4611686018427387904 := by unfold heldT; omega
theorem heldT_in (t : Int) (h1 : -4611686018427387904 ≤ t) (h2 : t ≤ 4611686018427387904) : heldT t = t := by unfold heldT; omega
theorem heldT_bd (t : Int) : -4611686018427387904 ≤ heldT t ∧ heldT t ≤ 4611686018427387904 := by unfold heldT; omega
theorem held_any (w : World) (t : Int) : Calls Try.prog 22 #[.int .i64 t] w fun e w' => e = .returned (.int .i64 (heldT t)) ∧ w = w' := by
  by_cases h1 : t < -4611686018427387904
  · have H := Lib.hid (heldT_lo t h1)
    go_enter Try.func22, Try.ntmps22
    go_wp2
    all_goals
      go_ret
      exact ⟨by rw [H.out]; rfl, rfl⟩
  · by_cases h2 : 4611686018427387904 < t
    · have H := Lib.hid (heldT_hi t h2)
      go_enter Try.func22, Try.ntmps22
      go_wp2
      all_goals
        go_ret
        exact ⟨by rw [H.out]; rfl, rfl⟩
    · have H := Lib.hid (heldT_in t (by omega) (by omega))
      have h3 : -4611686018427387904 ≤ t := by omega
      have h4 : t ≤ 4611686018427387904 := by omega
      go_enter Try.func22, Try.ntmps22
      go_wp2
      all_goals
        go_ret
        exact ⟨by rw [H.out]; rfl, rfl⟩
theorem ref_held (w : World) (t : Int) : Calls Try.prog 18 #[.int .i64 t] w fun e w' => e = .returned (.int .i64 (heldT t)) ∧ w = w' := by
  by_cases h1 : t < -4611686018427387904
  · have H := Lib.hid (heldT_lo t h1)
    go_enter Try.func18, Try.ntmps18
    go_wp2
    all_goals
      go_ret
      exact ⟨by rw [H.out]; rfl, rfl⟩
  · by_cases h2 : 4611686018427387904 < t
    · have H := Lib.hid (heldT_hi t h2)
      go_enter Try.func18, Try.ntmps18
      go_wp2
      all_goals
        go_ret
        exact ⟨by rw [H.out]; rfl, rfl⟩
    · have H := Lib.hid (heldT_in t (by omega) (by omega))
      have h3 : -4611686018427387904 ≤ t := by omega
      have h4 : t ≤ 4611686018427387904 := by omega
      go_enter Try.func18, Try.ntmps18
      go_wp2
      all_goals
        go_ret
        exact ⟨by rw [H.out]; rfl, rfl⟩

theorem clock_add (w : World) (t d : Int) : Calls Try.prog 16 #[.int .i64 t, .int .i64 d] w fun e w' => e = .returned (.int .i64 (addT t d)) ∧ w = w' := by
  have h1 := fun W => held_any W t
  have h2 := fun W => held_any W d
  obtain ⟨a1, a2⟩ := heldT_bd t
  obtain ⟨b1, b2⟩ := heldT_bd d
  have hr : addT t d = max (min (heldT t + heldT d) 4611686018427387904) (-4611686018427387904) := rfl
  rw [hr]
  clear hr
  generalize heldT t = a at *
  generalize heldT d = b at *
  have H1 := Lib.hid h1; have H2 := Lib.hid h2
  clear h1 h2
  by_cases hb : 0 < b
  · have hd1 : decide (0 < b) = true := by simp; omega
    by_cases ha : 4611686018427387904 - b < a
    · have hd2 : decide (4611686018427387904 - b < a) = true := by simp; omega
      have hr : max (min (a + b) 4611686018427387904) (-4611686018427387904) = 4611686018427387904 := by omega
      have Hr := Lib.hid hr
      clear hr
      go_enter Try.func16, Try.ntmps16
      go_wp2_with fail
      refine (H1.out _).mono ?_
      rintro e w' ⟨rfl, rfl⟩
      go_wp2_with fail
      refine (H2.out _).mono ?_
      rintro e w' ⟨rfl, rfl⟩
      go_wp2_with fail
      go_ret
      exact ⟨by rw [Hr.out]; rfl, rfl⟩
    · have hd2 : decide (4611686018427387904 - b < a) = false := by simp; omega
      have hd3 : decide (b < 0) = false := by simp; omega
      have hr : max (min (a + b) 4611686018427387904) (-4611686018427387904) = a + b := by omega
      have hs1 : -4611686018427387904 ≤ a + b := by omega
      have hs2 : a + b ≤ 4611686018427387904 := by omega
      have Hr := Lib.hid hr
      clear hr
      go_enter Try.func16, Try.ntmps16
      go_wp2_with fail
      refine (H1.out _).mono ?_
      rintro e w' ⟨rfl, rfl⟩
      go_wp2_with fail
      refine (H2.out _).mono ?_
      rintro e w' ⟨rfl, rfl⟩
      go_wp2_with fail
      go_ret
      exact ⟨by rw [Hr.out]; rfl, rfl⟩
  · have hd1 : decide (0 < b) = false := by simp; omega
    by_cases hb0 : b < 0
    · have hd3 : decide (b < 0) = true := by simp; omega
      by_cases ha : a < -4611686018427387904 - b
      · have hd2 : decide (a < -4611686018427387904 - b) = true := by simp; omega
        have hr : max (min (a + b) 4611686018427387904) (-4611686018427387904) = -4611686018427387904 := by omega
        have Hr := Lib.hid hr
        clear hr
        go_enter Try.func16, Try.ntmps16
        go_wp2_with fail
        refine (H1.out _).mono ?_
        rintro e w' ⟨rfl, rfl⟩
        go_wp2_with fail
        refine (H2.out _).mono ?_
        rintro e w' ⟨rfl, rfl⟩
        go_wp2_with fail
        go_ret
        exact ⟨by rw [Hr.out]; rfl, rfl⟩
      · have hd2 : decide (a < -4611686018427387904 - b) = false := by simp; omega
        have hr : max (min (a + b) 4611686018427387904) (-4611686018427387904) = a + b := by omega
        have hs1 : -4611686018427387904 ≤ a + b := by omega
        have hs2 : a + b ≤ 4611686018427387904 := by omega
        have Hr := Lib.hid hr
        clear hr
        go_enter Try.func16, Try.ntmps16
        go_wp2_with fail
        refine (H1.out _).mono ?_
        rintro e w' ⟨rfl, rfl⟩
        go_wp2_with fail
        refine (H2.out _).mono ?_
        rintro e w' ⟨rfl, rfl⟩
        go_wp2_with fail
        go_ret
        exact ⟨by rw [Hr.out]; rfl, rfl⟩
    · obtain rfl : b = 0 := by omega
      have hr : max (min (a + 0) 4611686018427387904) (-4611686018427387904) = a := by omega
      rw [hr]
      clear hr
      go_enter Try.func16, Try.ntmps16
      go_wp2_with fail
      refine (H1.out _).mono ?_
      rintro e w' ⟨rfl, rfl⟩
      go_wp2_with fail
      refine (H2.out _).mono ?_
      rintro e w' ⟨rfl, rfl⟩
      go_wp2_with fail
      go_ret
      exact ⟨by first | rfl | simp, rfl⟩

theorem ref_add (w : World) (t d : Int) : Calls Try.prog 14 #[.int .i64 t, .int .i64 d] w fun e w' => e = .returned (.int .i64 (addT t d)) ∧ w = w' := by
  have h1 := fun W => ref_held W t
  have h2 := fun W => ref_held W d
  obtain ⟨a1, a2⟩ := heldT_bd t
  obtain ⟨b1, b2⟩ := heldT_bd d
  have hr : addT t d = max (min (heldT t + heldT d) 4611686018427387904) (-4611686018427387904) := rfl
  rw [hr]
  clear hr
  generalize heldT t = a at *
  generalize heldT d = b at *
  have H1 := Lib.hid h1; have H2 := Lib.hid h2
  clear h1 h2
  by_cases hb : 0 < b
  · have hd1 : decide (0 < b) = true := by simp; omega
    by_cases ha : 4611686018427387904 - b < a
    · have hd2 : decide (4611686018427387904 - b < a) = true := by simp; omega
      have hr : max (min (a + b) 4611686018427387904) (-4611686018427387904) = 4611686018427387904 := by omega
      have Hr := Lib.hid hr
      clear hr
      go_enter Try.func14, Try.ntmps14
      go_wp2_with fail
      refine (H1.out _).mono ?_
      rintro e w' ⟨rfl, rfl⟩
      go_wp2_with fail
      refine (H2.out _).mono ?_
      rintro e w' ⟨rfl, rfl⟩
      go_wp2_with fail
      go_ret
      exact ⟨by rw [Hr.out]; rfl, rfl⟩
    · have hd2 : decide (4611686018427387904 - b < a) = false := by simp; omega
      have hd3 : decide (b < 0) = false := by simp; omega
      have hr : max (min (a + b) 4611686018427387904) (-4611686018427387904) = a + b := by omega
      have hs1 : -4611686018427387904 ≤ a + b := by omega
      have hs2 : a + b ≤ 4611686018427387904 := by omega
      have Hr := Lib.hid hr
      clear hr
      go_enter Try.func14, Try.ntmps14
      go_wp2_with fail
      refine (H1.out _).mono ?_
      rintro e w' ⟨rfl, rfl⟩
      go_wp2_with fail
      refine (H2.out _).mono ?_
      rintro e w' ⟨rfl, rfl⟩
      go_wp2_with fail
      go_ret
      exact ⟨by rw [Hr.out]; rfl, rfl⟩
  · have hd1 : decide (0 < b) = false := by simp; omega
    by_cases hb0 : b < 0
    · have hd3 : decide (b < 0) = true := by simp; omega
      by_cases ha : a < -4611686018427387904 - b
      · have hd2 : decide (a < -4611686018427387904 - b) = true := by simp; omega
        have hr : max (min (a + b) 4611686018427387904) (-4611686018427387904) = -4611686018427387904 := by omega
        have Hr := Lib.hid hr
        clear hr
        go_enter Try.func14, Try.ntmps14
        go_wp2_with fail
        refine (H1.out _).mono ?_
        rintro e w' ⟨rfl, rfl⟩
        go_wp2_with fail
        refine (H2.out _).mono ?_
        rintro e w' ⟨rfl, rfl⟩
        go_wp2_with fail
        go_ret
        exact ⟨by rw [Hr.out]; rfl, rfl⟩
      · have hd2 : decide (a < -4611686018427387904 - b) = false := by simp; omega
        have hr : max (min (a + b) 4611686018427387904) (-4611686018427387904) = a + b := by omega
        have hs1 : -4611686018427387904 ≤ a + b := by omega
        have hs2 : a + b ≤ 4611686018427387904 := by omega
        have Hr := Lib.hid hr
        clear hr
        go_enter Try.func14, Try.ntmps14
        go_wp2_with fail
        refine (H1.out _).mono ?_
        rintro e w' ⟨rfl, rfl⟩
        go_wp2_with fail
        refine (H2.out _).mono ?_
        rintro e w' ⟨rfl, rfl⟩
        go_wp2_with fail
        go_ret
        exact ⟨by rw [Hr.out]; rfl, rfl⟩
    · obtain rfl : b = 0 := by omega
      have hr : max (min (a + 0) 4611686018427387904) (-4611686018427387904) = a := by omega
      rw [hr]
      clear hr
      go_enter Try.func14, Try.ntmps14
      go_wp2_with fail
      refine (H1.out _).mono ?_
      rintro e w' ⟨rfl, rfl⟩
      go_wp2_with fail
      refine (H2.out _).mono ?_
      rintro e w' ⟨rfl, rfl⟩
      go_wp2_with fail
      go_ret
      exact ⟨by first | rfl | simp, rfl⟩
def mineB (op : Int) : Bool := (decide (1 ≤ op) && decide (op ≤ 7)) || op == 16

theorem mine_any (w : World) (op : Int) : Calls Try.prog 11 #[.int .i64 op] w fun e w' => e = .returned (.bool (mineB op)) ∧ w = w' := by
  by_cases h1 : 1 ≤ op
  · have d1 : decide (1 ≤ op) = true := by simp; omega
    by_cases h7 : op ≤ 7
    · have d2 : decide (op ≤ 7) = true := by simp; omega
      have H : Hid (mineB op = true) := Lib.hid (by unfold mineB; rw [d1, d2]; rfl)
      go_enter Try.func11, Try.ntmps11
      go_wp2_with fail
      go_ret
      exact ⟨by rw [H.out]; rfl, rfl⟩
    · have d2 : decide (op ≤ 7) = false := by simp; omega
      have H : Hid (mineB op = (op == 16)) := Lib.hid (by unfold mineB; rw [d1, d2]; rfl)
      generalize hz : (op == 16) = z at *
      go_enter Try.func11, Try.ntmps11
      go_wp2_with fail
      go_ret
      exact ⟨by rw [H.out]; rfl, rfl⟩
  · have d1 : decide (1 ≤ op) = false := by simp; omega
    have H : Hid (mineB op = (op == 16)) := Lib.hid (by unfold mineB; rw [d1]; rfl)
    generalize hz : (op == 16) = z at *
    go_enter Try.func11, Try.ntmps11
    go_wp2_with fail
    go_ret
    exact ⟨by rw [H.out]; rfl, rfl⟩

theorem ref_mine (w : World) (op : Int) : Calls Try.prog 12 #[.int .i64 op] w fun e w' => e = .returned (.bool (mineB op)) ∧ w = w' := by
  by_cases h1 : 1 ≤ op
  · have d1 : decide (1 ≤ op) = true := by simp; omega
    by_cases h7 : op ≤ 7
    · have d2 : decide (op ≤ 7) = true := by simp; omega
      have H : Hid (mineB op = true) := Lib.hid (by unfold mineB; rw [d1, d2]; rfl)
      go_enter Try.func12, Try.ntmps12
      go_wp2_with fail
      go_ret
      exact ⟨by rw [H.out]; rfl, rfl⟩
    · have d2 : decide (op ≤ 7) = false := by simp; omega
      have H : Hid (mineB op = (op == 16)) := Lib.hid (by unfold mineB; rw [d1, d2]; rfl)
      generalize hz : (op == 16) = z at *
      go_enter Try.func12, Try.ntmps12
      go_wp2_with fail
      go_ret
      exact ⟨by rw [H.out]; rfl, rfl⟩
  · have d1 : decide (1 ≤ op) = false := by simp; omega
    have H : Hid (mineB op = (op == 16)) := Lib.hid (by unfold mineB; rw [d1]; rfl)
    generalize hz : (op == 16) = z at *
    go_enter Try.func12, Try.ntmps12
    go_wp2_with fail
    go_ret
    exact ⟨by rw [H.out]; rfl, rfl⟩
end Go.Proofs.Ytgfigahamnokhaa
