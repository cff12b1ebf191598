/- What form and reg of the reference do. -/
import Derived.Test.YtgfigahamnokhaaCheck
set_option linter.unusedVariables false
set_option linter.unusedSimpArgs false
namespace Go.Proofs.Ytgfigahamnokhaa
open Go.RowKit
set_option maxRecDepth 100000

theorem ref_reg (w : World) (n : Int) : Calls Try.prog 30 #[.int .i64 n] w fun e w' => e = .returned (.bool (regB n)) ∧ w = w' := by
  by_cases h0 : 0 ≤ n
  · by_cases h8 : n < 8
    · have hr : regB n = true := by simp [regB, h0, h8]
      have Hr := Lib.hid hr
      clear hr
      go_enter Try.func30, Try.ntmps30
      go_wp2
      go_ret
      exact ⟨by rw [Hr.out]; rfl, rfl⟩
    · have hr : regB n = false := by simp [regB, h8]
      have Hr := Lib.hid hr
      have hd : decide (n < 8) = false := by simp; omega
      clear hr
      go_enter Try.func30, Try.ntmps30
      go_wp2
      go_ret
      exact ⟨by rw [Hr.out]; rfl, rfl⟩
  · have hr : regB n = false := by simp [regB, h0]
    have Hr := Lib.hid hr
    have hd : decide (0 ≤ n) = false := by simp; omega
    clear hr
    go_enter Try.func30, Try.ntmps30
    go_wp2
    go_ret
    exact ⟨by rw [Hr.out]; rfl, rfl⟩
/-- How each operation takes its three numbers. -/
def formsL : List Int := [2, 5, 0, 2, 1, 0, 6, 5, 0, 3, 0, 0, 1, 3, 0, 1, 0, 0, 0, 0, 0, 2, 4, 0, 2, 5, 0, 1, 1, 0, 1, 2, 2, 1, 0, 0, 1, 2, 0, 1, 2, 0, 2, 2, 2, 2, 0, 0, 2, 1, 2, 2, 1, 2, 2, 1, 4, 1, 2, 0, 1, 1, 2, 2, 1, 0, 2, 1, 1, 2, 1, 1, 2, 1, 0, 1, 1, 0, 1, 2, 0, 1, 2, 0, 1, 2, 0, 1, 2, 2, 2, 1, 4, 1, 2, 0]
def formB (op : Int) (k : Nat) : Int := formsL.getD (3 * (op - 1) + k).toNat 0
theorem form_1 (w : World) : Calls Try.prog 29 #[.int .i64 1] w fun e w' => e = .returned (.agg #[.int .i64 2, .int .i64 5, .int .i64 0]) ∧ Fr Nob w w' := by
  go_enter Try.func29, Try.ntmps29
  go_wp2_with fail
  have hb := heap_alloc_new w (.cells #[.int .i64 2, .int .i64 5, .int .i64 0] 43)
  have t0 := blk_cell hb 0 rfl
  have t1 := blk_cell hb 1 rfl
  have t2 := blk_cell hb 2 rfl
  exact bodyPost_ret (v := .agg #[.int .i64 2, .int .i64 5, .int .i64 0]) (by simp [results, Try.results29, go_sem, t0, t1, t2]) rfl ⟨rfl, (Fr.refl Nob w).alloc _⟩
theorem form_2 (w : World) : Calls Try.prog 29 #[.int .i64 2] w fun e w' => e = .returned (.agg #[.int .i64 2, .int .i64 1, .int .i64 0]) ∧ Fr Nob w w' := by
  go_enter Try.func29, Try.ntmps29
  go_wp2_with fail
  have hb := heap_alloc_new w (.cells #[.int .i64 2, .int .i64 1, .int .i64 0] 43)
  have t0 := blk_cell hb 0 rfl
  have t1 := blk_cell hb 1 rfl
  have t2 := blk_cell hb 2 rfl
  exact bodyPost_ret (v := .agg #[.int .i64 2, .int .i64 1, .int .i64 0]) (by simp [results, Try.results29, go_sem, t0, t1, t2]) rfl ⟨rfl, (Fr.refl Nob w).alloc _⟩
theorem form_3 (w : World) : Calls Try.prog 29 #[.int .i64 3] w fun e w' => e = .returned (.agg #[.int .i64 6, .int .i64 5, .int .i64 0]) ∧ Fr Nob w w' := by
  go_enter Try.func29, Try.ntmps29
  go_wp2_with fail
  have hb := heap_alloc_new w (.cells #[.int .i64 6, .int .i64 5, .int .i64 0] 43)
  have t0 := blk_cell hb 0 rfl
  have t1 := blk_cell hb 1 rfl
  have t2 := blk_cell hb 2 rfl
  exact bodyPost_ret (v := .agg #[.int .i64 6, .int .i64 5, .int .i64 0]) (by simp [results, Try.results29, go_sem, t0, t1, t2]) rfl ⟨rfl, (Fr.refl Nob w).alloc _⟩
theorem form_4 (w : World) : Calls Try.prog 29 #[.int .i64 4] w fun e w' => e = .returned (.agg #[.int .i64 3, .int .i64 0, .int .i64 0]) ∧ Fr Nob w w' := by
  go_enter Try.func29, Try.ntmps29
  go_wp2_with fail
  have hb := heap_alloc_new w (.cells #[.int .i64 3, .int .i64 0, .int .i64 0] 43)
  have t0 := blk_cell hb 0 rfl
  have t1 := blk_cell hb 1 rfl
  have t2 := blk_cell hb 2 rfl
  exact bodyPost_ret (v := .agg #[.int .i64 3, .int .i64 0, .int .i64 0]) (by simp [results, Try.results29, go_sem, t0, t1, t2]) rfl ⟨rfl, (Fr.refl Nob w).alloc _⟩
theorem form_5 (w : World) : Calls Try.prog 29 #[.int .i64 5] w fun e w' => e = .returned (.agg #[.int .i64 1, .int .i64 3, .int .i64 0]) ∧ Fr Nob w w' := by
  go_enter Try.func29, Try.ntmps29
  go_wp2_with fail
  have hb := heap_alloc_new w (.cells #[.int .i64 1, .int .i64 3, .int .i64 0] 43)
  have t0 := blk_cell hb 0 rfl
  have t1 := blk_cell hb 1 rfl
  have t2 := blk_cell hb 2 rfl
  exact bodyPost_ret (v := .agg #[.int .i64 1, .int .i64 3, .int .i64 0]) (by simp [results, Try.results29, go_sem, t0, t1, t2]) rfl ⟨rfl, (Fr.refl Nob w).alloc _⟩
theorem form_6 (w : World) : Calls Try.prog 29 #[.int .i64 6] w fun e w' => e = .returned (.agg #[.int .i64 1, .int .i64 0, .int .i64 0]) ∧ Fr Nob w w' := by
  go_enter Try.func29, Try.ntmps29
  go_wp2_with fail
  have hb := heap_alloc_new w (.cells #[.int .i64 1, .int .i64 0, .int .i64 0] 43)
  have t0 := blk_cell hb 0 rfl
  have t1 := blk_cell hb 1 rfl
  have t2 := blk_cell hb 2 rfl
  exact bodyPost_ret (v := .agg #[.int .i64 1, .int .i64 0, .int .i64 0]) (by simp [results, Try.results29, go_sem, t0, t1, t2]) rfl ⟨rfl, (Fr.refl Nob w).alloc _⟩
theorem form_7 (w : World) : Calls Try.prog 29 #[.int .i64 7] w fun e w' => e = .returned (.agg #[.int .i64 0, .int .i64 0, .int .i64 0]) ∧ Fr Nob w w' := by
  go_enter Try.func29, Try.ntmps29
  go_wp2_with fail
  have hb := heap_alloc_new w (.cells #[.int .i64 0, .int .i64 0, .int .i64 0] 43)
  have t0 := blk_cell hb 0 rfl
  have t1 := blk_cell hb 1 rfl
  have t2 := blk_cell hb 2 rfl
  exact bodyPost_ret (v := .agg #[.int .i64 0, .int .i64 0, .int .i64 0]) (by simp [results, Try.results29, go_sem, t0, t1, t2]) rfl ⟨rfl, (Fr.refl Nob w).alloc _⟩
theorem form_8 (w : World) : Calls Try.prog 29 #[.int .i64 8] w fun e w' => e = .returned (.agg #[.int .i64 2, .int .i64 4, .int .i64 0]) ∧ Fr Nob w w' := by
  go_enter Try.func29, Try.ntmps29
  go_wp2_with fail
  have hb := heap_alloc_new w (.cells #[.int .i64 2, .int .i64 4, .int .i64 0] 43)
  have t0 := blk_cell hb 0 rfl
  have t1 := blk_cell hb 1 rfl
  have t2 := blk_cell hb 2 rfl
  exact bodyPost_ret (v := .agg #[.int .i64 2, .int .i64 4, .int .i64 0]) (by simp [results, Try.results29, go_sem, t0, t1, t2]) rfl ⟨rfl, (Fr.refl Nob w).alloc _⟩
theorem form_9 (w : World) : Calls Try.prog 29 #[.int .i64 9] w fun e w' => e = .returned (.agg #[.int .i64 2, .int .i64 5, .int .i64 0]) ∧ Fr Nob w w' := by
  go_enter Try.func29, Try.ntmps29
  go_wp2_with fail
  have hb := heap_alloc_new w (.cells #[.int .i64 2, .int .i64 5, .int .i64 0] 43)
  have t0 := blk_cell hb 0 rfl
  have t1 := blk_cell hb 1 rfl
  have t2 := blk_cell hb 2 rfl
  exact bodyPost_ret (v := .agg #[.int .i64 2, .int .i64 5, .int .i64 0]) (by simp [results, Try.results29, go_sem, t0, t1, t2]) rfl ⟨rfl, (Fr.refl Nob w).alloc _⟩
theorem form_10 (w : World) : Calls Try.prog 29 #[.int .i64 10] w fun e w' => e = .returned (.agg #[.int .i64 1, .int .i64 1, .int .i64 0]) ∧ Fr Nob w w' := by
  go_enter Try.func29, Try.ntmps29
  go_wp2_with fail
  have hb := heap_alloc_new w (.cells #[.int .i64 1, .int .i64 1, .int .i64 0] 43)
  have t0 := blk_cell hb 0 rfl
  have t1 := blk_cell hb 1 rfl
  have t2 := blk_cell hb 2 rfl
  exact bodyPost_ret (v := .agg #[.int .i64 1, .int .i64 1, .int .i64 0]) (by simp [results, Try.results29, go_sem, t0, t1, t2]) rfl ⟨rfl, (Fr.refl Nob w).alloc _⟩
theorem form_11 (w : World) : Calls Try.prog 29 #[.int .i64 11] w fun e w' => e = .returned (.agg #[.int .i64 1, .int .i64 2, .int .i64 2]) ∧ Fr Nob w w' := by
  go_enter Try.func29, Try.ntmps29
  go_wp2_with fail
  have hb := heap_alloc_new w (.cells #[.int .i64 1, .int .i64 2, .int .i64 2] 43)
  have t0 := blk_cell hb 0 rfl
  have t1 := blk_cell hb 1 rfl
  have t2 := blk_cell hb 2 rfl
  exact bodyPost_ret (v := .agg #[.int .i64 1, .int .i64 2, .int .i64 2]) (by simp [results, Try.results29, go_sem, t0, t1, t2]) rfl ⟨rfl, (Fr.refl Nob w).alloc _⟩
theorem form_12 (w : World) : Calls Try.prog 29 #[.int .i64 12] w fun e w' => e = .returned (.agg #[.int .i64 1, .int .i64 0, .int .i64 0]) ∧ Fr Nob w w' := by
  go_enter Try.func29, Try.ntmps29
  go_wp2_with fail
  have hb := heap_alloc_new w (.cells #[.int .i64 1, .int .i64 0, .int .i64 0] 43)
  have t0 := blk_cell hb 0 rfl
  have t1 := blk_cell hb 1 rfl
  have t2 := blk_cell hb 2 rfl
  exact bodyPost_ret (v := .agg #[.int .i64 1, .int .i64 0, .int .i64 0]) (by simp [results, Try.results29, go_sem, t0, t1, t2]) rfl ⟨rfl, (Fr.refl Nob w).alloc _⟩
theorem form_13 (w : World) : Calls Try.prog 29 #[.int .i64 13] w fun e w' => e = .returned (.agg #[.int .i64 1, .int .i64 2, .int .i64 0]) ∧ Fr Nob w w' := by
  go_enter Try.func29, Try.ntmps29
  go_wp2_with fail
  have hb := heap_alloc_new w (.cells #[.int .i64 1, .int .i64 2, .int .i64 0] 43)
  have t0 := blk_cell hb 0 rfl
  have t1 := blk_cell hb 1 rfl
  have t2 := blk_cell hb 2 rfl
  exact bodyPost_ret (v := .agg #[.int .i64 1, .int .i64 2, .int .i64 0]) (by simp [results, Try.results29, go_sem, t0, t1, t2]) rfl ⟨rfl, (Fr.refl Nob w).alloc _⟩
theorem form_14 (w : World) : Calls Try.prog 29 #[.int .i64 14] w fun e w' => e = .returned (.agg #[.int .i64 1, .int .i64 2, .int .i64 0]) ∧ Fr Nob w w' := by
  go_enter Try.func29, Try.ntmps29
  go_wp2_with fail
  have hb := heap_alloc_new w (.cells #[.int .i64 1, .int .i64 2, .int .i64 0] 43)
  have t0 := blk_cell hb 0 rfl
  have t1 := blk_cell hb 1 rfl
  have t2 := blk_cell hb 2 rfl
  exact bodyPost_ret (v := .agg #[.int .i64 1, .int .i64 2, .int .i64 0]) (by simp [results, Try.results29, go_sem, t0, t1, t2]) rfl ⟨rfl, (Fr.refl Nob w).alloc _⟩
theorem form_15 (w : World) : Calls Try.prog 29 #[.int .i64 15] w fun e w' => e = .returned (.agg #[.int .i64 2, .int .i64 2, .int .i64 2]) ∧ Fr Nob w w' := by
  go_enter Try.func29, Try.ntmps29
  go_wp2_with fail
  have hb := heap_alloc_new w (.cells #[.int .i64 2, .int .i64 2, .int .i64 2] 43)
  have t0 := blk_cell hb 0 rfl
  have t1 := blk_cell hb 1 rfl
  have t2 := blk_cell hb 2 rfl
  exact bodyPost_ret (v := .agg #[.int .i64 2, .int .i64 2, .int .i64 2]) (by simp [results, Try.results29, go_sem, t0, t1, t2]) rfl ⟨rfl, (Fr.refl Nob w).alloc _⟩
theorem form_16 (w : World) : Calls Try.prog 29 #[.int .i64 16] w fun e w' => e = .returned (.agg #[.int .i64 2, .int .i64 0, .int .i64 0]) ∧ Fr Nob w w' := by
  go_enter Try.func29, Try.ntmps29
  go_wp2_with fail
  have hb := heap_alloc_new w (.cells #[.int .i64 2, .int .i64 0, .int .i64 0] 43)
  have t0 := blk_cell hb 0 rfl
  have t1 := blk_cell hb 1 rfl
  have t2 := blk_cell hb 2 rfl
  exact bodyPost_ret (v := .agg #[.int .i64 2, .int .i64 0, .int .i64 0]) (by simp [results, Try.results29, go_sem, t0, t1, t2]) rfl ⟨rfl, (Fr.refl Nob w).alloc _⟩
theorem form_17 (w : World) : Calls Try.prog 29 #[.int .i64 17] w fun e w' => e = .returned (.agg #[.int .i64 2, .int .i64 1, .int .i64 2]) ∧ Fr Nob w w' := by
  go_enter Try.func29, Try.ntmps29
  go_wp2_with fail
  have hb := heap_alloc_new w (.cells #[.int .i64 2, .int .i64 1, .int .i64 2] 43)
  have t0 := blk_cell hb 0 rfl
  have t1 := blk_cell hb 1 rfl
  have t2 := blk_cell hb 2 rfl
  exact bodyPost_ret (v := .agg #[.int .i64 2, .int .i64 1, .int .i64 2]) (by simp [results, Try.results29, go_sem, t0, t1, t2]) rfl ⟨rfl, (Fr.refl Nob w).alloc _⟩
theorem form_18 (w : World) : Calls Try.prog 29 #[.int .i64 18] w fun e w' => e = .returned (.agg #[.int .i64 2, .int .i64 1, .int .i64 2]) ∧ Fr Nob w w' := by
  go_enter Try.func29, Try.ntmps29
  go_wp2_with fail
  have hb := heap_alloc_new w (.cells #[.int .i64 2, .int .i64 1, .int .i64 2] 43)
  have t0 := blk_cell hb 0 rfl
  have t1 := blk_cell hb 1 rfl
  have t2 := blk_cell hb 2 rfl
  exact bodyPost_ret (v := .agg #[.int .i64 2, .int .i64 1, .int .i64 2]) (by simp [results, Try.results29, go_sem, t0, t1, t2]) rfl ⟨rfl, (Fr.refl Nob w).alloc _⟩
theorem form_19 (w : World) : Calls Try.prog 29 #[.int .i64 19] w fun e w' => e = .returned (.agg #[.int .i64 2, .int .i64 1, .int .i64 4]) ∧ Fr Nob w w' := by
  go_enter Try.func29, Try.ntmps29
  go_wp2_with fail
  have hb := heap_alloc_new w (.cells #[.int .i64 2, .int .i64 1, .int .i64 4] 43)
  have t0 := blk_cell hb 0 rfl
  have t1 := blk_cell hb 1 rfl
  have t2 := blk_cell hb 2 rfl
  exact bodyPost_ret (v := .agg #[.int .i64 2, .int .i64 1, .int .i64 4]) (by simp [results, Try.results29, go_sem, t0, t1, t2]) rfl ⟨rfl, (Fr.refl Nob w).alloc _⟩
theorem form_20 (w : World) : Calls Try.prog 29 #[.int .i64 20] w fun e w' => e = .returned (.agg #[.int .i64 1, .int .i64 2, .int .i64 0]) ∧ Fr Nob w w' := by
  go_enter Try.func29, Try.ntmps29
  go_wp2_with fail
  have hb := heap_alloc_new w (.cells #[.int .i64 1, .int .i64 2, .int .i64 0] 43)
  have t0 := blk_cell hb 0 rfl
  have t1 := blk_cell hb 1 rfl
  have t2 := blk_cell hb 2 rfl
  exact bodyPost_ret (v := .agg #[.int .i64 1, .int .i64 2, .int .i64 0]) (by simp [results, Try.results29, go_sem, t0, t1, t2]) rfl ⟨rfl, (Fr.refl Nob w).alloc _⟩
theorem form_21 (w : World) : Calls Try.prog 29 #[.int .i64 21] w fun e w' => e = .returned (.agg #[.int .i64 1, .int .i64 1, .int .i64 2]) ∧ Fr Nob w w' := by
  go_enter Try.func29, Try.ntmps29
  go_wp2_with fail
  have hb := heap_alloc_new w (.cells #[.int .i64 1, .int .i64 1, .int .i64 2] 43)
  have t0 := blk_cell hb 0 rfl
  have t1 := blk_cell hb 1 rfl
  have t2 := blk_cell hb 2 rfl
  exact bodyPost_ret (v := .agg #[.int .i64 1, .int .i64 1, .int .i64 2]) (by simp [results, Try.results29, go_sem, t0, t1, t2]) rfl ⟨rfl, (Fr.refl Nob w).alloc _⟩
theorem form_22 (w : World) : Calls Try.prog 29 #[.int .i64 22] w fun e w' => e = .returned (.agg #[.int .i64 2, .int .i64 1, .int .i64 0]) ∧ Fr Nob w w' := by
  go_enter Try.func29, Try.ntmps29
  go_wp2_with fail
  have hb := heap_alloc_new w (.cells #[.int .i64 2, .int .i64 1, .int .i64 0] 43)
  have t0 := blk_cell hb 0 rfl
  have t1 := blk_cell hb 1 rfl
  have t2 := blk_cell hb 2 rfl
  exact bodyPost_ret (v := .agg #[.int .i64 2, .int .i64 1, .int .i64 0]) (by simp [results, Try.results29, go_sem, t0, t1, t2]) rfl ⟨rfl, (Fr.refl Nob w).alloc _⟩
theorem form_23 (w : World) : Calls Try.prog 29 #[.int .i64 23] w fun e w' => e = .returned (.agg #[.int .i64 2, .int .i64 1, .int .i64 1]) ∧ Fr Nob w w' := by
  go_enter Try.func29, Try.ntmps29
  go_wp2_with fail
  have hb := heap_alloc_new w (.cells #[.int .i64 2, .int .i64 1, .int .i64 1] 43)
  have t0 := blk_cell hb 0 rfl
  have t1 := blk_cell hb 1 rfl
  have t2 := blk_cell hb 2 rfl
  exact bodyPost_ret (v := .agg #[.int .i64 2, .int .i64 1, .int .i64 1]) (by simp [results, Try.results29, go_sem, t0, t1, t2]) rfl ⟨rfl, (Fr.refl Nob w).alloc _⟩
theorem form_24 (w : World) : Calls Try.prog 29 #[.int .i64 24] w fun e w' => e = .returned (.agg #[.int .i64 2, .int .i64 1, .int .i64 1]) ∧ Fr Nob w w' := by
  go_enter Try.func29, Try.ntmps29
  go_wp2_with fail
  have hb := heap_alloc_new w (.cells #[.int .i64 2, .int .i64 1, .int .i64 1] 43)
  have t0 := blk_cell hb 0 rfl
  have t1 := blk_cell hb 1 rfl
  have t2 := blk_cell hb 2 rfl
  exact bodyPost_ret (v := .agg #[.int .i64 2, .int .i64 1, .int .i64 1]) (by simp [results, Try.results29, go_sem, t0, t1, t2]) rfl ⟨rfl, (Fr.refl Nob w).alloc _⟩
theorem form_25 (w : World) : Calls Try.prog 29 #[.int .i64 25] w fun e w' => e = .returned (.agg #[.int .i64 2, .int .i64 1, .int .i64 0]) ∧ Fr Nob w w' := by
  go_enter Try.func29, Try.ntmps29
  go_wp2_with fail
  have hb := heap_alloc_new w (.cells #[.int .i64 2, .int .i64 1, .int .i64 0] 43)
  have t0 := blk_cell hb 0 rfl
  have t1 := blk_cell hb 1 rfl
  have t2 := blk_cell hb 2 rfl
  exact bodyPost_ret (v := .agg #[.int .i64 2, .int .i64 1, .int .i64 0]) (by simp [results, Try.results29, go_sem, t0, t1, t2]) rfl ⟨rfl, (Fr.refl Nob w).alloc _⟩
theorem form_26 (w : World) : Calls Try.prog 29 #[.int .i64 26] w fun e w' => e = .returned (.agg #[.int .i64 1, .int .i64 1, .int .i64 0]) ∧ Fr Nob w w' := by
  go_enter Try.func29, Try.ntmps29
  go_wp2_with fail
  have hb := heap_alloc_new w (.cells #[.int .i64 1, .int .i64 1, .int .i64 0] 43)
  have t0 := blk_cell hb 0 rfl
  have t1 := blk_cell hb 1 rfl
  have t2 := blk_cell hb 2 rfl
  exact bodyPost_ret (v := .agg #[.int .i64 1, .int .i64 1, .int .i64 0]) (by simp [results, Try.results29, go_sem, t0, t1, t2]) rfl ⟨rfl, (Fr.refl Nob w).alloc _⟩
theorem form_27 (w : World) : Calls Try.prog 29 #[.int .i64 27] w fun e w' => e = .returned (.agg #[.int .i64 1, .int .i64 2, .int .i64 0]) ∧ Fr Nob w w' := by
  go_enter Try.func29, Try.ntmps29
  go_wp2_with fail
  have hb := heap_alloc_new w (.cells #[.int .i64 1, .int .i64 2, .int .i64 0] 43)
  have t0 := blk_cell hb 0 rfl
  have t1 := blk_cell hb 1 rfl
  have t2 := blk_cell hb 2 rfl
  exact bodyPost_ret (v := .agg #[.int .i64 1, .int .i64 2, .int .i64 0]) (by simp [results, Try.results29, go_sem, t0, t1, t2]) rfl ⟨rfl, (Fr.refl Nob w).alloc _⟩
theorem form_28 (w : World) : Calls Try.prog 29 #[.int .i64 28] w fun e w' => e = .returned (.agg #[.int .i64 1, .int .i64 2, .int .i64 0]) ∧ Fr Nob w w' := by
  go_enter Try.func29, Try.ntmps29
  go_wp2_with fail
  have hb := heap_alloc_new w (.cells #[.int .i64 1, .int .i64 2, .int .i64 0] 43)
  have t0 := blk_cell hb 0 rfl
  have t1 := blk_cell hb 1 rfl
  have t2 := blk_cell hb 2 rfl
  exact bodyPost_ret (v := .agg #[.int .i64 1, .int .i64 2, .int .i64 0]) (by simp [results, Try.results29, go_sem, t0, t1, t2]) rfl ⟨rfl, (Fr.refl Nob w).alloc _⟩
theorem form_29 (w : World) : Calls Try.prog 29 #[.int .i64 29] w fun e w' => e = .returned (.agg #[.int .i64 1, .int .i64 2, .int .i64 0]) ∧ Fr Nob w w' := by
  go_enter Try.func29, Try.ntmps29
  go_wp2_with fail
  have hb := heap_alloc_new w (.cells #[.int .i64 1, .int .i64 2, .int .i64 0] 43)
  have t0 := blk_cell hb 0 rfl
  have t1 := blk_cell hb 1 rfl
  have t2 := blk_cell hb 2 rfl
  exact bodyPost_ret (v := .agg #[.int .i64 1, .int .i64 2, .int .i64 0]) (by simp [results, Try.results29, go_sem, t0, t1, t2]) rfl ⟨rfl, (Fr.refl Nob w).alloc _⟩
theorem form_30 (w : World) : Calls Try.prog 29 #[.int .i64 30] w fun e w' => e = .returned (.agg #[.int .i64 1, .int .i64 2, .int .i64 2]) ∧ Fr Nob w w' := by
  go_enter Try.func29, Try.ntmps29
  go_wp2_with fail
  have hb := heap_alloc_new w (.cells #[.int .i64 1, .int .i64 2, .int .i64 2] 43)
  have t0 := blk_cell hb 0 rfl
  have t1 := blk_cell hb 1 rfl
  have t2 := blk_cell hb 2 rfl
  exact bodyPost_ret (v := .agg #[.int .i64 1, .int .i64 2, .int .i64 2]) (by simp [results, Try.results29, go_sem, t0, t1, t2]) rfl ⟨rfl, (Fr.refl Nob w).alloc _⟩
theorem form_31 (w : World) : Calls Try.prog 29 #[.int .i64 31] w fun e w' => e = .returned (.agg #[.int .i64 2, .int .i64 1, .int .i64 4]) ∧ Fr Nob w w' := by
  go_enter Try.func29, Try.ntmps29
  go_wp2_with fail
  have hb := heap_alloc_new w (.cells #[.int .i64 2, .int .i64 1, .int .i64 4] 43)
  have t0 := blk_cell hb 0 rfl
  have t1 := blk_cell hb 1 rfl
  have t2 := blk_cell hb 2 rfl
  exact bodyPost_ret (v := .agg #[.int .i64 2, .int .i64 1, .int .i64 4]) (by simp [results, Try.results29, go_sem, t0, t1, t2]) rfl ⟨rfl, (Fr.refl Nob w).alloc _⟩
theorem form_32 (w : World) : Calls Try.prog 29 #[.int .i64 32] w fun e w' => e = .returned (.agg #[.int .i64 1, .int .i64 2, .int .i64 0]) ∧ Fr Nob w w' := by
  go_enter Try.func29, Try.ntmps29
  go_wp2_with fail
  have hb := heap_alloc_new w (.cells #[.int .i64 1, .int .i64 2, .int .i64 0] 43)
  have t0 := blk_cell hb 0 rfl
  have t1 := blk_cell hb 1 rfl
  have t2 := blk_cell hb 2 rfl
  exact bodyPost_ret (v := .agg #[.int .i64 1, .int .i64 2, .int .i64 0]) (by simp [results, Try.results29, go_sem, t0, t1, t2]) rfl ⟨rfl, (Fr.refl Nob w).alloc _⟩
theorem form_any (w : World) (op : Int) (h1 : 1 ≤ op) (h2 : op ≤ 32) : Calls Try.prog 29 #[.int .i64 op] w fun e w' => e = .returned (.agg #[.int .i64 (formB op 0), .int .i64 (formB op 1), .int .i64 (formB op 2)]) ∧ Fr Nob w w' := by
  rcases (by omega : op = 1 ∨ op = 2 ∨ op = 3 ∨ op = 4 ∨ op = 5 ∨ op = 6 ∨ op = 7 ∨ op = 8 ∨ op = 9 ∨ op = 10 ∨ op = 11 ∨ op = 12 ∨ op = 13 ∨ op = 14 ∨ op = 15 ∨ op = 16 ∨ op = 17 ∨ op = 18 ∨ op = 19 ∨ op = 20 ∨ op = 21 ∨ op = 22 ∨ op = 23 ∨ op = 24 ∨ op = 25 ∨ op = 26 ∨ op = 27 ∨ op = 28 ∨ op = 29 ∨ op = 30 ∨ op = 31 ∨ op = 32) with rfl | rfl | rfl | rfl | rfl | rfl | rfl | rfl | rfl | rfl | rfl | rfl | rfl | rfl | rfl | rfl | rfl | rfl | rfl | rfl | rfl | rfl | rfl | rfl | rfl | rfl | rfl | rfl | rfl | rfl | rfl | rfl
  · exact form_1 w
  · exact form_2 w
  · exact form_3 w
  · exact form_4 w
  · exact form_5 w
  · exact form_6 w
  · exact form_7 w
  · exact form_8 w
  · exact form_9 w
  · exact form_10 w
  · exact form_11 w
  · exact form_12 w
  · exact form_13 w
  · exact form_14 w
  · exact form_15 w
  · exact form_16 w
  · exact form_17 w
  · exact form_18 w
  · exact form_19 w
  · exact form_20 w
  · exact form_21 w
  · exact form_22 w
  · exact form_23 w
  · exact form_24 w
  · exact form_25 w
  · exact form_26 w
  · exact form_27 w
  · exact form_28 w
  · exact form_29 w
  · exact form_30 w
  · exact form_31 w
  · exact form_32 w
end Go.Proofs.Ytgfigahamnokhaa
