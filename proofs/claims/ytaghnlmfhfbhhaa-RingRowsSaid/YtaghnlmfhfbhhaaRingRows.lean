/- RingRows answers true whatever its three numbers are: no condition. -/
import Derived.Test.YtaghnlmfhfbhhaaOpen
import Derived.Test.YtaghnlmfhfbhhaaRing
import Derived.Test.YtaghnlmfhfbhhaaAlike
import Derived.Test.YtaghnlmfhfbhhaaRingAwake
set_option linter.unusedVariables false
set_option linter.unusedSimpArgs false
namespace Go.Proofs.Ytaghnlmfhfbhhaa
open Go.RowKit

set_option maxHeartbeats 1000000 in
theorem ringRows_bad (size n ahead : Int) (w : World) (h : size < 1 ∨ 64 < size ∨ n < 0 ∨ 500 < n) :
    Calls Try.prog 7 #[.int .i64 size, .int .i64 n, .int .i64 ahead] w fun e w' => e = .returned (.bool true) ∧ Below w.heap.size w w' := by
  go_enter Try.func7, Try.ntmps7
  go_wp2_with fail
  all_goals
    refine (ring_awake w).mono ?_
    rintro e w' ⟨rfl, hf⟩
    go_wp2_with fail
    go_ret
    exact ⟨rfl, hf.below (Nat.le_refl _) fun _ q => q.elim⟩

/-- The values 100 + lo, .., 100 + hi - 1. -/
def run100 (lo hi : Nat) : List Int := (List.range' lo (hi - lo)).map fun (i : Nat) => 100 + (i : Int)
theorem run100_len (lo hi : Nat) : (run100 lo hi).length = hi - lo := by simp [run100]
theorem run100_snoc (lo hi : Nat) (h : lo ≤ hi) : run100 lo hi ++ [100 + (hi : Int)] = run100 lo (hi + 1) := by
  unfold run100
  rw [show hi + 1 - lo = (hi - lo) + 1 by omega, List.range'_concat, List.map_append]
  simp; omega
theorem run100_cons (lo hi : Nat) (h : lo < hi) : run100 lo hi = (100 + (lo : Int)) :: run100 (lo + 1) hi := by
  unfold run100
  rw [show hi - lo = (hi - (lo + 1)) + 1 by omega, List.range'_succ]
  simp

set_option maxHeartbeats 1000000 in
theorem ringRows_walk (size n ahead : Int) (w0 : (Lit.int .i64 size).wf = true) (w1 : (Lit.int .i64 n).wf = true) (w2 : (Lit.int .i64 ahead).wf = true) (w : World) :
    Calls Try.prog 7 #[.int .i64 size, .int .i64 n, .int .i64 ahead] w fun e w' => e = .returned (.bool true) ∧ Below w.heap.size w w' := by
  clear w0 w1 w2
  by_cases hbad : size < 1 ∨ 64 < size ∨ n < 0 ∨ 500 < n
  · exact ringRows_bad size n ahead w hbad
  · obtain ⟨s, rfl⟩ := Int.eq_ofNat_of_zero_le (show 0 ≤ size by omega)
    obtain ⟨m, rfl⟩ := Int.eq_ofNat_of_zero_le (show 0 ≤ n by omega)
    have hs : 1 ≤ s ∧ s ≤ 64 := by omega
    have hm : m ≤ 500 := by omega
    have h1 : ¬ (s : Int) < 1 := by omega
    have h2 : ¬ (64 : Int) < s := by omega
    have h3 : ¬ (m : Int) < 0 := by omega
    have h4 : ¬ (500 : Int) < m := by omega
    clear hbad
    go_enter Try.func7, Try.ntmps7
    go_wp2_with fail
    refine (ring_new_good s w hs.2).mono ?_
    rintro e w1 ⟨b, rfl, hf1, hr1⟩
    go_wp2_with fail
    refine (alike_round w1 ahead s (by omega) (by omega)).mono ?_
    rintro e w2 ⟨rfl, rfl⟩
    have hk1 := Int.emod_nonneg ahead (show (s : Int) ≠ 0 by omega)
    have hk2 := Int.emod_lt_of_pos ahead (show 0 < (s : Int) by omega)
    obtain ⟨k, hk⟩ := Int.eq_ofNat_of_zero_le hk1
    rw [hk] at hk2 ⊢
    clear hk hk1
    have hks : k < s := by omega
    go_wp2_with fail
    go_loopw [10, 11] (fun gt i wr => ∃ g j : Nat, gt = .int .i64 g ∧ i = .int .i64 j ∧ g ≤ j ∧ j ≤ m ∧ j - g ≤ k ∧ Fr (From w.heap.size) w wr ∧ RingAt wr (From w.heap.size) b s (run100 g j)) (fun _ i _ => m - (intOf i).toNat)
    case atStart => exact ⟨0, 0, rfl, rfl, Nat.le_refl _, Nat.zero_le _, Nat.zero_le _, hf1.none, hr1⟩
    case round =>
      obtain ⟨g, j, rfl, rfl, hgj, hj, hgk, hfr, hr⟩ := hrel
      by_cases hlt : j < m
      · have Hfr := Lib.hid hfr
        have hl := run100_len g j
        by_cases hfull : j + 1 - g = k + 1
        · have e1 : ((j : Int) + 1 - g == k + 1) = true := by simp; omega
          go_wp2_with fail
          refine (ring_push_yes wr _ b s _ _ hr (by omega)).mono ?_
          rintro e w3 ⟨rfl, hf3, hr3⟩
          rw [run100_snoc g j hgj] at hr3
          go_wp2_with fail
          refine (ring_len _ _ b s _ hr3).mono ?_
          rintro e w4 ⟨rfl, rfl⟩
          rw [run100_len, hfull]
          rw [run100_cons g (j+1) (by omega)] at hr3
          go_wp2_with fail
          refine (ring_pop_some _ _ b s _ _ hr3).mono ?_
          rintro e w4 ⟨rfl, hf4, hr4⟩
          go_wp2_with fail
          go_roundw
          case rel => exact ⟨g + 1, j + 1, by go_num, by go_num, by omega, by omega, by omega, (Hfr.out.trans0 hf3).trans0 hf4, hr4⟩
          case measure => simp [intOf]; omega
        · have e1 : (((j + 1 - g : Nat) : Int) == 1 + (k : Int)) = false := by simp; omega
          go_wp2_with fail
          refine (ring_push_yes wr _ b s _ _ hr (by omega)).mono ?_
          rintro e w3 ⟨rfl, hf3, hr3⟩
          rw [run100_snoc g j hgj] at hr3
          go_wp2_with fail
          refine (ring_len _ _ b s _ hr3).mono ?_
          rintro e w4 ⟨rfl, rfl⟩
          rw [run100_len]
          go_wp2_with fail
          go_roundw
          case rel => exact ⟨g, j + 1, rfl, by go_num, by omega, by omega, by omega, Hfr.out.trans0 hf3, hr3⟩
          case measure => simp [intOf]; omega
      · obtain rfl : j = m := by omega
        have hjg : ((j - g : Nat) : Int) = (j : Int) - g := by omega
        have Hj := Lib.hid hjg; clear hjg
        have Hfr := Lib.hid hfr
        go_wp2_with fail
        refine (ring_len _ _ b s _ hr).mono ?_
        rintro e w4 ⟨rfl, rfl⟩
        rw [run100_len, Hj.out]
        go_wp2_with fail
        refine (ring_awake wr).mono ?_
        rintro e w' ⟨rfl, hf⟩
        go_wp2_with fail
        go_ret
        exact ⟨rfl, (Hfr.out.trans0 hf.none).below (Nat.le_refl _) fun _ q => q⟩

/-! The row: out of the walk above. -/
namespace ringRows
open Go.ChangeShapes Go.WideShapes Go.ChangeAt Go.RowKit
open Go.ChangeMaps (open_string shut_string)
theorem own : ownKnob Try.prog.godebug = none := by kernel_rfl
theorem laidOut : laidOutB Try.prog = true := by kernel_rfl
set_option maxRecDepth 100000 in
theorem lifted (os : Os) (started : os.Started) (H : Type) (enc : TypeId × Value → H) :
    ReturnsInHanded {} Try.checked os 7 .any (Rows.ringRowsSpec.pre6 enc Try.prog Try.f7 Rows.ringRowsRow.domain false) (Rows.ringRowsSpec.post enc Try.prog Try.f7 false true false false) := by
  refine returnsInHanded_of_change (C := Try.checked) own started (by kernel_rfl) Try.func7
    (ChangeSpec.witness6 (enc := enc) (C := Try.checked) false ⟨#[], #[.int .i64 0, .int .i64 0, .int .i64 0], []⟩ 8 (by kernel_rfl) (by kernel_rfl) (by kernel_rfl) (by kernel_rfl)) ?_
  intro W base args ds gs before hval0 hW hcnd _
  have hval : ∀ (j : Nat) t v, Try.f7.params[j]? = some t → args[j]? = some v → Value.okWide Try.prog W .any base t v := hval0
  have hW' := hW
  obtain ⟨p, q, hA0, hV, rfl, hfz, hnd⟩ := hW
  have hA : DataW.TrodAll enc Try.prog W 0 (fun _ => true) true Try.f7.params.toList args.toList ds p := hA0
  rw [Try.params7] at hA hval
  obtain ⟨v0, vs0, d0, ds0, p0, q0, hargs, rfl, rfl, h0, r0⟩ := trodAll_cons hA
  obtain ⟨v1, vs1, d1, ds1, p1, q1, rfl, rfl, rfl, h1, r1⟩ := trodAll_cons r0
  obtain ⟨v2, vs2, d2, ds2, p2, q2, rfl, rfl, rfl, h2, r2⟩ := trodAll_cons r1
  obtain ⟨rfl, rfl, rfl⟩ := trodAll_nil r2
  obtain rfl : args = #[v0, v1, v2] := by cases args; simp_all
  obtain ⟨rfl, rfl⟩ := trodVars_none hV
  obtain ⟨a0, rfl, rfl, rfl, w0⟩ := open_int Try.underlying3 (hval 0 3 v0 rfl rfl) h0
  obtain ⟨a1, rfl, rfl, rfl, w1⟩ := open_int Try.underlying3 (hval 1 3 v1 rfl rfl) h1
  obtain ⟨a2, rfl, rfl, rfl, w2⟩ := open_int Try.underlying3 (hval 2 3 v2 rfl rfl) h2
  clear hA0 hval0
  refine (ringRows_walk a0 a1 a2 w0 w1 w2 W).mono fun e W' ⟨he, bel⟩ => ?_
  subst he
  exact ⟨_, rfl, _, _, _, [], _, [], hW', trodAll_mk1 (shut_bool Try.underlying4 _), (trodAll_cons_mk (shut_int Try.underlying3 w0) (trodAll_cons_mk (shut_int Try.underlying3 w1) (trodAll_cons_mk (shut_int Try.underlying3 w2) trodAll_mk0))), rfl, bel.frame _, fun h => by cases h⟩
theorem over : Rows.ringRowsRow.holds Try.pinned (OpenSpec.ofChange Rows.ringRowsSpec) :=
  OpenClaim.holds_of_wide 7 Try.f7 rfl rfl rfl rfl rfl rfl rfl ⟨rfl, rfl, rfl, rfl, rfl⟩ rfl rfl rfl rfl rfl (by kernel_rfl) Try.func7 (by kernel_rfl)
    (of_decide_eq_true (by kernel_rfl)) (by unfold Func.isWrapper; first | (rw [if_pos (by decide +kernel)]; kernel_rfl) | (rw [if_neg (by decide +kernel)]; exact ⟨rfl, rfl⟩))
    (fun os started H enc _ => lifted os started H enc)
end ringRows
/-- THE STATEMENT. -/
theorem ringRows_holds : Rows.RingRowsSaid := ringRows.over
#print axioms ringRows_holds
end Go.Proofs.Ytaghnlmfhfbhhaa
