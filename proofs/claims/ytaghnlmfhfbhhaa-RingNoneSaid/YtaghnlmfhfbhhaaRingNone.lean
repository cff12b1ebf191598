/- RingNone answers true at every size and value, and its arguments read as they did: no condition. -/
import Derived.Test.YtaghnlmfhfbhhaaOpen
import Derived.Test.YtaghnlmfhfbhhaaRing
import Derived.Test.YtaghnlmfhfbhhaaAlike
import Derived.Test.YtaghnlmfhfbhhaaRingAwake
set_option linter.unusedVariables false
set_option linter.unusedSimpArgs false
namespace Go.Proofs.Ytaghnlmfhfbhhaa
open Go.RowKit

set_option maxHeartbeats 1000000 in
theorem ringNone_walk (size v : Int) (w0 : (Lit.int .i64 size).wf = true) (w1 : (Lit.int .i64 v).wf = true) (w : World) :
    Calls Try.prog 9 #[.int .i64 size, .int .i64 v] w fun e w' => e = .returned (.bool true) ∧ Below w.heap.size w w' := by
  clear w0 w1
  by_cases hbad : size < 0 ∨ 64 < size
  · have hb := hbad
    rcases hb with h | h
    · go_enter Try.func9, Try.ntmps9
      go_wp2_with fail
      refine (ring_new_bad size w hbad).mono ?_
      rintro e w' ⟨rfl, rfl⟩
      go_wp2_with fail
      refine (ring_awake w).mono ?_
      rintro e w' ⟨rfl, hf⟩
      go_wp2_with fail
      go_ret
      exact ⟨rfl, hf.below (Nat.le_refl _) fun _ q => q.elim⟩
    · have h' : ¬ size < 0 := by omega
      go_enter Try.func9, Try.ntmps9
      go_wp2_with fail
      refine (ring_new_bad size w hbad).mono ?_
      rintro e w' ⟨rfl, rfl⟩
      go_wp2_with fail
      refine (ring_awake w).mono ?_
      rintro e w' ⟨rfl, hf⟩
      go_wp2_with fail
      go_ret
      exact ⟨rfl, hf.below (Nat.le_refl _) fun _ q => q.elim⟩
  · obtain ⟨n, rfl⟩ := Int.eq_ofNat_of_zero_le (show 0 ≤ size by omega)
    have hn : n ≤ 64 := by omega
    have h0 : ¬ (n : Int) < 0 := by omega
    clear hbad
    have e1 : ((n : Int) != n) = false := by simp
    by_cases hz : 0 < n
    · have hz' : (0 : Int) < n := by omega
      go_enter Try.func9, Try.ntmps9
      go_wp2_with fail
      refine (ring_new_good n w hn).mono ?_
      rintro e w1 ⟨b, rfl, hf1, hr1⟩
      go_wp2_with fail
      refine (ring_size w1 _ b n [] hr1).mono ?_
      rintro e w2 ⟨rfl, rfl⟩
      go_wp2_with fail
      refine (ring_push_yes w1 _ b n [] v hr1 hz).mono ?_
      rintro e w2 ⟨rfl, hf2, hr2⟩
      go_wp2_with fail
      refine (ring_pop_some w2 _ b n v [] hr2).mono ?_
      rintro e w3 ⟨rfl, hf3, hr3⟩
      go_wp2_with fail
      refine (ring_len w3 _ b n [] hr3).mono ?_
      rintro e w4 ⟨rfl, rfl⟩
      go_wp2_with fail
      refine (ring_awake w3).mono ?_
      rintro e w5 ⟨rfl, hf5⟩
      go_wp2_with fail
      go_ret
      refine ⟨rfl, ?_⟩
      exact Fr.below ((((hf1.mono fun _ _ q => q.elim).trans0 hf2).trans0 hf3).trans hf5 fun _ _ q => q.elim) (Nat.le_refl _) fun _ q => q
    · obtain rfl : n = 0 := by omega
      go_enter Try.func9, Try.ntmps9
      go_wp2_with fail
      refine (ring_new_good 0 w hn).mono ?_
      rintro e w1 ⟨b, rfl, hf1, hr1⟩
      go_wp2_with fail
      refine (ring_size w1 _ b 0 [] hr1).mono ?_
      rintro e w2 ⟨rfl, rfl⟩
      go_wp2_with fail
      refine (ring_push_no w1 _ b 0 [] v hr1 rfl).mono ?_
      rintro e w2 ⟨rfl, hq2⟩
      have hf2 := Fr.ofDrew hq2; clear hq2
      have hr2 := hr1.fr hf2 fun _ _ _ q => q
      go_wp2_with fail
      refine (ring_pop_none _ _ b 0 hr2).mono ?_
      rintro e w3 ⟨rfl, hq3⟩
      have hf3 := Fr.ofDrew hq3; clear hq3
      have hr3 := hr2.fr hf3 fun _ _ _ q => q
      go_wp2_with fail
      refine (ring_len _ _ b 0 [] hr3).mono ?_
      rintro e w4 ⟨rfl, rfl⟩
      go_wp2_with fail
      refine (ring_awake _).mono ?_
      rintro e w5 ⟨rfl, hf5⟩
      go_wp2_with fail
      go_ret
      exact ⟨rfl, Fr.below (((hf1.trans0 hf2).trans0 hf3).trans0 hf5) (Nat.le_refl _) fun _ q => q.elim⟩

/-! The row: out of the walk above. -/
namespace ringNone
open Go.ChangeShapes Go.WideShapes Go.ChangeAt Go.RowKit
open Go.ChangeMaps (open_string shut_string)
theorem own : ownKnob Try.prog.godebug = none := by kernel_rfl
theorem laidOut : laidOutB Try.prog = true := by kernel_rfl
set_option maxRecDepth 100000 in
theorem lifted (os : Os) (started : os.Started) (H : Type) (enc : TypeId × Value → H) :
    ReturnsInHanded {} Try.checked os 9 .any (Rows.ringNoneSpec.pre6 enc Try.prog Try.f9 Rows.ringNoneRow.domain false) (Rows.ringNoneSpec.post enc Try.prog Try.f9 false true false false) := by
  refine returnsInHanded_of_change (C := Try.checked) own started (by kernel_rfl) Try.func9
    (ChangeSpec.witness6 (enc := enc) (C := Try.checked) false ⟨#[], #[.int .i64 0, .int .i64 0], []⟩ 8 (by kernel_rfl) (by kernel_rfl) (by kernel_rfl) (by kernel_rfl)) ?_
  intro W base args ds gs before hval0 hW hcnd _
  have hval : ∀ (j : Nat) t v, Try.f9.params[j]? = some t → args[j]? = some v → Value.okWide Try.prog W .any base t v := hval0
  have hW' := hW
  obtain ⟨p, q, hA0, hV, rfl, hfz, hnd⟩ := hW
  have hA : DataW.TrodAll enc Try.prog W 0 (fun _ => true) true Try.f9.params.toList args.toList ds p := hA0
  rw [Try.params9] at hA hval
  obtain ⟨v0, vs0, d0, ds0, p0, q0, hargs, rfl, rfl, h0, r0⟩ := trodAll_cons hA
  obtain ⟨v1, vs1, d1, ds1, p1, q1, rfl, rfl, rfl, h1, r1⟩ := trodAll_cons r0
  obtain ⟨rfl, rfl, rfl⟩ := trodAll_nil r1
  obtain rfl : args = #[v0, v1] := by cases args; simp_all
  obtain ⟨rfl, rfl⟩ := trodVars_none hV
  obtain ⟨a0, rfl, rfl, rfl, w0⟩ := open_int Try.underlying3 (hval 0 3 v0 rfl rfl) h0
  obtain ⟨a1, rfl, rfl, rfl, w1⟩ := open_int Try.underlying3 (hval 1 3 v1 rfl rfl) h1
  clear hA0 hval0
  refine (ringNone_walk a0 a1 w0 w1 W).mono fun e W' ⟨he, bel⟩ => ?_
  subst he
  exact ⟨_, rfl, _, _, _, [], _, [], hW', trodAll_mk1 (shut_bool Try.underlying4 _), (trodAll_cons_mk (shut_int Try.underlying3 w0) (trodAll_cons_mk (shut_int Try.underlying3 w1) trodAll_mk0)), rfl, bel.frame _, fun h => by cases h⟩
theorem over : Rows.ringNoneRow.holds Try.pinned (OpenSpec.ofChange Rows.ringNoneSpec) :=
  OpenClaim.holds_of_wide 9 Try.f9 rfl rfl rfl rfl rfl rfl rfl ⟨rfl, rfl, rfl, rfl, rfl⟩ rfl rfl rfl rfl rfl (by kernel_rfl) Try.func9 (by kernel_rfl)
    (of_decide_eq_true (by kernel_rfl)) (by unfold Func.isWrapper; first | (rw [if_pos (by decide +kernel)]; kernel_rfl) | (rw [if_neg (by decide +kernel)]; exact ⟨rfl, rfl⟩))
    (fun os started H enc _ => lifted os started H enc)
end ringNone
/-- THE STATEMENT. -/
theorem ringNone_holds : Rows.RingNoneSaid := ringNone.over
#print axioms ringNone_holds
end Go.Proofs.Ytaghnlmfhfbhhaa
