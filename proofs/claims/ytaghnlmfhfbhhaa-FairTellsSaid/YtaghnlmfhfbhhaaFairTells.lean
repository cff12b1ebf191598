/- FairTells answers true whatever its looks and its numbers are; its arguments read as they did: no condition. -/
import Derived.Test.YtaghnlmfhfbhhaaOpenLooks
import Derived.Test.YtaghnlmfhfbhhaaFairRefL
import Derived.Test.YtaghnlmfhfbhhaaFairRefS
import Derived.Test.YtaghnlmfhfbhhaaFairAwake
set_option linter.unusedVariables false
set_option linter.unusedSimpArgs false
namespace Go.Proofs.Ytaghnlmfhfbhhaa
open Go.RowKit
set_option maxRecDepth 100000

set_option maxHeartbeats 2000000 in
theorem fairTells_walk (v : Value) (M : List (Value × Lk)) (k task : Int) (w : World) (h : IsLooks w v M) (w1 : (Lit.int .i64 k).wf = true) (w2 : (Lit.int .i64 task).wf = true) :
    Calls Try.prog 10 #[v, .int .i64 k, .int .i64 task] w fun e w' => e = .returned (.bool true) ∧ Below w.heap.size w w' := by
  clear w1 w2
  have HL := Lib.hid h.1; clear h
  obtain ⟨A, c, rfl⟩ : ∃ A c, v = .slice A M.length c := by obtain ⟨⟨_, _, A, c, rfl, _⟩, _⟩ := HL.out; exact ⟨A, c, rfl⟩
  have hfew := fair_few w _ M HL.out
  have Hfew := Lib.hid hfew; clear hfew
  go_enter Try.func10, Try.ntmps10
  go_wp2_with fail
  refine Hfew.out.mono ?_
  rintro e w' ⟨b, rfl, hb, rfl⟩
  cases b with
  | false =>
    clear hb
    go_wp2_with fail
    refine (fair_awake w').mono ?_
    rintro e w2 ⟨rfl, hf⟩
    go_wp2_with fail
    go_ret
    exact ⟨rfl, hf.below (Nat.le_refl _) fun _ q => q.elim⟩
  | true =>
    have hM := hb rfl
    have hlen : M.length ≤ 1000000 := by omega
    clear hb
    go_wp2_with fail
    refine (fair_flat w' _ M HL.out hM).mono ?_
    rintro e w1 ⟨v1, rfl, hf1, hl1⟩
    have Hl1 := Lib.hid hl1; have H1 := Lib.hid (HL.out.fr hf1); have F1 := Lib.hid hf1
    clear hf1 hl1
    go_wp2_with fail
    refine (ref17_longest w1 _ M Hl1.out hlen).mono ?_
    rintro e w2 ⟨rfl, hf2⟩
    have Hl2 := Lib.hid (Hl1.out.fr hf2); have H2 := Lib.hid (H1.out.fr hf2); have F2 := Lib.hid (F1.out.trans0 hf2)
    clear hf2
    go_wp2_with fail
    refine (fair_share w2 _ M task H2.out hlen).mono ?_
    rintro e w3 ⟨rfl, hf3⟩
    have Hl3 := Lib.hid (Hl2.out.fr hf3); have H3 := Lib.hid (H2.out.fr hf3); have F3 := Lib.hid (F2.out.trans0 hf3)
    clear hf3
    go_wp2_with fail
    refine (ref17_share w3 _ M task Hl3.out hlen).mono ?_
    rintro e w4 ⟨rfl, hf4⟩
    have H4 := Lib.hid (H3.out.fr hf4); have F4 := Lib.hid (F3.out.trans0 hf4)
    clear hf4
    have hlg := fun w0 h => fair_longest w0 (.slice A M.length c) M h hlen
    have hfa := fun w0 h => fair_fair w0 (.slice A M.length c) M k h hlen
    by_cases hk : 1 ≤ k
    · have e1 : fairB (M.map (·.2)) k = decide ((longest (M.map (·.2)) : Int) < k) := by simp [fairB, hk]
      rw [e1] at hfa
      have Hlg := Lib.hid hlg; have Hfa := Lib.hid hfa
      clear e1 hlg hfa
      generalize longest (M.map (·.2)) = n at *
      generalize pickedN (M.map (·.2)) task = pn at *
      generalize readyN (M.map (·.2)) task = rn at *
      go_wp2_with fail
      refine (Hlg.out _ H4.out).mono ?_
      rintro e w5 ⟨rfl, hf5⟩
      have H5 := Lib.hid (H4.out.fr hf5); have F5 := Lib.hid (F4.out.trans0 hf5)
      clear hf5
      by_cases hnk : (n : Int) < k
      · have hd : decide ((n : Int) < k) = true := by simp [hnk]
        rw [hd] at Hfa
        go_wp2_with fail
        refine (Hfa.out _ H5.out).mono ?_
        rintro e w6 ⟨rfl, hf6⟩
        have F6 := Lib.hid (F5.out.trans0 hf6)
        clear hf6
        go_wp2_with fail
        refine (fair_awake w6).mono ?_
        rintro e w7 ⟨rfl, hf7⟩
        go_wp2_with fail
        go_ret
        exact ⟨rfl, (F6.out.trans0 hf7).below (Nat.le_refl _) fun _ q => q.elim⟩
      · have hd : decide ((n : Int) < k) = false := by simp; omega
        rw [hd] at Hfa
        go_wp2_with fail
        refine (Hfa.out _ H5.out).mono ?_
        rintro e w6 ⟨rfl, hf6⟩
        have F6 := Lib.hid (F5.out.trans0 hf6)
        clear hf6
        go_wp2_with fail
        refine (fair_awake w6).mono ?_
        rintro e w7 ⟨rfl, hf7⟩
        go_wp2_with fail
        go_ret
        exact ⟨rfl, (F6.out.trans0 hf7).below (Nat.le_refl _) fun _ q => q.elim⟩
    · have e1 : fairB (M.map (·.2)) k = false := by simp [fairB]; omega
      rw [e1] at hfa
      have Hlg := Lib.hid hlg; have Hfa := Lib.hid hfa
      clear e1 hlg hfa
      generalize longest (M.map (·.2)) = n at *
      generalize pickedN (M.map (·.2)) task = pn at *
      generalize readyN (M.map (·.2)) task = rn at *
      have hk1 : decide (1 ≤ k) = false := by simp; omega
      go_wp2_with fail
      refine (Hlg.out _ H4.out).mono ?_
      rintro e w5 ⟨rfl, hf5⟩
      have H5 := Lib.hid (H4.out.fr hf5); have F5 := Lib.hid (F4.out.trans0 hf5)
      clear hf5
      go_wp2_with fail
      refine (Hfa.out _ H5.out).mono ?_
      rintro e w6 ⟨rfl, hf6⟩
      have F6 := Lib.hid (F5.out.trans0 hf6)
      clear hf6
      go_wp2_with fail
      refine (fair_awake w6).mono ?_
      rintro e w7 ⟨rfl, hf7⟩
      go_wp2_with fail
      go_ret
      exact ⟨rfl, (F6.out.trans0 hf7).below (Nat.le_refl _) fun _ q => q.elim⟩

/-! The row: out of the walk above. -/
namespace fairTells
open Go.ChangeShapes Go.WideShapes Go.ChangeAt Go.RowKit
open Go.ChangeMaps (open_string shut_string)
theorem own : ownKnob Try.prog.godebug = none := by kernel_rfl
theorem laidOut : laidOutB Try.prog = true := by kernel_rfl
set_option maxRecDepth 100000 in
theorem lifted (os : Os) (started : os.Started) (H : Type) (enc : TypeId × Value → H) :
    ReturnsInHanded {} Try.checked os 10 .any (Rows.fairTellsSpec.pre6 enc Try.prog Try.f10 Rows.fairTellsRow.domain false) (Rows.fairTellsSpec.post enc Try.prog Try.f10 false true false false) := by
  refine returnsInHanded_of_change (C := Try.checked) own started (by kernel_rfl) Try.func10
    (ChangeSpec.witness6 (enc := enc) (C := Try.checked) false ⟨#[], #[.slice none 0 0, .int .i64 0, .int .i64 0], []⟩ 8 (by kernel_rfl) (by kernel_rfl) (by kernel_rfl) (by kernel_rfl)) ?_
  intro W base args ds gs before hval0 hW hcnd _
  have hval : ∀ (j : Nat) t v, Try.f10.params[j]? = some t → args[j]? = some v → Value.okWide Try.prog W .any base t v := hval0
  have hW' := hW
  obtain ⟨p, q, hA0, hV, rfl, hfz, hnd⟩ := hW
  have hA : DataW.TrodAll enc Try.prog W 0 (fun _ => true) true Try.f10.params.toList args.toList ds p := hA0
  rw [Try.params10] at hA hval
  obtain ⟨v0, vs0, d0, ds0, p0, q0, hargs, rfl, rfl, h0, r0⟩ := trodAll_cons hA
  obtain ⟨v1, vs1, d1, ds1, p1, q1, rfl, rfl, rfl, h1, r1⟩ := trodAll_cons r0
  obtain ⟨v2, vs2, d2, ds2, p2, q2, rfl, rfl, rfl, h2, r2⟩ := trodAll_cons r1
  obtain ⟨rfl, rfl, rfl⟩ := trodAll_nil r2
  obtain rfl : args = #[v0, v1, v2] := by cases args; simp_all
  obtain ⟨rfl, rfl⟩ := trodVars_none hV
  have k0 := h0
  have lt0 : ∀ x ∈ p0, x.block < W.heap.size := by obtain ⟨m, hm⟩ := k0; exact DataW.trod_lt m _ _ _ hm
  obtain ⟨x0, g0⟩ := opn_looks (hval 0 62 v0 rfl rfl) h0
  obtain ⟨a1, rfl, rfl, rfl, w1⟩ := open_int Try.underlying3 (hval 1 3 v1 rfl rfl) h1
  obtain ⟨a2, rfl, rfl, rfl, w2⟩ := open_int Try.underlying3 (hval 2 3 v2 rfl rfl) h2
  clear hA0 hval0
  refine (fairTells_walk v0 x0 a1 a2 W g0 w1 w2).mono fun e W' ⟨he, bel⟩ => ?_
  subst he
  exact ⟨_, rfl, _, _, _, [], _, [], hW', trodAll_mk1 (shut_bool Try.underlying4 _), (trodAll_cons_mk (Below.trod laidOut (by kernel_rfl) (of_decide_eq_true (by kernel_rfl)) k0 bel lt0) (trodAll_cons_mk (shut_int Try.underlying3 w1) (trodAll_cons_mk (shut_int Try.underlying3 w2) trodAll_mk0))), rfl, bel.frame _, fun h => by cases h⟩
theorem over : Rows.fairTellsRow.holds Try.pinned (OpenSpec.ofChange Rows.fairTellsSpec) :=
  OpenClaim.holds_of_wide 10 Try.f10 rfl rfl rfl rfl rfl rfl rfl ⟨rfl, rfl, rfl, rfl, rfl⟩ rfl rfl rfl rfl rfl (by kernel_rfl) Try.func10 (by kernel_rfl)
    (of_decide_eq_true (by kernel_rfl)) (by unfold Func.isWrapper; first | (rw [if_pos (by decide +kernel)]; kernel_rfl) | (rw [if_neg (by decide +kernel)]; exact ⟨rfl, rfl⟩))
    (fun os started H enc _ => lifted os started H enc)
end fairTells
/-- THE STATEMENT. -/
theorem fairTells_holds : Rows.FairTellsSaid := fairTells.over
#print axioms fairTells_holds
end Go.Proofs.Ytaghnlmfhfbhhaa
