/- ReadyNone answers true whatever its two numbers are: no condition. -/
import Derived.Test.YtpjkjnejlmmapaaOpen
import Derived.Test.YtpjkjnejlmmapaaReadyAwake
set_option linter.unusedVariables false
set_option linter.unusedSimpArgs false
namespace Go.Proofs.Ytpjkjnejlmmapaa
open Go.RowKit
set_option maxRecDepth 100000

set_option maxHeartbeats 2000000 in
theorem readyNone_walk (task n : Int) (w : World) (w0 : (Lit.int .i64 task).wf = true) (w1 : (Lit.int .i64 n).wf = true) :
    Calls Try.prog 6 #[.int .i64 task, .int .i64 n] w fun e w' => e = .returned (.bool true) ∧ Below w.heap.size w w' := by
  clear w0 w1
  by_cases hneg : task < 0
  · go_enter Try.func6, Try.ntmps6
    go_wp2_with fail
    refine (ready_new w).mono ?_
    rintro e w1 ⟨b, rfl, hf1, hr1⟩
    have F1 := hf1.none (S := From w.heap.size)
    have R1 := hr1.mono (S' := From w.heap.size) fun k _ q => q.1
    clear hf1 hr1
    go_wp2_with fail
    refine (ready_pick_none w1 _ b n R1).mono ?_
    rintro e w2 ⟨rfl, hf2⟩
    have F2 := F1.trans0 hf2.none
    have R2 := R1.fr0 hf2
    clear hf2
    go_wp2_with fail
    refine (ready_add_no w2 _ b _ task R2 (.inl hneg)).mono ?_
    rintro e w3 ⟨rfl, hf3⟩
    have F3 := F2.trans0 hf3.none
    have R3 := R2.fr0 hf3
    clear hf3
    go_wp2_with fail
    refine (ready_pick_none w3 _ b n R3).mono ?_
    rintro e w4 ⟨rfl, hf4⟩
    have F4 := F3.trans0 hf4.none
    clear hf4
    go_wp2_with fail
    refine (ready_awake w4).mono ?_
    rintro e w5 ⟨rfl, hf5⟩
    have F5 := F4.trans0 hf5.none
    go_wp2_with fail
    go_ret
    exact ⟨rfl, F5.below (Nat.le_refl _) fun _ q => q⟩
  · go_enter Try.func6, Try.ntmps6
    go_wp2_with fail
    refine (ready_new w).mono ?_
    rintro e w1 ⟨b, rfl, hf1, hr1⟩
    have F1 := hf1.none (S := From w.heap.size)
    have z1 := hf1.size
    have R1 := hr1.mono (S' := From w.heap.size) fun k _ q => q.1
    clear hf1 hr1
    go_wp2_with fail
    refine (ready_pick_none w1 _ b n R1).mono ?_
    rintro e w2 ⟨rfl, hf2⟩
    have F2 := F1.trans0 hf2.none
    have z2 := F2.size
    have R2 := R1.fr0 hf2
    clear hf2
    go_wp2_with fail
    refine (ready_add w2 _ b [] task R2 (by omega) (by simp) (by simp)).mono ?_
    rintro e w3 ⟨rfl, hf3, hr3⟩
    have F3 := F2.trans0 hf3
    have R3 := hr3.mono (S' := From w.heap.size) fun k _ q => there0 z2 (fun _ q => q) k q
    clear hf3 hr3
    go_wp2_with fail
    refine (ready_pick w3 _ b [task] n 1 rfl R3 (by omega)).mono ?_
    rintro e w4 ⟨rfl, hf4⟩
    have F4 := F3.trans0 hf4.none
    have R4 := R3.fr0 hf4
    clear hf4
    have hz : (n % ((1 : Nat) : Int)).toNat = 0 := by simp
    rw [hz]
    clear hz
    go_wp2_with fail
    refine (ready_remove w4 _ b [task] task R4 (by simp)).mono ?_
    rintro e w5 ⟨rfl, hf5, hr5⟩
    have F5 := F4.trans0 hf5
    have R5 : ReadyAt w5 (From w.heap.size) b [] := by simpa using hr5
    clear hf5 hr5
    go_wp2_with fail
    refine (ready_pick_none w5 _ b n R5).mono ?_
    rintro e w6 ⟨rfl, hf6⟩
    have F6 := F5.trans0 hf6.none
    clear hf6
    go_wp2_with fail
    refine (ready_awake w6).mono ?_
    rintro e w7 ⟨rfl, hf7⟩
    have F7 := F6.trans0 hf7.none
    go_wp2_with fail
    go_ret
    exact ⟨rfl, F7.below (Nat.le_refl _) fun _ q => q⟩

/-! The row: out of the walk above. -/
namespace readyNone
open Go.ChangeShapes Go.WideShapes Go.ChangeAt Go.RowKit
open Go.ChangeMaps (open_string shut_string)
theorem own : ownKnob Try.prog.godebug = none := by kernel_rfl
theorem laidOut : laidOutB Try.prog = true := by kernel_rfl
set_option maxRecDepth 100000 in
theorem lifted (os : Os) (started : os.Started) (H : Type) (enc : TypeId × Value → H) :
    ReturnsInHanded {} Try.checked os 6 .any (Rows.readyNoneSpec.pre6 enc Try.prog Try.f6 Rows.readyNoneRow.domain false) (Rows.readyNoneSpec.post enc Try.prog Try.f6 false true false false) := by
  refine returnsInHanded_of_change (C := Try.checked) own started (by kernel_rfl) Try.func6
    (ChangeSpec.witness6 (enc := enc) (C := Try.checked) false ⟨#[], #[.int .i64 0, .int .i64 0], []⟩ 8 (by kernel_rfl) (by kernel_rfl) (by kernel_rfl) (by kernel_rfl)) ?_
  intro W base args ds gs before hval0 hW hcnd _
  have hval : ∀ (j : Nat) t v, Try.f6.params[j]? = some t → args[j]? = some v → Value.okWide Try.prog W .any base t v := hval0
  have hW' := hW
  obtain ⟨p, q, hA0, hV, rfl, hfz, hnd⟩ := hW
  have hA : DataW.TrodAll enc Try.prog W 0 (fun _ => true) true Try.f6.params.toList args.toList ds p := hA0
  rw [Try.params6] at hA hval
  obtain ⟨v0, vs0, d0, ds0, p0, q0, hargs, rfl, rfl, h0, r0⟩ := trodAll_cons hA
  obtain ⟨v1, vs1, d1, ds1, p1, q1, rfl, rfl, rfl, h1, r1⟩ := trodAll_cons r0
  obtain ⟨rfl, rfl, rfl⟩ := trodAll_nil r1
  obtain rfl : args = #[v0, v1] := by cases args; simp_all
  obtain ⟨rfl, rfl⟩ := trodVars_none hV
  obtain ⟨a0, rfl, rfl, rfl, w0⟩ := open_int Try.underlying3 (hval 0 3 v0 rfl rfl) h0
  obtain ⟨a1, rfl, rfl, rfl, w1⟩ := open_int Try.underlying3 (hval 1 3 v1 rfl rfl) h1
  clear hA0 hval0
  refine (readyNone_walk a0 a1 W w0 w1).mono fun e W' ⟨he, bel⟩ => ?_
  subst he
  exact ⟨_, rfl, _, _, _, [], _, [], hW', trodAll_mk1 (shut_bool Try.underlying4 _), (trodAll_cons_mk (shut_int Try.underlying3 w0) (trodAll_cons_mk (shut_int Try.underlying3 w1) trodAll_mk0)), rfl, bel.frame _, fun h => by cases h⟩
theorem over : Rows.readyNoneRow.holds Try.pinned (OpenSpec.ofChange Rows.readyNoneSpec) :=
  OpenClaim.holds_of_wide 6 Try.f6 rfl rfl rfl rfl rfl rfl rfl ⟨rfl, rfl, rfl, rfl, rfl⟩ rfl rfl rfl rfl rfl (by kernel_rfl) Try.func6 (by kernel_rfl)
    (of_decide_eq_true (by kernel_rfl)) (by unfold Func.isWrapper; first | (rw [if_pos (by decide +kernel)]; kernel_rfl) | (rw [if_neg (by decide +kernel)]; exact ⟨rfl, rfl⟩))
    (fun os started H enc _ => lifted os started H enc)
end readyNone
/-- THE STATEMENT. -/
theorem readyNone_holds : Rows.ReadyNoneSaid := readyNone.over
#print axioms readyNone_holds
end Go.Proofs.Ytpjkjnejlmmapaa
