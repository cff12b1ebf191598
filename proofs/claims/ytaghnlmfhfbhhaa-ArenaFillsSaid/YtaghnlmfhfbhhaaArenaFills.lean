/- ArenaFills answers true whatever its two numbers are: no condition. -/
import Derived.Test.YtaghnlmfhfbhhaaOpen
import Derived.Test.YtaghnlmfhfbhhaaArena
import Derived.Test.YtaghnlmfhfbhhaaArenaAwake
set_option linter.unusedVariables false
set_option linter.unusedSimpArgs false
namespace Go.Proofs.Ytaghnlmfhfbhhaa
open Go.RowKit
set_option maxRecDepth 100000

set_option maxHeartbeats 1000000 in
theorem arenaFills_bad (most more : Int) (w : World) (h : most < 1 ∨ 200 < most ∨ more < 0 ∨ 20 < more) :
    Calls Try.prog 5 #[.int .i64 most, .int .i64 more] w fun e w' => e = .returned (.bool true) ∧ Below w.heap.size w w' := by
  go_enter Try.func5, Try.ntmps5
  go_wp2_with fail
  all_goals
    refine (arena_awake w).mono ?_
    rintro e w' ⟨rfl, hf⟩
    go_wp2_with fail
    go_ret
    exact ⟨rfl, hf.below (Nat.le_refl _) fun _ q => q.elim⟩

/-- The values 0, 3, .., 3 (n - 1), as cells. -/
def threes (n : Nat) : List Value := (List.range n).map fun (i : Nat) => .int .i64 (3 * (i : Int))
theorem threes_snoc (n : Nat) : threes n ++ [.int .i64 (3 * (n : Int))] = threes (n + 1) := by
  unfold threes
  rw [List.range_succ, List.map_append]; rfl
theorem threes_get (n i : Nat) (h : i < n) : (threes n)[i]? = some (.int .i64 (3 * (i : Int))) := by
  unfold threes
  simp [h]

set_option maxHeartbeats 2000000 in
theorem arenaFills_good (m r : Nat) (w : World) (h1 : 1 ≤ m) (h2 : m ≤ 200) (h3 : r ≤ 20) :
    Calls Try.prog 5 #[.int .i64 (m : Int), .int .i64 (r : Int)] w fun e w' => e = .returned (.bool true) ∧ Below w.heap.size w w' := by
  have g1 : ¬ (m : Int) < 1 := by omega
  have g2 : ¬ (200 : Int) < m := by omega
  have g3 : ¬ (r : Int) < 0 := by omega
  have g4 : ¬ (20 : Int) < r := by omega
  go_enter Try.func5, Try.ntmps5
  go_wp2_with fail
  refine (arena_int_new_good m w h1 (by omega)).mono ?_
  rintro e w1 ⟨b, rfl, hf1, hr1⟩
  have hf1' : Fr (From w.heap.size) w w1 := hf1.none
  have hr1' := hr1.mono (S' := From w.heap.size) fun k _ q => q.1
  have hz1 := hf1.size
  clear hf1 hr1
  go_wp2_with fail
  go_loopw [7] (fun i wr => ∃ j : Nat, i = .int .i64 j ∧ j ≤ m + r ∧ Fr (From w.heap.size) w wr ∧ ArenaAt 78 3 1 wr (From w.heap.size) b m (min j m) (threes (min j m))) (fun i _ => m + r - (intOf i).toNat)
  case atStart => exact ⟨0, rfl, by omega, hf1', by simpa [threes] using hr1'⟩
  case round =>
    obtain ⟨j, rfl, hj, hfr, hr⟩ := hrel
    have Hfr := Lib.hid hfr; clear hfr
    by_cases hlt : j < m + r
    · by_cases hjm : j < m
      · rw [Nat.min_eq_left (by omega)] at hr
        have Hr := Lib.hid hr; clear hr
        go_wp2_with fail
        refine (arena_int_add wr _ b m j _ (3 * (j : Int)) Hr.out hjm).mono ?_
        rintro e w2 ⟨rfl, hf2, hr2⟩
        rw [threes_snoc] at hr2
        have hr2' := hr2.mono (S' := From w.heap.size) fun k _ q => by rcases q with q | q; exact q; have := Hfr.out.size; unfold From; omega
        clear hr2
        have Hr2 := Lib.hid hr2'; have Hf2 := Lib.hid hf2; clear hr2' hf2
        go_wp2_with fail
        go_roundw
        case rel => exact ⟨j + 1, by go_num, by omega, Hfr.out.trans0 Hf2.out, by rw [Nat.min_eq_left (by omega)]; exact Hr2.out⟩
        case measure => simp [intOf]; omega
      · rw [Nat.min_eq_right (by omega)] at hr
        have Hr := Lib.hid hr; clear hr
        go_wp2_with fail
        refine (arena_int_add_full wr _ b m _ (3 * (j : Int)) Hr.out).mono ?_
        rintro e w2 ⟨rfl, hf2⟩
        have Hf2 := Lib.hid hf2; clear hf2
        go_wp2_with fail
        go_roundw
        case rel => exact ⟨j + 1, by go_num, by omega, Hfr.out.trans0 Hf2.out.none, by rw [Nat.min_eq_right (by omega)]; exact Hr.out.fr Hf2.out fun _ _ q => q⟩
        case measure => simp [intOf]; omega
    · rw [Nat.min_eq_right (by omega)] at hr
      have Hr := Lib.hid hr; clear hr
      obtain ⟨wo, rfl⟩ : ∃ wo : World, wo = wr := ⟨_, rfl⟩
      go_wp2_with fail
      go_loopw [10] (fun i wr => ∃ j : Nat, i = .int .i64 j ∧ j ≤ m ∧ Fr (From w.heap.size) w wr ∧ ArenaAt 78 3 1 wr (From w.heap.size) b m m (threes m)) (fun i _ => m - (intOf i).toNat)
      case atStart => exact ⟨0, rfl, by omega, Hfr.out, Hr.out⟩
      case round =>
        obtain ⟨i, rfl, hi, hfr, hr⟩ := hrel
        have Hfr := Lib.hid hfr; clear hfr
        have Hr := Lib.hid hr; clear hr
        by_cases hlt : i < m
        · go_wp2_with fail
          refine (arena_int_get wr _ b m m _ i (3 * (i : Int)) Hr.out hlt (threes_get m i hlt)).mono ?_
          rintro e w2 ⟨rfl, hf2⟩
          have Hf2 := Lib.hid hf2; clear hf2
          go_wp2_with fail
          go_roundw
          case rel => exact ⟨i + 1, by go_num, by omega, Hfr.out.trans0 Hf2.out.none, Hr.out.fr Hf2.out fun _ _ q => q⟩
          case measure => simp [intOf]; omega
        · go_wp2_with fail
          refine (arena_int_left wr _ b m m _ Hr.out).mono ?_
          rintro e w2 ⟨rfl, hq⟩
          have Hf2 := Lib.hid (Fr.ofDrew hq); clear hq
          have Hr2 := Lib.hid (Hr.out.fr Hf2.out fun _ _ q => q)
          have e0 : ((m : Int) - m == 0) = true := by simp
          go_wp2_with fail
          refine (arena_int_len w2 _ b m m _ Hr2.out).mono ?_
          rintro e w3 ⟨rfl, rfl⟩
          go_wp2_with fail
          refine (arena_awake w2).mono ?_
          rintro e w3 ⟨rfl, hf3⟩
          go_wp2_with fail
          go_ret
          exact ⟨rfl, ((Hfr.out.trans0 Hf2.out.none).trans0 hf3.none).below (Nat.le_refl _) fun _ q => q⟩

theorem arenaFills_walk (most more : Int) (w : World) (w0 : (Lit.int .i64 most).wf = true) (w1 : (Lit.int .i64 more).wf = true) :
    Calls Try.prog 5 #[.int .i64 most, .int .i64 more] w fun e w' => e = .returned (.bool true) ∧ Below w.heap.size w w' := by
  by_cases hb : most < 1 ∨ 200 < most ∨ more < 0 ∨ 20 < more
  · exact arenaFills_bad most more w hb
  · obtain ⟨m, rfl⟩ := Int.eq_ofNat_of_zero_le (show 0 ≤ most by omega)
    obtain ⟨r, rfl⟩ := Int.eq_ofNat_of_zero_le (show 0 ≤ more by omega)
    exact arenaFills_good m r w (by omega) (by omega) (by omega)

/-! The row: out of the walk above. -/
namespace arenaFills
open Go.ChangeShapes Go.WideShapes Go.ChangeAt Go.RowKit
open Go.ChangeMaps (open_string shut_string)
theorem own : ownKnob Try.prog.godebug = none := by kernel_rfl
theorem laidOut : laidOutB Try.prog = true := by kernel_rfl
set_option maxRecDepth 100000 in
theorem lifted (os : Os) (started : os.Started) (H : Type) (enc : TypeId × Value → H) :
    ReturnsInHanded {} Try.checked os 5 .any (Rows.arenaFillsSpec.pre6 enc Try.prog Try.f5 Rows.arenaFillsRow.domain false) (Rows.arenaFillsSpec.post enc Try.prog Try.f5 false true false false) := by
  refine returnsInHanded_of_change (C := Try.checked) own started (by kernel_rfl) Try.func5
    (ChangeSpec.witness6 (enc := enc) (C := Try.checked) false ⟨#[], #[.int .i64 0, .int .i64 0], []⟩ 8 (by kernel_rfl) (by kernel_rfl) (by kernel_rfl) (by kernel_rfl)) ?_
  intro W base args ds gs before hval0 hW hcnd _
  have hval : ∀ (j : Nat) t v, Try.f5.params[j]? = some t → args[j]? = some v → Value.okWide Try.prog W .any base t v := hval0
  have hW' := hW
  obtain ⟨p, q, hA0, hV, rfl, hfz, hnd⟩ := hW
  have hA : DataW.TrodAll enc Try.prog W 0 (fun _ => true) true Try.f5.params.toList args.toList ds p := hA0
  rw [Try.params5] at hA hval
  obtain ⟨v0, vs0, d0, ds0, p0, q0, hargs, rfl, rfl, h0, r0⟩ := trodAll_cons hA
  obtain ⟨v1, vs1, d1, ds1, p1, q1, rfl, rfl, rfl, h1, r1⟩ := trodAll_cons r0
  obtain ⟨rfl, rfl, rfl⟩ := trodAll_nil r1
  obtain rfl : args = #[v0, v1] := by cases args; simp_all
  obtain ⟨rfl, rfl⟩ := trodVars_none hV
  obtain ⟨a0, rfl, rfl, rfl, w0⟩ := open_int Try.underlying3 (hval 0 3 v0 rfl rfl) h0
  obtain ⟨a1, rfl, rfl, rfl, w1⟩ := open_int Try.underlying3 (hval 1 3 v1 rfl rfl) h1
  clear hA0 hval0
  refine (arenaFills_walk a0 a1 W w0 w1).mono fun e W' ⟨he, bel⟩ => ?_
  subst he
  exact ⟨_, rfl, _, _, _, [], _, [], hW', trodAll_mk1 (shut_bool Try.underlying4 _), (trodAll_cons_mk (shut_int Try.underlying3 w0) (trodAll_cons_mk (shut_int Try.underlying3 w1) trodAll_mk0)), rfl, bel.frame _, fun h => by cases h⟩
theorem over : Rows.arenaFillsRow.holds Try.pinned (OpenSpec.ofChange Rows.arenaFillsSpec) :=
  OpenClaim.holds_of_wide 5 Try.f5 rfl rfl rfl rfl rfl rfl rfl ⟨rfl, rfl, rfl, rfl, rfl⟩ rfl rfl rfl rfl rfl (by kernel_rfl) Try.func5 (by kernel_rfl)
    (of_decide_eq_true (by kernel_rfl)) (by unfold Func.isWrapper; first | (rw [if_pos (by decide +kernel)]; kernel_rfl) | (rw [if_neg (by decide +kernel)]; exact ⟨rfl, rfl⟩))
    (fun os started H enc _ => lifted os started H enc)
end arenaFills
/-- THE STATEMENT. -/
theorem arenaFills_holds : Rows.ArenaFillsSaid := arenaFills.over
#print axioms arenaFills_holds
end Go.Proofs.Ytaghnlmfhfbhhaa
