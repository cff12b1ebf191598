/- FairMore answers true whatever its looks and its number are; its arguments read as they did: no condition. -/
import Derived.Test.YtaghnlmfhfbhhaaOpenLooks
import Derived.Test.YtaghnlmfhfbhhaaFairRef
import Derived.Test.YtaghnlmfhfbhhaaFairLaw
import Derived.Test.YtaghnlmfhfbhhaaFairAwake
import Derived.Test.YtaghnlmfhfbhhaaAlike
import Derived.IntWalk
set_option linter.unusedVariables false
set_option linter.unusedSimpArgs false
namespace Go.Proofs.Ytaghnlmfhfbhhaa
open Go.RowKit
set_option maxRecDepth 100000

theorem looks_cut (w : World) (A : Option Addr) (c : Nat) (M : List (Value × Lk)) (N k : Nat) (hN : M.length = N) (h : Looks w (.slice A N c) M) (hk : k ≤ N) : ∃ A1 A2,
    (∀ W : World, (Instr.slice 62 (.slice A N c) none (some (.int .i64 (k : Int))) none).run Try.prog W = .ok (.slice A1 k c) W) ∧
    (∀ W : World, (Instr.slice 62 (.slice A N c) (some (.int .i64 (k : Int))) none none).run Try.prog W = .ok (.slice A2 (N - k) (c - k)) W) ∧
    Looks w (.slice A1 k c) (M.take k) ∧ Looks w (.slice A2 (N - k) (c - k)) (M.drop k) := by
  subst hN
  obtain ⟨h1, h2⟩ := h
  have hc : M.length ≤ c := by obtain ⟨_, _, A', c', hv, hc, _⟩ := h1; cases hv; exact hc
  obtain ⟨A1, r1, _, s1⟩ := cut_h (P := Try.prog) 62 74 2 Try.underlying62 (by kernel_rfl) A M.length c k hk hc
  obtain ⟨A2, r2, _, s2⟩ := cut_l (P := Try.prog) 62 74 2 Try.underlying62 (by kernel_rfl) A M.length c k hk
  refine ⟨A1, A2, r1, r2, ⟨?_, fun m hm => h2 m (List.mem_of_mem_take hm)⟩, ⟨?_, fun m hm => h2 m (List.mem_of_mem_drop hm)⟩⟩
  · have := s1 w _ h1
    rw [flat_take lookEn (fun _ => rfl) M k] at this
    rwa [List.length_take, Nat.min_eq_left hk]
  · have := s2 w _ h1
    rw [flat_drop lookEn (fun _ => rfl) M k] at this
    rwa [List.length_drop]
theorem fairB_yes (L : List Lk) : fairB L ((longest L : Int) + 1) = true := by simp [fairB]; omega
theorem fairB_no (L : List Lk) (h : longest L ≠ 0) : fairB L (longest L : Int) = false := by simp [fairB]

set_option maxHeartbeats 4000000 in
theorem fairMore_walk (v : Value) (M : List (Value × Lk)) (cut : Int) (w : World) (h : IsLooks w v M) (w1 : (Lit.int .i64 cut).wf = true) :
    Calls Try.prog 13 #[v, .int .i64 cut] w fun e w' => e = .returned (.bool true) ∧ Below w.heap.size w w' := by
  clear w1
  have HL := Lib.hid h.1; clear h
  obtain ⟨A, c, rfl, hcc⟩ : ∃ A c, v = .slice A M.length c ∧ M.length ≤ c ∧ c ≤ maxLen := by obtain ⟨⟨_, _, A, c, rfl, h1, h2, _⟩, _⟩ := HL.out; exact ⟨A, c, rfl, h1, h2⟩
  unfold maxLen at hcc
  have hfew := fair_few w _ M HL.out
  have Hfew := Lib.hid hfew; clear hfew
  go_enter Try.func13, Try.ntmps13
  go_wp2_with fail
  refine Hfew.out.mono ?_
  rintro e w' ⟨b, rfl, hb, rfl⟩
  cases b with
  | false =>
    clear hb
    go_wp2_with fail
    refine (fair_awake w').mono ?_
    rintro e w2 ⟨rfl, hf⟩
    go_wp2_with fail
    go_ret
    exact ⟨rfl, hf.below (Nat.le_refl _) fun _ q => q.elim⟩
  | true =>
    have hM := hb rfl
    clear hb
    obtain ⟨N, hN⟩ : ∃ N, N = M.length := ⟨_, rfl⟩
    have HN := Lib.hid hN.symm
    rw [← hN] at hM hcc ⊢
    rw [← hN] at HL
    clear hN
    go_wp2_with fail
    refine (alike_round w' cut ((N : Int) + 1) (by omega) (by omega)).mono ?_
    rintro e w2 ⟨rfl, rfl⟩
    have hk1 := Int.emod_nonneg cut (show ((N : Int) + 1) ≠ 0 by omega)
    have hk2 := Int.emod_lt_of_pos cut (show 0 < ((N : Int) + 1) by omega)
    generalize cut % ((N : Int) + 1) = k0 at *
    obtain ⟨k, rfl⟩ := Int.eq_ofNat_of_zero_le hk1
    have hkN : k ≤ N := by omega
    obtain ⟨A1, A2, hr1, hr2, hl1, hl2⟩ := looks_cut w' A c M N k HN.out HL.out hkN
    have ha := longest_take (M.map (·.2)) k
    have hc := longest_drop (M.map (·.2)) k
    have hac := longest_cut (M.map (·.2)) k
    have hbb := longest_le (M.map (·.2))
    rw [List.length_map, HN.out] at hbb
    have c1 := fun w0 h => fair_longest w0 (.slice A1 k c) (M.take k) h (by rw [List.length_take, HN.out]; omega)
    have c2 := fun w0 h => fair_longest w0 (.slice A N c) M h (by rw [HN.out]; omega)
    have c3 := fun w0 h => fair_longest w0 (.slice A2 (N - k) (c - k)) (M.drop k) h (by rw [List.length_drop, HN.out]; omega)
    rw [List.map_take] at c1
    rw [List.map_drop] at c3
    have fy := fun w0 h => fair_fair w0 (.slice A N c) M ((longest (M.map (·.2)) : Int) + 1) h (by rw [HN.out]; omega)
    rw [fairB_yes] at fy
    have fn := fun w0 h => fair_fair w0 (.slice A N c) M (longest (M.map (·.2)) : Int) h (by rw [HN.out]; omega)
    have fno := fairB_no (M.map (·.2))
    have Fn := Lib.hid fn; have Fno := Lib.hid fno; have Fy := Lib.hid fy
    clear fn fno fy
    generalize longest ((M.map (·.2)).take k) = a at *
    generalize longest ((M.map (·.2)).drop k) = cc at *
    generalize longest (M.map (·.2)) = bb at *
    have C1 := Lib.hid c1; have C2 := Lib.hid c2; have C3 := Lib.hid c3; have L1 := Lib.hid hl1; have L2 := Lib.hid hl2
    clear c1 c2 c3 hl1 hl2
    have hfr0 : Fr Nob w' w' := Fr.refl _ _
    have hki : (k : Int) ≤ N := by omega
    go_wp2_with fail
    go_region_held3 (fun wz => Fr Nob w' wz)
      (first | exact hf2 | assumption | exact Fr.drew (by assumption))
      ((first | (go_at_call_of 44 (Value.slice A1 k c); refine (C1.out _ (L1.out.fr (by assumption))).mono ?_; rintro e w2 ⟨rfl, hf⟩; have hf2 : Fr Nob w' w2 := Fr.trans0 (by assumption) hf; clear hf) | (go_at_call_of 44 (Value.slice A N c); refine (C2.out _ (HL.out.fr (by assumption))).mono ?_; rintro e w2 ⟨rfl, hf⟩; have hf2 : Fr Nob w' w2 := Fr.trans0 (by assumption) hf; clear hf) | (go_at_call_of 44 (Value.slice A2 (N - k) (c - k)); refine (C3.out _ (L2.out.fr (by assumption))).mono ?_; rintro e w2 ⟨rfl, hf⟩; have hf2 : Fr Nob w' w2 := Fr.trans0 (by assumption) hf; clear hf)))
    have F2 := Lib.hid hf2; clear hf2
    have i1 : ¬ (bb : Int) < a := by omega
    have i2 : ¬ (bb : Int) < cc := by omega
    have i3 : (bb : Int) ≤ (a : Int) + cc := by omega
    have hend : ∀ W W', Fr Nob w' W → Fr Nob W W' → Below w'.heap.size w' W' := fun W W' h1 h2 => (h1.trans0 h2).below (Nat.le_refl _) fun _ q => q.elim
    have Hend := Lib.hid hend
    clear hend hr1 hr2
    by_cases hb0 : bb = 0
    · subst hb0
      have ha0 : a = 0 := by omega
      have hc0 : cc = 0 := by omega
      subst ha0; subst hc0
      go_wp2_with fail
      refine (Fy.out _ (HL.out.fr F2.out)).mono ?_
      rintro e w3 ⟨rfl, hf3⟩
      have F3 := Lib.hid (F2.out.trans0 hf3); clear hf3
      go_wp2_with fail
      refine (fair_awake w3).mono ?_
      rintro e w4 ⟨rfl, hf4⟩
      go_wp2_with fail
      go_ret
      exact ⟨rfl, Hend.out _ _ F3.out hf4⟩
    · have hb1 : ((bb : Int) == 0) = false := by simp; omega
      have hfn := fun w0 h => Fn.out w0 h
      rw [Fno.out hb0] at hfn
      have Hfn := Lib.hid hfn; clear hfn
      go_wp2_with fail
      refine (Fy.out _ (HL.out.fr F2.out)).mono ?_
      rintro e w3 ⟨rfl, hf3⟩
      have F3 := Lib.hid (F2.out.trans0 hf3); clear hf3
      go_wp2_with fail
      refine (Hfn.out _ (HL.out.fr F3.out)).mono ?_
      rintro e w4 ⟨rfl, hf4⟩
      have F4 := Lib.hid (F3.out.trans0 hf4); clear hf4
      go_wp2_with fail
      refine (fair_awake w4).mono ?_
      rintro e w5 ⟨rfl, hf5⟩
      go_wp2_with fail
      go_ret
      exact ⟨rfl, Hend.out _ _ F4.out hf5⟩

/-! The row: out of the walk above. -/
namespace fairMore
open Go.ChangeShapes Go.WideShapes Go.ChangeAt Go.RowKit
open Go.ChangeMaps (open_string shut_string)
theorem own : ownKnob Try.prog.godebug = none := by kernel_rfl
theorem laidOut : laidOutB Try.prog = true := by kernel_rfl
set_option maxRecDepth 100000 in
theorem lifted (os : Os) (started : os.Started) (H : Type) (enc : TypeId × Value → H) :
    ReturnsInHanded {} Try.checked os 13 .any (Rows.fairMoreSpec.pre6 enc Try.prog Try.f13 Rows.fairMoreRow.domain false) (Rows.fairMoreSpec.post enc Try.prog Try.f13 false true false false) := by
  refine returnsInHanded_of_change (C := Try.checked) own started (by kernel_rfl) Try.func13
    (ChangeSpec.witness6 (enc := enc) (C := Try.checked) false ⟨#[], #[.slice none 0 0, .int .i64 0], []⟩ 8 (by kernel_rfl) (by kernel_rfl) (by kernel_rfl) (by kernel_rfl)) ?_
  intro W base args ds gs before hval0 hW hcnd _
  have hval : ∀ (j : Nat) t v, Try.f13.params[j]? = some t → args[j]? = some v → Value.okWide Try.prog W .any base t v := hval0
  have hW' := hW
  obtain ⟨p, q, hA0, hV, rfl, hfz, hnd⟩ := hW
  have hA : DataW.TrodAll enc Try.prog W 0 (fun _ => true) true Try.f13.params.toList args.toList ds p := hA0
  rw [Try.params13] at hA hval
  obtain ⟨v0, vs0, d0, ds0, p0, q0, hargs, rfl, rfl, h0, r0⟩ := trodAll_cons hA
  obtain ⟨v1, vs1, d1, ds1, p1, q1, rfl, rfl, rfl, h1, r1⟩ := trodAll_cons r0
  obtain ⟨rfl, rfl, rfl⟩ := trodAll_nil r1
  obtain rfl : args = #[v0, v1] := by cases args; simp_all
  obtain ⟨rfl, rfl⟩ := trodVars_none hV
  have k0 := h0
  have lt0 : ∀ x ∈ p0, x.block < W.heap.size := by obtain ⟨m, hm⟩ := k0; exact DataW.trod_lt m _ _ _ hm
  obtain ⟨x0, g0⟩ := opn_looks (hval 0 62 v0 rfl rfl) h0
  obtain ⟨a1, rfl, rfl, rfl, w1⟩ := open_int Try.underlying3 (hval 1 3 v1 rfl rfl) h1
  clear hA0 hval0
  refine (fairMore_walk v0 x0 a1 W g0 w1).mono fun e W' ⟨he, bel⟩ => ?_
  subst he
  exact ⟨_, rfl, _, _, _, [], _, [], hW', trodAll_mk1 (shut_bool Try.underlying4 _), (trodAll_cons_mk (Below.trod laidOut (by kernel_rfl) (of_decide_eq_true (by kernel_rfl)) k0 bel lt0) (trodAll_cons_mk (shut_int Try.underlying3 w1) trodAll_mk0)), rfl, bel.frame _, fun h => by cases h⟩
theorem over : Rows.fairMoreRow.holds Try.pinned (OpenSpec.ofChange Rows.fairMoreSpec) :=
  OpenClaim.holds_of_wide 13 Try.f13 rfl rfl rfl rfl rfl rfl rfl ⟨rfl, rfl, rfl, rfl, rfl⟩ rfl rfl rfl rfl rfl (by kernel_rfl) Try.func13 (by kernel_rfl)
    (of_decide_eq_true (by kernel_rfl)) (by unfold Func.isWrapper; first | (rw [if_pos (by decide +kernel)]; kernel_rfl) | (rw [if_neg (by decide +kernel)]; exact ⟨rfl, rfl⟩))
    (fun os started H enc _ => lifted os started H enc)
end fairMore
/-- THE STATEMENT. -/
theorem fairMore_holds : Rows.FairMoreSaid := fairMore.over
#print axioms fairMore_holds
end Go.Proofs.Ytaghnlmfhfbhhaa
