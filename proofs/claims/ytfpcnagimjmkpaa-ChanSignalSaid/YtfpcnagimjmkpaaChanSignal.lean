/- A channel of a context tells nothing but that it is over: to all who wait, once, and to all who come later, at once, for all numbers that the statement draws. -/
import Derived.Test.YtfpcnagimjmkpaaChanPl
set_option linter.unusedVariables false
set_option linter.unusedSimpArgs false
namespace Go.Proofs.Ytfpcnagimjmkpaa
open Go.RowKit
set_option maxRecDepth 100000
abbrev sigW (k : Nat) : Wt := ((k : Int), (k : Int), 0)
def sgn (i : Nat) : ChS := ⟨0, [], (List.range i).map sigW, [], false, true, false⟩
def sgz : ChS := ⟨0, [], [], [], false, true, true⟩
theorem sgn_waitR (i : Nat) : (sgn i).waitR (sigW i) false = 0 := by simp [ChS.waitR, ChS.mute, ChS.free, ChS.queue, sgn]
theorem sgn_waitS (i : Nat) : (sgn i).waitS (sigW i) false = sgn (i + 1) := by
  unfold ChS.waitS; rw [sgn_waitR, if_pos rfl]; simp [sgn, List.range_succ]
theorem sgn_ends (i : Nat) : (sgn i).ends = (List.range i).map (fun k : Nat => (((k : Int), (k : Int), 0, false, false) : Wk)) := by
  unfold ChS.ends
  rw [show (sgn i).rv = (List.range i).map sigW from rfl, show (sgn i).sd = [] from rfl, onceW_nodup false _ [] (range_nodup i (fun k => ((k : Int), 0))) (fun _ _ _ h => by simp at h)]
  simp [onceW, wakeOf, sigW]
theorem sgn_over (i : Nat) : (sgn i).endR = (List.range i).map (fun k : Nat => (((k : Int), (k : Int), 0, false, false) : Wk)) ∧ (sgn i).endS = sgz := by
  constructor
  · unfold ChS.endR; rw [← sgn_ends]; simp [sgn]
  · simp [ChS.endS, sgn, ChS.shut, sgz]
set_option maxHeartbeats 4000000 in
theorem signal_main (w : World) (waits later : Nat) (h1 : waits ≤ 20) (h2 : later ≤ 10) :
    Calls Try.prog 8 #[.int .i64 waits, .int .i64 later] w fun e w' => e = .returned (.bool true) ∧ Fr Nob w w' := by
  have Haw := Lib.hid (fun W => awake9 W)
  have Hnew := Lib.hid (fun W => chan_signal W)
  have d3 : decide ((waits : Int) < 0) = false := decide_eq_false (by omega)
  have d4 : decide ((20 : Int) < waits) = false := decide_eq_false (by omega)
  have d4' : decide (20 < waits) = false := decide_eq_false (by omega)
  have d5 : decide ((later : Int) < 0) = false := decide_eq_false (by omega)
  have d6 : decide ((10 : Int) < later) = false := decide_eq_false (by omega)
  have d6' : decide (10 < later) = false := decide_eq_false (by omega)
  go_enter Try.func8, Try.ntmps8
  go_wp2_with fail
  refine (Hnew.out _).mono ?_
  intro e w1 hnew
  obtain ⟨b, rfl, hone⟩ := One.ofMade hnew
  have Hone : Hid (One w w1 b (sgn 0)) := Lib.hid hone
  clear hnew hone
  go_wp2_with fail
  go_loopw [6] (fun vi wr => ∃ i : Nat, vi = .int .i64 i ∧ i ≤ waits ∧ Hid (One w wr b (sgn i))) (fun vi _ => waits - (intOf vi).toNat)
  case atStart => exact ⟨0, rfl, Nat.zero_le _, Hone⟩
  case round =>
    obtain ⟨i, rfl, hi, H1⟩ := hrel
    by_cases hlt : i < waits
    · have l1 : decide ((i : Int) < waits) = true := decide_eq_true (by omega)
      have l2 : decide (i < waits) = true := decide_eq_true hlt
      have hc := H1.out.wait (sigW i) false 0 _ (sgn_waitR i) (sgn_waitS i) ⟨by simp [sgn]; omega, by simp [sgn]⟩
      have Hc := Lib.hid hc
      clear hc H1 Hone
      go_wp2_with fail
      refine Hc.out.mono ?_
      rintro e w2 ⟨rfl, hone⟩
      have H2 := Lib.hid hone
      clear hone
      go_wp2_with fail
      go_roundw
      case rel => exact ⟨i + 1, by go_num, by omega, H2⟩
      case measure => simp [intOf]; omega
    · have hiw : i = waits := by omega
      subst hiw
      have Hc := Lib.hid (H1.out.send 1 false [] 0 7 (sgn i) rfl rfl rfl)
      clear H1 Hone
      go_wp2_with fail
      refine Hc.out.mono ?_
      rintro e w2 ⟨A2, cp2, rfl, hone, _⟩
      have Hc2 := Lib.hid (hone.wait (99, 0, 0) true 7 (sgn i) rfl rfl ⟨by simp [sgn]; omega, by simp [sgn]⟩)
      clear hone Hc
      go_wp2_with fail
      refine Hc2.out.mono ?_
      rintro e w3 ⟨rfl, hone⟩
      have Hc3 := Lib.hid (hone.put 5 [] 0 false (sgn i) rfl rfl rfl)
      clear hone Hc2
      go_wp2_with fail
      refine Hc3.out.mono ?_
      rintro e w4 ⟨A4, cp4, rfl, ⟨S, hcs, hge, hfr⟩, _⟩
      have Hov := Lib.hid (chan_over hcs _ i (sgn_over i).1 (sgn_over i).2 (by simp))
      have Hge := Lib.hid hge; have Hfr := Lib.hid hfr
      clear hcs hge hfr Hc3
      go_wp2_with fail
      refine Hov.out.mono ?_
      rintro e w5 ⟨A5, cp5, rfl, hf, hc, hs⟩
      have Hf := Lib.hid (Hfr.out.trans hf fun k hk q => by have := Hge.out k q; omega)
      have Hov2 := Lib.hid (chan_over hc [] 0 rfl (c' := sgz) rfl rfl)
      have Hs := Lib.hid hs
      clear hf hc hs Hov
      go_wp2_with fail
      refine Hov2.out.mono ?_
      rintro e w6 ⟨A6, cp6, rfl, hf, hc, _⟩
      have HO : Hid (One w w6 b sgz) := Lib.hid ⟨S, hc, Hge.out, Hf.out.trans hf fun k hk q => by have := Hge.out k q; omega⟩
      have HR := Lib.hid ((Hs.out.fr hf fun k q q' => q.2 q').rd)
      clear hf hc Hov2 Hs Hf
      have hii : ((i : Int) == (i : Int)) = true := beq_self_eq_true _
      go_wp2_with fail
      go_loopw [14] (fun vi wr => ∃ j : Nat, vi = .int .i64 j ∧ j ≤ i ∧ Fr Nob w6 wr) (fun vi _ => i - (intOf vi).toNat)
      case atStart => exact ⟨0, rfl, Nat.zero_le _, Fr.refl _ _⟩
      case round =>
        obtain ⟨j, rfl, hj, hfj⟩ := hrel
        have Hfj := Lib.hid hfj
        clear hfj
        by_cases hlt2 : j < i
        · have l1 : decide ((j : Int) < i) = true := decide_eq_true (by omega)
          have l2 : decide (j < i) = true := decide_eq_true hlt2
          have i0 : (0 : Int) ≤ j := by omega
          have iN : (j : Int) < i := by omega
          obtain ⟨g, o, rfl, hcp, hk⟩ := rd_wk HR.out j ((j : Int), (j : Int), 0, false, false) hlt2 (by rw [List.getElem?_map, List.getElem?_range hlt2]; rfl)
          obtain ⟨c0, c1, c2, c3, c4⟩ := hk.fr Hfj.out id
          clear hk
          dsimp only at c0 c1 c2 c3 c4
          go_wp2_with fail
          go_roundw
          case rel => exact ⟨j + 1, by go_num, by omega, Hfj.out⟩
          case measure => simp [intOf]; omega
        · have hji : j = i := by omega
          subst hji
          have HO1 := Lib.hid (HO.out.fr0 Hfj.out)
          clear HO HR Hfj
          go_wp2_with fail
          go_loopw [15] (fun vi wr => ∃ k : Nat, vi = .int .i64 k ∧ k ≤ later ∧ Hid (One w wr b sgz)) (fun vi _ => later - (intOf vi).toNat)
          case atStart => exact ⟨0, rfl, Nat.zero_le _, HO1⟩
          case round =>
            obtain ⟨k, rfl, hk, H3⟩ := hrel
            by_cases hlt3 : k < later
            · have l1 : decide ((k : Int) < later) = true := decide_eq_true (by omega)
              have l2 : decide (k < later) = true := decide_eq_true hlt3
              have Hc := Lib.hid (H3.out.recv 0 false true [] 0 sgz rfl rfl rfl)
              clear H3 HO1
              go_wp2_with fail
              refine Hc.out.mono ?_
              rintro e w7 ⟨A7, cp7, rfl, hone, _⟩
              have H4 := Lib.hid hone
              clear hone
              go_wp2_with fail
              go_roundw
              case rel => exact ⟨k + 1, by go_num, by omega, H4⟩
              case measure => simp [intOf]; omega
            · have hkl : k = later := by omega
              subst hkl
              have Hcl := Lib.hid (H3.out.closed true rfl)
              have Hca := Lib.hid (H3.out.can false true rfl)
              clear HO1
              go_wp2_with fail
              refine Hcl.out.mono ?_
              rintro e _ ⟨rfl, rfl⟩
              go_wp2_with fail
              refine Hca.out.mono ?_
              rintro e w7 ⟨rfl, hone⟩
              have Hcb := Lib.hid (hone.can true false rfl)
              clear hone
              go_wp2_with fail
              refine Hcb.out.mono ?_
              rintro e w8 ⟨rfl, hone⟩
              have Hcc := Lib.hid (hone.cap 0 rfl); have Hcd := Lib.hid (hone.drop false sgz rfl rfl)
              clear hone
              go_wp2_with fail
              refine Hcc.out.mono ?_
              rintro e _ ⟨rfl, rfl⟩
              go_wp2_with fail
              refine Hcd.out.mono ?_
              rintro e w9 ⟨rfl, hone⟩
              have H5 := Lib.hid hone
              clear hone
              go_wp2_with fail
              refine (Haw.out _).mono ?_
              rintro e w10 ⟨rfl, hf3⟩
              have F3 := Lib.hid (H5.out.fr.trans0 hf3)
              clear hf3
              go_wp2_with fail
              go_ret
              exact ⟨rfl, F3.out⟩
theorem signal_bad (w : World) (a0 a1 : Int) (h : a0 < 0 ∨ 20 < a0 ∨ a1 < 0 ∨ 10 < a1) :
    Calls Try.prog 8 #[.int .i64 a0, .int .i64 a1] w fun e w' => e = .returned (.bool true) ∧ Fr Nob w w' := by
  have Haw := Lib.hid (fun W => awake9 W)
  by_cases h0 : a0 < 0
  · have d0 : decide (a0 < 0) = true := decide_eq_true h0
    clear h h0
    go_enter Try.func8, Try.ntmps8
    go_wp2_with fail
    refine (Haw.out _).mono ?_
    rintro e w2 ⟨rfl, hf2⟩
    have F2 := Lib.hid (hf2)
    clear hf2
    go_wp2_with fail
    go_ret
    exact ⟨rfl, F2.out⟩
  · have d0 : decide (a0 < 0) = false := decide_eq_false h0
    by_cases h1 : 20 < a0
    · have d1 : decide (20 < a0) = true := decide_eq_true h1
      clear h h0 h1
      go_enter Try.func8, Try.ntmps8
      go_wp2_with fail
      refine (Haw.out _).mono ?_
      rintro e w2 ⟨rfl, hf2⟩
      have F2 := Lib.hid (hf2)
      clear hf2
      go_wp2_with fail
      go_ret
      exact ⟨rfl, F2.out⟩
    · have d1 : decide (20 < a0) = false := decide_eq_false h1
      by_cases h2 : a1 < 0
      · have d2 : decide (a1 < 0) = true := decide_eq_true h2
        clear h h0 h1 h2
        go_enter Try.func8, Try.ntmps8
        go_wp2_with fail
        refine (Haw.out _).mono ?_
        rintro e w2 ⟨rfl, hf2⟩
        have F2 := Lib.hid (hf2)
        clear hf2
        go_wp2_with fail
        go_ret
        exact ⟨rfl, F2.out⟩
      · have d2 : decide (a1 < 0) = false := decide_eq_false h2
        have d3 : decide (10 < a1) = true := decide_eq_true (by omega)
        clear h h0 h1 h2
        go_enter Try.func8, Try.ntmps8
        go_wp2_with fail
        refine (Haw.out _).mono ?_
        rintro e w2 ⟨rfl, hf2⟩
        have F2 := Lib.hid (hf2)
        clear hf2
        go_wp2_with fail
        go_ret
        exact ⟨rfl, F2.out⟩

theorem chanSignal_walk (a0 a1 : Int) (w : World) (w0 : (Lit.int .i64 a0).wf = true) (w1 : (Lit.int .i64 a1).wf = true) :
    Calls Try.prog 8 #[.int .i64 a0, .int .i64 a1] w fun e w' => e = .returned (.bool true) ∧ Below w.heap.size w w' := by
  have key : Calls Try.prog 8 #[.int .i64 a0, .int .i64 a1] w fun e w' => e = .returned (.bool true) ∧ Fr Nob w w' := by
    by_cases h : a0 < 0 ∨ 20 < a0 ∨ a1 < 0 ∨ 10 < a1
    · exact signal_bad w a0 a1 h
    · obtain ⟨x, rfl⟩ : ∃ n : Nat, a0 = n := ⟨a0.toNat, by omega⟩
      obtain ⟨y, rfl⟩ : ∃ n : Nat, a1 = n := ⟨a1.toNat, by omega⟩
      exact signal_main w x y (by omega) (by omega)
  exact key.mono fun e w' ⟨h1, h2⟩ => ⟨h1, h2.below (Nat.le_refl _) fun _ q => q.elim⟩

/-! The row: out of the walk above. -/
namespace chanSignal
open Go.ChangeShapes Go.WideShapes Go.ChangeAt Go.RowKit
open Go.ChangeMaps (open_string shut_string)
theorem own : ownKnob Try.prog.godebug = none := by kernel_rfl
theorem laidOut : laidOutB Try.prog = true := by kernel_rfl
set_option maxRecDepth 100000 in
theorem lifted (os : Os) (started : os.Started) (H : Type) (enc : TypeId × Value → H) :
    ReturnsInHanded {} Try.checked os 8 .any (Rows.chanSignalSpec.pre6 enc Try.prog Try.f8 Rows.chanSignalRow.domain false) (Rows.chanSignalSpec.post enc Try.prog Try.f8 false true false false) := by
  refine returnsInHanded_of_change (C := Try.checked) own started (by kernel_rfl) Try.func8
    (ChangeSpec.witness6 (enc := enc) (C := Try.checked) false ⟨#[], #[.int .i64 0, .int .i64 0], []⟩ 8 (by kernel_rfl) (by kernel_rfl) (by kernel_rfl) (by kernel_rfl)) ?_
  intro W base args ds gs before hval0 hW hcnd _
  have hval : ∀ (j : Nat) t v, Try.f8.params[j]? = some t → args[j]? = some v → Value.okWide Try.prog W .any base t v := hval0
  have hW' := hW
  obtain ⟨p, q, hA0, hV, rfl, hfz, hnd⟩ := hW
  have hA : DataW.TrodAll enc Try.prog W 0 (fun _ => true) true Try.f8.params.toList args.toList ds p := hA0
  rw [Try.params8] at hA hval
  obtain ⟨v0, vs0, d0, ds0, p0, q0, hargs, rfl, rfl, h0, r0⟩ := trodAll_cons hA
  obtain ⟨v1, vs1, d1, ds1, p1, q1, rfl, rfl, rfl, h1, r1⟩ := trodAll_cons r0
  obtain ⟨rfl, rfl, rfl⟩ := trodAll_nil r1
  obtain rfl : args = #[v0, v1] := by cases args; simp_all
  obtain ⟨rfl, rfl⟩ := trodVars_none hV
  obtain ⟨a0, rfl, rfl, rfl, w0⟩ := open_int Try.underlying3 (hval 0 3 v0 rfl rfl) h0
  obtain ⟨a1, rfl, rfl, rfl, w1⟩ := open_int Try.underlying3 (hval 1 3 v1 rfl rfl) h1
  clear hA0 hval0
  refine (chanSignal_walk a0 a1 W w0 w1).mono fun e W' ⟨he, bel⟩ => ?_
  subst he
  exact ⟨_, rfl, _, _, _, [], _, [], hW', trodAll_mk1 (shut_bool Try.underlying4 _), (trodAll_cons_mk (shut_int Try.underlying3 w0) (trodAll_cons_mk (shut_int Try.underlying3 w1) trodAll_mk0)), rfl, bel.frame _, fun h => by cases h⟩
theorem over : Rows.chanSignalRow.holds Try.pinned (OpenSpec.ofChange Rows.chanSignalSpec) :=
  OpenClaim.holds_of_wide 8 Try.f8 rfl rfl rfl rfl rfl rfl rfl ⟨rfl, rfl, rfl, rfl, rfl⟩ rfl rfl rfl rfl rfl (by kernel_rfl) Try.func8 (by kernel_rfl)
    (of_decide_eq_true (by kernel_rfl)) (by unfold Func.isWrapper; first | (rw [if_pos (by decide +kernel)]; kernel_rfl) | (rw [if_neg (by decide +kernel)]; exact ⟨rfl, rfl⟩))
    (fun os started H enc _ => lifted os started H enc)
end chanSignal
/-- THE STATEMENT. -/
theorem chanSignal_holds : Rows.ChanSignalSaid := chanSignal.over
#print axioms chanSignal_holds
end Go.Proofs.Ytfpcnagimjmkpaa
