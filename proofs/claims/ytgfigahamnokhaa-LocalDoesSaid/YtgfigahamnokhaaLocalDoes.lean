/- Of any program, place, registers and time what an instruction does that concerns its task alone, is as the document says, for all that the statement draws. -/
import Derived.Test.YtgfigahamnokhaaRefDo
import Derived.Test.YtgfigahamnokhaaLocalAwake
import Derived.Test.YtgfigahamnokhaaProgs1
import Derived.Test.YtgfigahamnokhaaOpenInstrs
import Derived.Test.YtgfigahamnokhaaOpenArr8
set_option linter.unusedVariables false
set_option linter.unusedSimpArgs false
namespace Go.Proofs.Ytgfigahamnokhaa
open Go.RowKit
set_option maxRecDepth 100000
theorem do_same (ps : List Ins) (at' : Int) (r : Nat → Int) (now : Int) (w : World) (v : Value) (n : Nat) (hn : ps.length = n) (h : Rd w 6 v n (ps.flatMap insEn)) (hok : ∀ i ∈ ps, InsOk w i) :
    ∃ (P : Int) (q : Nat → Int) (t : Bool) (X : Int) (E : Bool) (err : Int),
      (∀ W, Fr Nob w W → Calls Try.prog 9 #[v, .int .i64 at', .agg (regA r), .int .i64 now] W fun e w' => e = .returned (.tuple #[.agg (outA P q t X E), .int .i64 err]) ∧ Fr Nob W w') ∧
      (∀ W, Fr Nob w W → Calls Try.prog 10 #[v, .int .i64 at', .agg (regA r), .int .i64 now] W fun e w' => e = .returned (.tuple #[.agg (outA P q t X E), .int .i64 err]) ∧ Fr Nob W w') :=
  ⟨_, _, _, _, _, _, fun W hf => do_any W v ps n r now hn (h.fr hf) (fun i hi => (hok i hi).fr hf) at', fun W hf => rl_any W v ps n r now hn (h.fr hf) (fun i hi => (hok i hi).fr hf) at'⟩
set_option maxHeartbeats 4000000 in
theorem does_main (w : World) (v0 : Value) (ps : List Ins) (n : Nat) (hn : ps.length = n) (h : Rd w 6 v0 n (ps.flatMap insEn)) (hok : ∀ i ∈ ps, InsOk w i) (pc : Int) (r : Nat → Int) (now op : Int) :
    Calls Try.prog 3 #[v0, .int .i64 pc, .agg (regA r), .int .i64 now, .int .i64 op] w fun e w' => e = .returned (.bool true) ∧ Fr Nob w w' := by
  have Haw := Lib.hid (fun W => awake18 W)
  have hdo := fun at' => do_same ps at' r now w v0 n hn h hok
  have hm1 := fun W => mine_any W op
  have hm2 := fun W => ref_mine W op
  have hpg := fun W (hf : Fr Nob w W) b T (hb : W.heap[b]? = some (.cells #[v0] T (0, 0))) => progs_one W v0 ps n b T hb hn (h.fr hf) (fun i hi => (hok i hi).fr hf)
  generalize mineB op = mo at *
  obtain ⟨_, hl, A, c, rfl, hc1, hc2, hA⟩ := h
  unfold maxLen at hl
  have Hdo := Lib.hid hdo; have Hm1 := Lib.hid hm1; have Hm2 := Lib.hid hm2; have Hpg := Lib.hid hpg
  clear hdo hm1 hm2 hpg hok hA
  have hb := blk_alloc_eq (w := w) (.cells (regA r) 23) rfl
  have HB := Lib.hid hb
  clear hb
  go_enter Try.func3, Try.ntmps3
  go_wp2_with fail
  refine (Hpg.out _ (((Fr.refl Nob w).alloc _).alloc _) _ _ (blk_alloc_eq _ (by simp))).mono ?_
  rintro e w0 ⟨b, rfl, hb60, rfl⟩
  cases b with
  | false =>
    go_wp2_with fail
    refine (Haw.out _).mono ?_
    rintro e w2 ⟨rfl, hf2⟩
    have F2 := Lib.hid ((((Fr.refl Nob w).alloc _).alloc _).trans0 hf2)
    clear hf2
    go_wp2_with fail
    go_ret
    exact ⟨rfl, F2.out⟩
  | true =>
    have h60 := hb60 rfl
    clear hb60
    go_wp2_with fail
    go_loopw [11] (fun vi wr => ∃ x : Int, vi = .int .i64 x ∧ -1 ≤ x ∧ x ≤ n + 2 ∧ Fr Nob w wr ∧ Hid (wr.heap[w.heap.size]? = some (.cells (regA r) 23 (0, 0)))) (fun vi _ => (n + 2 - (intOf vi)).toNat)
    case atStart => exact ⟨-1, rfl, by omega, by omega, ((Fr.refl Nob w).alloc _).alloc _, Lib.hid (((Fr.refl Nob _).alloc _).blk id HB.out)⟩
    case round =>
      obtain ⟨x, rfl, hx0, hx1, hfr, Hb⟩ := hrel
      have Hfr := Lib.hid hfr
      clear hfr
      by_cases hlt : x ≤ (n : Int) + 1
      · have l1 : decide (x ≤ (n : Int) + 1) = true := decide_eq_true hlt
        obtain ⟨r0, r1, r2, r3, r4, r5, r6, r7⟩ := reg_cells Hb.out
        by_cases hneg : x < 0
        · have l2 : decide (x < 0) = true := decide_eq_true hneg
          obtain ⟨P, q, t, X, E, err, hd1, hd2⟩ := Hdo.out pc
          have Hd1 := Lib.hid hd1; have Hd2 := Lib.hid hd2
          clear hd1 hd2
          go_wp2_with fail
          refine (Hd1.out wr Hfr.out).mono ?_
          rintro e w1 ⟨rfl, hf1⟩
          have F1 := Lib.hid (Hfr.out.trans0 hf1)
          have B1 := Lib.hid (hf1.blk id Hb.out)
          clear hf1 r0 r1 r2 r3 r4 r5 r6 r7
          have hb1 := ((Fr.refl Nob w1).alloc (.cells (outA P q t X E) 28)).blk id B1.out
          have HB1 := Lib.hid hb1
          obtain ⟨r0, r1, r2, r3, r4, r5, r6, r7⟩ := reg_cells hb1
          clear hb1
          go_wp2_with fail
          refine (Hd2.out _ (F1.out.alloc _)).mono ?_
          rintro e w2 ⟨rfl, hf2⟩
          have F2 := Lib.hid ((F1.out.alloc _).trans0 hf2)
          have B2 := Lib.hid (hf2.blk id HB1.out)
          have ho := ((Fr.refl Nob w2).alloc (.cells (outA P q t X E) 32)).blk id (hf2.blk id (heap_alloc_new w1 (.cells (outA P q t X E) 28)))
          clear hf2 r0 r1 r2 r3 r4 r5 r6 r7
          obtain ⟨o0, o1, o2, o3, o4, o5, o6, o7, o8, o9, o10, o11⟩ := row_cells ho
          clear ho
          have heq := run_eql_arr (P := Try.prog) 23 3 8 [q 0, q 1, q 2, q 3, q 4, q 5, q 6, q 7] Try.underlying23 Try.underlying3 (by kernel_rfl) rfl
          simp only [ints, List.map_cons, List.map_nil] at heq
          go_wp2_with fail
          go_roundw
          case rel => exact ⟨x + 1, by go_num, by omega, by omega, F2.out.alloc _, Lib.hid (((Fr.refl Nob w2).alloc _).blk id B2.out)⟩
          case measure => simp [intOf]; omega
        · have l2 : decide (x < 0) = false := decide_eq_false hneg
          obtain ⟨P, q, t, X, E, err, hd1, hd2⟩ := Hdo.out x
          have Hd1 := Lib.hid hd1; have Hd2 := Lib.hid hd2
          clear hd1 hd2
          go_wp2_with fail
          refine (Hd1.out wr Hfr.out).mono ?_
          rintro e w1 ⟨rfl, hf1⟩
          have F1 := Lib.hid (Hfr.out.trans0 hf1)
          have B1 := Lib.hid (hf1.blk id Hb.out)
          clear hf1 r0 r1 r2 r3 r4 r5 r6 r7
          have hb1 := ((Fr.refl Nob w1).alloc (.cells (outA P q t X E) 28)).blk id B1.out
          have HB1 := Lib.hid hb1
          obtain ⟨r0, r1, r2, r3, r4, r5, r6, r7⟩ := reg_cells hb1
          clear hb1
          go_wp2_with fail
          refine (Hd2.out _ (F1.out.alloc _)).mono ?_
          rintro e w2 ⟨rfl, hf2⟩
          have F2 := Lib.hid ((F1.out.alloc _).trans0 hf2)
          have B2 := Lib.hid (hf2.blk id HB1.out)
          have ho := ((Fr.refl Nob w2).alloc (.cells (outA P q t X E) 32)).blk id (hf2.blk id (heap_alloc_new w1 (.cells (outA P q t X E) 28)))
          clear hf2 r0 r1 r2 r3 r4 r5 r6 r7
          obtain ⟨o0, o1, o2, o3, o4, o5, o6, o7, o8, o9, o10, o11⟩ := row_cells ho
          clear ho
          have heq := run_eql_arr (P := Try.prog) 23 3 8 [q 0, q 1, q 2, q 3, q 4, q 5, q 6, q 7] Try.underlying23 Try.underlying3 (by kernel_rfl) rfl
          simp only [ints, List.map_cons, List.map_nil] at heq
          go_wp2_with fail
          go_roundw
          case rel => exact ⟨x + 1, by go_num, by omega, by omega, F2.out.alloc _, Lib.hid (((Fr.refl Nob w2).alloc _).blk id B2.out)⟩
          case measure => simp [intOf]; omega
      · have l1 : decide (x ≤ (n : Int) + 1) = false := decide_eq_false hlt
        go_wp2_with fail
        refine (Hm1.out _).mono ?_
        rintro e _ ⟨rfl, rfl⟩
        go_wp2_with fail
        refine (Hm2.out _).mono ?_
        rintro e _ ⟨rfl, rfl⟩
        go_wp2_with fail
        refine (Haw.out _).mono ?_
        rintro e w2 ⟨rfl, hf2⟩
        have F2 := Lib.hid (Hfr.out.trans0 hf2)
        clear hf2
        go_wp2_with fail
        go_ret
        exact ⟨rfl, F2.out⟩

theorem localDoes_walk (v0 : Value) (l : List Ins) (a1 : Int) (v2 : Value) (r : Nat → Int) (a3 a4 : Int) (w : World) (h0 : IsInstrs w v0 l) (w1 : (Lit.int .i64 a1).wf = true) (h2 : IsArr8 w v2 r) (w3 : (Lit.int .i64 a3).wf = true) (w4 : (Lit.int .i64 a4).wf = true) :
    Calls Try.prog 3 #[v0, .int .i64 a1, v2, .int .i64 a3, .int .i64 a4] w fun e w' => e = .returned (.bool true) ∧ Below w.heap.size w w' := by
  have h2 := h2.1
  subst h2
  exact (does_main w v0 l l.length rfl h0.1 h0.2 a1 r a3 a4).mono fun e w' ⟨h1, h2⟩ => ⟨h1, h2.below (Nat.le_refl _) fun _ q => q.elim⟩

/-! The row: out of the walk above. -/
namespace localDoes
open Go.ChangeShapes Go.WideShapes Go.ChangeAt Go.RowKit
open Go.ChangeMaps (open_string shut_string)
theorem own : ownKnob Try.prog.godebug = none := by kernel_rfl
theorem laidOut : laidOutB Try.prog = true := by kernel_rfl
set_option maxRecDepth 100000 in
theorem lifted (os : Os) (started : os.Started) (H : Type) (enc : TypeId × Value → H) :
    ReturnsInHanded {} Try.checked os 3 .any (Rows.localDoesSpec.pre6 enc Try.prog Try.f3 Rows.localDoesRow.domain false) (Rows.localDoesSpec.post enc Try.prog Try.f3 false true false false) := by
  refine returnsInHanded_of_change (C := Try.checked) own started (by kernel_rfl) Try.func3
    (ChangeSpec.witness6 (enc := enc) (C := Try.checked) false ⟨#[], #[.slice none 0 0, .int .i64 0, .agg #[.int .i64 0, .int .i64 0, .int .i64 0, .int .i64 0, .int .i64 0, .int .i64 0, .int .i64 0, .int .i64 0], .int .i64 0, .int .i64 0], []⟩ 8 (by kernel_rfl) (by kernel_rfl) (by kernel_rfl) (by kernel_rfl)) ?_
  intro W base args ds gs before hval0 hW hcnd _
  have hval : ∀ (j : Nat) t v, Try.f3.params[j]? = some t → args[j]? = some v → Value.okWide Try.prog W .any base t v := hval0
  have hW' := hW
  obtain ⟨p, q, hA0, hV, rfl, hfz, hnd⟩ := hW
  have hA : DataW.TrodAll enc Try.prog W 0 (fun _ => true) true Try.f3.params.toList args.toList ds p := hA0
  rw [Try.params3] at hA hval
  obtain ⟨v0, vs0, d0, ds0, p0, q0, hargs, rfl, rfl, h0, r0⟩ := trodAll_cons hA
  obtain ⟨v1, vs1, d1, ds1, p1, q1, rfl, rfl, rfl, h1, r1⟩ := trodAll_cons r0
  obtain ⟨v2, vs2, d2, ds2, p2, q2, rfl, rfl, rfl, h2, r2⟩ := trodAll_cons r1
  obtain ⟨v3, vs3, d3, ds3, p3, q3, rfl, rfl, rfl, h3, r3⟩ := trodAll_cons r2
  obtain ⟨v4, vs4, d4, ds4, p4, q4, rfl, rfl, rfl, h4, r4⟩ := trodAll_cons r3
  obtain ⟨rfl, rfl, rfl⟩ := trodAll_nil r4
  obtain rfl : args = #[v0, v1, v2, v3, v4] := by cases args; simp_all
  obtain ⟨rfl, rfl⟩ := trodVars_none hV
  have k0 := h0
  have lt0 : ∀ x ∈ p0, x.block < W.heap.size := by obtain ⟨m, hm⟩ := k0; exact DataW.trod_lt m _ _ _ hm
  obtain ⟨x0, g0⟩ := opn_instrs (hval 0 22 v0 rfl rfl) h0
  obtain ⟨a1, rfl, rfl, rfl, w1⟩ := open_int Try.underlying3 (hval 1 3 v1 rfl rfl) h1
  have k2 := h2
  have lt2 : ∀ x ∈ p2, x.block < W.heap.size := by obtain ⟨m, hm⟩ := k2; exact DataW.trod_lt m _ _ _ hm
  obtain ⟨x2, g2⟩ := opn_arr8 (hval 2 23 v2 rfl rfl) h2
  obtain ⟨a3, rfl, rfl, rfl, w3⟩ := open_int Try.underlying3 (hval 3 3 v3 rfl rfl) h3
  obtain ⟨a4, rfl, rfl, rfl, w4⟩ := open_int Try.underlying3 (hval 4 3 v4 rfl rfl) h4
  clear hA0 hval0
  refine (localDoes_walk v0 x0 a1 v2 x2 a3 a4 W g0 w1 g2 w3 w4).mono fun e W' ⟨he, bel⟩ => ?_
  subst he
  exact ⟨_, rfl, _, _, _, [], _, [], hW', trodAll_mk1 (shut_bool Try.underlying4 _), (trodAll_cons_mk (Below.trod laidOut (by kernel_rfl) (of_decide_eq_true (by kernel_rfl)) k0 bel lt0) (trodAll_cons_mk (shut_int Try.underlying3 w1) (trodAll_cons_mk (Below.trod laidOut (by kernel_rfl) (of_decide_eq_true (by kernel_rfl)) k2 bel lt2) (trodAll_cons_mk (shut_int Try.underlying3 w3) (trodAll_cons_mk (shut_int Try.underlying3 w4) trodAll_mk0))))), rfl, bel.frame _, fun h => by cases h⟩
theorem over : Rows.localDoesRow.holds Try.pinned (OpenSpec.ofChange Rows.localDoesSpec) :=
  OpenClaim.holds_of_wide 3 Try.f3 rfl rfl rfl rfl rfl rfl rfl ⟨rfl, rfl, rfl, rfl, rfl⟩ rfl rfl rfl rfl rfl (by kernel_rfl) Try.func3 (by kernel_rfl)
    (of_decide_eq_true (by kernel_rfl)) (by unfold Func.isWrapper; first | (rw [if_pos (by decide +kernel)]; kernel_rfl) | (rw [if_neg (by decide +kernel)]; exact ⟨rfl, rfl⟩))
    (fun os started H enc _ => lifted os started H enc)
end localDoes
/-- THE STATEMENT. -/
theorem localDoes_holds : Rows.LocalDoesSaid := localDoes.over
#print axioms localDoes_holds
end Go.Proofs.Ytgfigahamnokhaa
