/- RingActs answers true whatever the size and the acts are; its arguments read as they did: no condition. -/
import Derived.Test.YtaghnlmfhfbhhaaOpen
import Derived.Test.YtaghnlmfhfbhhaaRing
import Derived.Test.YtaghnlmfhfbhhaaAlike
import Derived.Test.YtaghnlmfhfbhhaaRingAwake
set_option linter.unusedVariables false
set_option linter.unusedSimpArgs false
namespace Go.Proofs.Ytaghnlmfhfbhhaa
open Go.RowKit
set_option maxRecDepth 100000

set_option maxHeartbeats 1000000 in
theorem ringActs_bad (size : Int) (v : Value) (l : List Int) (w : World) (h : IsInts w v l) (hb : 150 < l.length ∨ size < 0 ∨ 64 < size) :
    Calls Try.prog 6 #[.int .i64 size, v] w fun e w' => e = .returned (.bool true) ∧ Below w.heap.size w w' := by
  obtain ⟨⟨_, hl, A, c, rfl, hc1, hc2, hA⟩, hwf⟩ := h
  unfold maxLen at hl
  clear hA hwf
  generalize l.length = n at *
  by_cases hn : 150 < n
  · go_enter Try.func6, Try.ntmps6
    go_wp2_with fail
    refine (ring_awake w).mono ?_
    rintro e w' ⟨rfl, hf⟩
    go_wp2_with fail
    go_ret
    exact ⟨rfl, hf.below (Nat.le_refl _) fun _ q => q.elim⟩
  · have hb' : size < 0 ∨ 64 < size := by omega
    clear hb
    go_enter Try.func6, Try.ntmps6
    go_wp2_with fail
    refine (ring_new_bad size w hb').mono ?_
    rintro e w' ⟨rfl, rfl⟩
    go_wp2_with fail
    all_goals
      refine (ring_awake w).mono ?_
      rintro e w' ⟨rfl, hf⟩
      go_wp2_with fail
      go_ret
      exact ⟨rfl, hf.below (Nat.le_refl _) fun _ q => q.elim⟩

set_option maxHeartbeats 4000000 in
theorem ringActs_good (s : Nat) (v : Value) (l : List Int) (w : World) (h : IsInts w v l) (hn : l.length ≤ 150) (hs : s ≤ 64) :
    Calls Try.prog 6 #[.int .i64 s, v] w fun e w' => e = .returned (.bool true) ∧ Below w.heap.size w w' := by
  obtain ⟨⟨_, hl, A, c, rfl, hc1, hc2, hA⟩, hwf⟩ := h
  have HA := Lib.hid hA
  have hd : ∀ i, i < l.length → (ints l)[i]? = some (.int .i64 (l.getD i 0)) := fun i hi => ints_get hi
  have HD := Lib.hid hd
  generalize hnn : l.length = n at *
  clear hA hwf hl hd hnn
  have h1 : ¬ (s : Int) < 0 := by omega
  have h2 : ¬ (64 : Int) < s := by omega
  have h3 : ¬ (150 : Int) < n := by omega
  go_enter Try.func6, Try.ntmps6
  go_wp2_with fail
  refine (ring_new_good s w hs).mono ?_
  rintro e w1 ⟨b, rfl, hf1, hr1⟩
  go_wp2_with fail
  go_loopw [7, 8] (fun wt i wr => ∃ (q : List Int) (m j : Nat), q.length = m ∧ j ≤ n ∧ i = .int .i64 j ∧ ∃ A c S T, wt = .slice A m c ∧ Fr (From w.heap.size) w wr ∧ Two w.heap.size wr S T ∧ RingAt wr S b s q ∧ Sl wr T 3 1 (.slice A m c) m (ints q)) (fun _ i _ => n - (intOf i).toNat)
  case atStart => exact ⟨[], 0, 0, rfl, Nat.zero_le _, rfl, none, 0, fun k => w.heap.size ≤ k ∧ k < w1.heap.size, Nob, rfl, hf1.none, ⟨fun k q => q, fun k q => q.elim, fun k a b => b⟩, hr1.mono (fun k hk q => ⟨q, hk⟩), Sl.nil _ _ _ _⟩
  case round =>
    obtain ⟨q, m, i, hm, hi, rfl, A', c', S, T, rfl, hfr, htw, hr, hwt⟩ := hrel
    have Htw := Lib.hid htw; clear htw
    by_cases hlt : i < n
    · obtain ⟨g, o, rfl, hg, hc⟩ := HA.out (by omega)
      have hx00 := hc i _ (HD.out i hlt)
      have hx := hfr.cell (p := ⟨g, o + i, none⟩) (by simp [From]; omega) (hc i _ (HD.out i hlt))
      clear hc
      generalize l.getD i 0 = x at hx hx00
      have Hx0 := Lib.hid hx00; clear hx00
      have hlen := hr.len
      rw [hm] at hlen
      have Hfr := Lib.hid hfr; have Hr := Lib.hid hr; have Hwt := Lib.hid hwt
      clear hfr hr hwt
      by_cases hx0 : x = 0
      · subst hx0
        rcases q with _ | ⟨v, q⟩
        · obtain rfl : m = 0 := hm.symm
          clear hm
          go_wp2_with fail
          refine (ring_pop_none _ _ b s Hr.out).mono ?_
          rintro e w2 ⟨rfl, hq2⟩
          have hf2 := Fr.ofDrew hq2; clear hq2
          have hr2 := Hr.out.fr hf2 fun _ _ _ q => q
          have hw2 := Hwt.out.fr hf2 fun _ _ q => q
          have hfr2 := Hfr.out.trans0 hf2.none
          have Ht2 := Lib.hid (Htw.out.fr hf2)
          clear hf2
          go_wp2_with fail
          refine (ring_all_n _ _ b s [] hr2 (0) rfl).mono ?_
          rintro e wt ⟨vt, rfl, hft, hst⟩
          obtain ⟨At, ct, rfl⟩ := hst.slice
          have Hft0 := Lib.hid hft
          have hrt := hr2.fr hft fun _ _ _ q => q
          have hwt := hw2.fr hft fun _ _ q => q
          have Hst := Lib.hid hst; have Hwt := Lib.hid hwt; have Hrt := Lib.hid hrt; have Hft := Lib.hid (Fr.trans0 hfr2 (Fr.none hft))
          clear hst hwt hrt hft
          go_wp2_with fail
          refine (alike_ints_n wt _ _ [] (0) rfl Hst.out.rd Hwt.out.rd).mono ?_
          rintro e wu ⟨rfl, hqu⟩
          have hfu := Fr.ofDrew hqu; clear hqu
          have hru := Hrt.out.fr hfu fun _ _ _ q => q
          have Hfu := Lib.hid hfu; clear hfu
          have Hru := Lib.hid hru; clear hru
          go_wp2_with fail
          refine (ring_len_n wu _ b s [] Hru.out (0) rfl).mono ?_
          rintro e wv ⟨rfl, rfl⟩
          go_wp2_with fail
          refine (ring_size wu _ b s [] Hru.out).mono ?_
          rintro e wv ⟨rfl, rfl⟩
          go_wp2_with fail
          go_roundw
          case rel => exact ⟨[], 0, i + 1, rfl, by omega, by go_num, _, _, _, _, rfl, Hft.out.trans0 Hfu.out.none, ((Ht2.out.fr Hft0.out).fr Hfu.out), Hru.out, Hwt.out.fr Hfu.out fun _ _ q => q⟩
          case measure => simp [intOf]; omega
        · obtain ⟨m, rfl⟩ : ∃ m', m = m' + 1 := ⟨q.length, hm.symm⟩
          have hm : q.length = m := by simpa using hm
          obtain ⟨gw, ow, cw, hv, hTg, hgw, hcw, hcm, hcell, _⟩ := Hwt.out.form (by omega)
          injection hv with hv1 hv2 hv3
          subst hv1; subst hv3
          clear hv2
          have hcut := cut_l (P := Try.prog) 28 3 1 Try.underlying28 (by kernel_rfl) (some ⟨gw, ow, none⟩) (m + 1) c' 1 (by omega)
          obtain ⟨A2, hrun0, hsl2, _⟩ := hcut
          have hrun : ∀ W : World, (Instr.slice 28 (.slice (some ⟨gw, ow, none⟩) (m + 1) c') (some (.int .i64 1)) none none).run Try.prog W = .ok (.slice A2 m (c' - 1)) W := hrun0
          have hw1 := hsl2 _ _ _ _ Hwt.out
          simp only [Nat.add_sub_cancel, Nat.mul_one, ints, List.map_cons, List.drop_succ_cons, List.drop_zero] at hw1
          have hw0 := hcell 0 _ rfl
          have Hw1 := Lib.hid hw1; have Hm := Lib.hid hm
          clear hsl2 hcell hw1 hrun0 hm
          go_wp2_with fail
          refine (ring_pop_some _ _ b s v q Hr.out).mono ?_
          rintro e w2 ⟨rfl, hf2, hr2⟩
          have hw2 := Hw1.out.fr hf2 Htw.out.disR
          have Ht2 := Lib.hid (Htw.out.fr hf2)
          have hfr2 := Hfr.out.trans0 (hf2.fromL Htw.out)
          rw [Nat.add_zero] at hw0
          have d0 := hf2.cell (p := ⟨gw, ow, none⟩) (fun q => Htw.out.dis _ q hTg) hw0
          clear hf2 hw0
          go_wp2_with fail
          refine (ring_all_n _ _ b s q hr2 (m) Hm.out).mono ?_
          rintro e wt ⟨vt, rfl, hft, hst⟩
          obtain ⟨At, ct, rfl⟩ := hst.slice
          have Hft0 := Lib.hid hft
          have hrt := hr2.fr hft fun _ _ _ q => q
          have hwt := hw2.fr hft fun _ _ q => q
          have Hst := Lib.hid hst; have Hwt := Lib.hid hwt; have Hrt := Lib.hid hrt; have Hft := Lib.hid (Fr.trans0 hfr2 (Fr.none hft))
          clear hst hwt hrt hft
          go_wp2_with fail
          refine (alike_ints_n wt _ _ q (m) Hm.out Hst.out.rd Hwt.out.rd).mono ?_
          rintro e wu ⟨rfl, hqu⟩
          have hfu := Fr.ofDrew hqu; clear hqu
          have hru := Hrt.out.fr hfu fun _ _ _ q => q
          have Hfu := Lib.hid hfu; clear hfu
          have Hru := Lib.hid hru; clear hru
          go_wp2_with fail
          refine (ring_len_n wu _ b s q Hru.out (m) Hm.out).mono ?_
          rintro e wv ⟨rfl, rfl⟩
          go_wp2_with fail
          refine (ring_size wu _ b s q Hru.out).mono ?_
          rintro e wv ⟨rfl, rfl⟩
          go_wp2_with fail
          go_roundw
          case rel => exact ⟨q, m, i + 1, Hm.out, by omega, by go_num, _, _, _, _, rfl, Hft.out.trans0 Hfu.out.none, ((Ht2.out.fr Hft0.out).fr Hfu.out), Hru.out, Hwt.out.fr Hfu.out fun _ _ q => q⟩
          case measure => simp [intOf]; omega
      · have e0 : (x == 0) = false := by simp [hx0]
        have Hm := Lib.hid hm; clear hm
        by_cases hx1 : x = -1
        · subst hx1
          go_wp2_with fail
          refine (ring_clear _ _ b s q Hr.out).mono ?_
          rintro e w2 ⟨rfl, hf2, hr2⟩
          rw [Hm.out]
          have hfr2 := Hfr.out.trans0 (hf2.fromL Htw.out)
          have Ht2 := Lib.hid ((Htw.out.fr hf2).noR)
          have hw2 := Sl.nil w2 Nob 3 1
          clear hf2
          go_wp2_with fail
          refine (ring_all_n _ _ b s [] hr2 (0) rfl).mono ?_
          rintro e wt ⟨vt, rfl, hft, hst⟩
          obtain ⟨At, ct, rfl⟩ := hst.slice
          have Hft0 := Lib.hid hft
          have hrt := hr2.fr hft fun _ _ _ q => q
          have hwt := hw2.fr hft fun _ _ q => q
          have Hst := Lib.hid hst; have Hwt := Lib.hid hwt; have Hrt := Lib.hid hrt; have Hft := Lib.hid (Fr.trans0 hfr2 (Fr.none hft))
          clear hst hwt hrt hft
          go_wp2_with fail
          refine (alike_ints_n wt _ _ [] (0) rfl Hst.out.rd Hwt.out.rd).mono ?_
          rintro e wu ⟨rfl, hqu⟩
          have hfu := Fr.ofDrew hqu; clear hqu
          have hru := Hrt.out.fr hfu fun _ _ _ q => q
          have Hfu := Lib.hid hfu; clear hfu
          have Hru := Lib.hid hru; clear hru
          go_wp2_with fail
          refine (ring_len_n wu _ b s [] Hru.out (0) rfl).mono ?_
          rintro e wv ⟨rfl, rfl⟩
          go_wp2_with fail
          refine (ring_size wu _ b s [] Hru.out).mono ?_
          rintro e wv ⟨rfl, rfl⟩
          go_wp2_with fail
          go_roundw
          case rel => exact ⟨[], 0, i + 1, rfl, by omega, by go_num, _, _, _, _, rfl, Hft.out.trans0 Hfu.out.none, ((Ht2.out.fr Hft0.out).fr Hfu.out), Hru.out, Hwt.out.fr Hfu.out fun _ _ q => q⟩
          case measure => simp [intOf]; omega
        · have e1 : (x == -1) = false := by simp [hx1]
          clear hx0 hx1
          by_cases hfull : m < s
          · skip
            have e2 : decide ((m : Int) < s) = true := by simp; omega
            go_wp2_with fail
            refine (ring_push_yes _ _ b s q x Hr.out (by rw [Hm.out]; exact hfull)).mono ?_
            rintro e w2 ⟨rfl, hf2, hr2⟩
            have hw2 := Hwt.out.fr hf2 Htw.out.disR
            have ht2 := Htw.out.fr hf2
            have hfr2 := Hfr.out.trans0 (hf2.fromL Htw.out)
            have d0 := hfr2.cell (p := ⟨g, o + i, none⟩) (by simp [From]; omega) Hx0.out
            have Hfr2 := Lib.hid hfr2; have Hr2 := Lib.hid hr2; have Hw2 := Lib.hid hw2; have Ht2 := Lib.hid ht2
            clear hf2 hw2 ht2 hfr2 hr2
            go_wp2_with (at_builtin; refine wpList_append1 _ rfl _ _ _ rfl T 3 _ 1 8 Try.underlying28 Try.info_int rfl (by omega) (.slice A' m c') m (ints q) [.int .i64 x] rfl Hw2.out rfl rfl rfl (by omega) (by omega) ?_; intro v3 w3 hs3 hf3 hz3)
            obtain ⟨A3, c3, rfl⟩ := hs3.slice
            have hz := hf3.size
            have hq3 : (q ++ [x]).length = m + 1 := by simp [Hm.out]
            have Hq3 := Lib.hid hq3; clear hq3
            have hw4 : Sl w3 (And' T w2 w3) 3 1 (.slice A3 (m + 1) c3) (m + 1) (ints (q ++ [x])) := by
              simpa [ints] using hs3.mono (fun k hk q => there k hk q)
            have hr3 := Hr2.out.fr hf3 Ht2.out.disL
            have Ht3 := Lib.hid (Ht2.out.growR hz (by have := Hfr2.out.size; omega))
            have hfr3 := Hfr2.out.trans0 (hf3.fromR Ht2.out)
            clear hs3 hf3 hz3 hz
            go_wp2_with fail
            refine (ring_all_n _ _ b s (q ++ [x]) hr3 (m + 1) Hq3.out).mono ?_
            rintro e wt ⟨vt, rfl, hft, hst⟩
            obtain ⟨At, ct, rfl⟩ := hst.slice
            have Hft0 := Lib.hid hft
            have hrt := hr3.fr hft fun _ _ _ q => q
            have hwt := hw4.fr hft fun _ _ q => q
            have Hst := Lib.hid hst; have Hwt := Lib.hid hwt; have Hrt := Lib.hid hrt; have Hft := Lib.hid (Fr.trans0 hfr3 (Fr.none hft))
            clear hst hwt hrt hft
            go_wp2_with fail
            refine (alike_ints_n wt _ _ (q ++ [x]) (m + 1) Hq3.out Hst.out.rd Hwt.out.rd).mono ?_
            rintro e wu ⟨rfl, hqu⟩
            have hfu := Fr.ofDrew hqu; clear hqu
            have hru := Hrt.out.fr hfu fun _ _ _ q => q
            have Hfu := Lib.hid hfu; clear hfu
            have Hru := Lib.hid hru; clear hru
            go_wp2_with fail
            refine (ring_len_n wu _ b s (q ++ [x]) Hru.out (m + 1) Hq3.out).mono ?_
            rintro e wv ⟨rfl, rfl⟩
            go_wp2_with fail
            refine (ring_size wu _ b s (q ++ [x]) Hru.out).mono ?_
            rintro e wv ⟨rfl, rfl⟩
            go_wp2_with fail
            go_roundw
            case rel => exact ⟨(q ++ [x]), m + 1, i + 1, Hq3.out, by omega, by go_num, _, _, _, _, rfl, Hft.out.trans0 Hfu.out.none, ((Ht3.out.fr Hft0.out).fr Hfu.out), Hru.out, Hwt.out.fr Hfu.out fun _ _ q => q⟩
            case measure => simp [intOf]; omega
          · skip
            have e2 : decide ((m : Int) < s) = false := by simp; omega
            go_wp2_with fail
            refine (ring_push_no _ _ b s q x Hr.out (by rw [Hm.out]; omega)).mono ?_
            rintro e w2 ⟨rfl, hq2⟩
            have hf2 := Fr.ofDrew hq2; clear hq2
            have hr2 := Hr.out.fr hf2 fun _ _ _ q => q
            have hw2 := Hwt.out.fr hf2 fun _ _ q => q
            have hfr2 := Hfr.out.trans0 hf2.none
            have Ht2 := Lib.hid (Htw.out.fr hf2)
            clear hf2
            go_wp2_with fail
            refine (ring_all_n _ _ b s q hr2 (m) Hm.out).mono ?_
            rintro e wt ⟨vt, rfl, hft, hst⟩
            obtain ⟨At, ct, rfl⟩ := hst.slice
            have Hft0 := Lib.hid hft
            have hrt := hr2.fr hft fun _ _ _ q => q
            have hwt := hw2.fr hft fun _ _ q => q
            have Hst := Lib.hid hst; have Hwt := Lib.hid hwt; have Hrt := Lib.hid hrt; have Hft := Lib.hid (Fr.trans0 hfr2 (Fr.none hft))
            clear hst hwt hrt hft
            go_wp2_with fail
            refine (alike_ints_n wt _ _ q (m) Hm.out Hst.out.rd Hwt.out.rd).mono ?_
            rintro e wu ⟨rfl, hqu⟩
            have hfu := Fr.ofDrew hqu; clear hqu
            have hru := Hrt.out.fr hfu fun _ _ _ q => q
            have Hfu := Lib.hid hfu; clear hfu
            have Hru := Lib.hid hru; clear hru
            go_wp2_with fail
            refine (ring_len_n wu _ b s q Hru.out (m) Hm.out).mono ?_
            rintro e wv ⟨rfl, rfl⟩
            go_wp2_with fail
            refine (ring_size wu _ b s q Hru.out).mono ?_
            rintro e wv ⟨rfl, rfl⟩
            go_wp2_with fail
            go_roundw
            case rel => exact ⟨q, m, i + 1, Hm.out, by omega, by go_num, _, _, _, _, rfl, Hft.out.trans0 Hfu.out.none, ((Ht2.out.fr Hft0.out).fr Hfu.out), Hru.out, Hwt.out.fr Hfu.out fun _ _ q => q⟩
            case measure => simp [intOf]; omega
    · obtain rfl : i = n := by omega
      have Hfr := Lib.hid hfr
      go_wp2_with fail
      refine (ring_awake wr).mono ?_
      rintro e w' ⟨rfl, hf⟩
      go_wp2_with fail
      go_ret
      exact ⟨rfl, (Hfr.out.trans0 hf.none).below (Nat.le_refl _) fun _ q => q⟩

theorem ringActs_walk (size : Int) (v : Value) (l : List Int) (w : World) (w0 : (Lit.int .i64 size).wf = true) (h : IsInts w v l) :
    Calls Try.prog 6 #[.int .i64 size, v] w fun e w' => e = .returned (.bool true) ∧ Below w.heap.size w w' := by
  by_cases hb : 150 < l.length ∨ size < 0 ∨ 64 < size
  · exact ringActs_bad size v l w h hb
  · obtain ⟨s, rfl⟩ := Int.eq_ofNat_of_zero_le (show 0 ≤ size by omega)
    exact ringActs_good s v l w h (by omega) (by omega)

/-! The row: out of the walk above. -/
namespace ringActs
open Go.ChangeShapes Go.WideShapes Go.ChangeAt Go.RowKit
open Go.ChangeMaps (open_string shut_string)
theorem own : ownKnob Try.prog.godebug = none := by kernel_rfl
theorem laidOut : laidOutB Try.prog = true := by kernel_rfl
set_option maxRecDepth 100000 in
theorem lifted (os : Os) (started : os.Started) (H : Type) (enc : TypeId × Value → H) :
    ReturnsInHanded {} Try.checked os 6 .any (Rows.ringActsSpec.pre6 enc Try.prog Try.f6 Rows.ringActsRow.domain false) (Rows.ringActsSpec.post enc Try.prog Try.f6 false true false false) := by
  refine returnsInHanded_of_change (C := Try.checked) own started (by kernel_rfl) Try.func6
    (ChangeSpec.witness6 (enc := enc) (C := Try.checked) false ⟨#[], #[.int .i64 0, .slice none 0 0], []⟩ 8 (by kernel_rfl) (by kernel_rfl) (by kernel_rfl) (by kernel_rfl)) ?_
  intro W base args ds gs before hval0 hW hcnd _
  have hval : ∀ (j : Nat) t v, Try.f6.params[j]? = some t → args[j]? = some v → Value.okWide Try.prog W .any base t v := hval0
  have hW' := hW
  obtain ⟨p, q, hA0, hV, rfl, hfz, hnd⟩ := hW
  have hA : DataW.TrodAll enc Try.prog W 0 (fun _ => true) true Try.f6.params.toList args.toList ds p := hA0
  rw [Try.params6] at hA hval
  obtain ⟨v0, vs0, d0, ds0, p0, q0, hargs, rfl, rfl, h0, r0⟩ := trodAll_cons hA
  obtain ⟨v1, vs1, d1, ds1, p1, q1, rfl, rfl, rfl, h1, r1⟩ := trodAll_cons r0
  obtain ⟨rfl, rfl, rfl⟩ := trodAll_nil r1
  obtain rfl : args = #[v0, v1] := by cases args; simp_all
  obtain ⟨rfl, rfl⟩ := trodVars_none hV
  obtain ⟨a0, rfl, rfl, rfl, w0⟩ := open_int Try.underlying3 (hval 0 3 v0 rfl rfl) h0
  have k1 := h1
  have lt1 : ∀ x ∈ p1, x.block < W.heap.size := by obtain ⟨m, hm⟩ := k1; exact DataW.trod_lt m _ _ _ hm
  obtain ⟨x1, g1⟩ := opn_ints (hval 1 28 v1 rfl rfl) h1
  clear hA0 hval0
  refine (ringActs_walk a0 v1 x1 W w0 g1).mono fun e W' ⟨he, bel⟩ => ?_
  subst he
  exact ⟨_, rfl, _, _, _, [], _, [], hW', trodAll_mk1 (shut_bool Try.underlying4 _), (trodAll_cons_mk (shut_int Try.underlying3 w0) (trodAll_cons_mk (Below.trod laidOut (by kernel_rfl) (of_decide_eq_true (by kernel_rfl)) k1 bel lt1) trodAll_mk0)), rfl, bel.frame _, fun h => by cases h⟩
theorem over : Rows.ringActsRow.holds Try.pinned (OpenSpec.ofChange Rows.ringActsSpec) :=
  OpenClaim.holds_of_wide 6 Try.f6 rfl rfl rfl rfl rfl rfl rfl ⟨rfl, rfl, rfl, rfl, rfl⟩ rfl rfl rfl rfl rfl (by kernel_rfl) Try.func6 (by kernel_rfl)
    (of_decide_eq_true (by kernel_rfl)) (by unfold Func.isWrapper; first | (rw [if_pos (by decide +kernel)]; kernel_rfl) | (rw [if_neg (by decide +kernel)]; exact ⟨rfl, rfl⟩))
    (fun os started H enc _ => lifted os started H enc)
end ringActs
/-- THE STATEMENT. -/
theorem ringActs_holds : Rows.RingActsSaid := ringActs.over
#print axioms ringActs_holds
end Go.Proofs.Ytaghnlmfhfbhhaa
