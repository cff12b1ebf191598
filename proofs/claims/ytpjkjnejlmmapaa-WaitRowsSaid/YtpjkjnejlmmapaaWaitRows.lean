/- WaitRows answers true whatever its number and its list are; its arguments read as they did: no condition. -/
import Derived.Test.YtpjkjnejlmmapaaOpen
import Derived.Test.YtpjkjnejlmmapaaMore
import Derived.Test.YtpjkjnejlmmapaaWaitAwake
import Derived.Test.YtpjkjnejlmmapaaWaitRowsPl
import Derived.IntWalk
set_option linter.unusedVariables false
set_option linter.unusedSimpArgs false
namespace Go.Proofs.Ytpjkjnejlmmapaa
open Go.RowKit
set_option maxRecDepth 100000
theorem info_boolW : (Try.prog.info? 4).map (fun i => (i.zero, i.size, i.bytes)) = some (some (.bool false), 1, 1) := by kernel_rfl
def boolsW (l : List Bool) : List Value := l.map Value.bool
theorem boolsW_get {l : List Bool} {j : Nat} (h : j < l.length) : (boolsW l)[j]? = some (.bool (l.getD j false)) := by simp [boolsW, List.getD, h]

set_option maxHeartbeats 1000000 in
theorem waitRows_bad (n : Int) (v : Value) (l : List Int) (w : World) (h : IsInts w v l) (hb : n < 0 ∨ 60 < n ∨ 60 < l.length) :
    Calls Try.prog 8 #[.int .i64 n, v] w fun e w' => e = .returned (.bool true) ∧ Below w.heap.size w w' := by
  obtain ⟨⟨_, hl, A, c, rfl, hc1, hc2, hA⟩, hwf⟩ := h
  unfold maxLen at hl
  clear hA hwf
  have hb2 : n < 0 ∨ 60 < n ∨ (60 : Int) < (l.length : Int) := by omega
  generalize l.length = m at *
  clear hb
  go_enter Try.func8, Try.ntmps8
  go_wp2_with fail
  all_goals
    refine (wait_awake w).mono ?_
    rintro e w' ⟨rfl, hf⟩
    go_wp2_with fail
    go_ret
    exact ⟨rfl, hf.below (Nat.le_refl _) fun _ q => q.elim⟩

set_option maxHeartbeats 4000000 in
theorem waitRows_good (n : Nat) (v : Value) (l : List Int) (w : World) (h : IsInts w v l) (h2 : n ≤ 60) (hn : l.length ≤ 60) :
    Calls Try.prog 8 #[.int .i64 (n : Int), v] w fun e w' => e = .returned (.bool true) ∧ Below w.heap.size w w' := by
  obtain ⟨⟨_, hl, A, c, rfl, hc1, hc2, hA⟩, hwf⟩ := h
  have HA := Lib.hid hA
  have hd : ∀ i, i < l.length → (ints l)[i]? = some (.int .i64 (l.getD i 0)) := fun i hi => ints_get hi
  have HD := Lib.hid hd
  generalize hnn : l.length = m at *
  clear hA hwf hl hd hnn
  have g1 : ¬ (n : Int) < 0 := by omega
  have g2 : ¬ (60 : Int) < n := by omega
  have g3 : ¬ (60 : Int) < m := by omega
  have hmk : ∀ W : World, (Instr.makeSlice 38 (.int .i64 ((n : Int) + 1)) (.int .i64 ((n : Int) + 1))).run Try.prog W = .ok (.slice (some ⟨W.heap.size, 0, none⟩) (n + 1) (n + 1)) (W.alloc (.cells (madeCells #[.bool false] (n + 1)) 4)) :=
    fun W => run_make_row' (P := Try.prog) 38 4 (.bool false) 1 Try.underlying38 info_boolW rfl .i64 .i64 (n + 1) (by omega) (by omega) W
  have Hmk := Lib.hid hmk
  clear hmk
  go_enter Try.func8, Try.ntmps8
  go_wp2_with fail
  refine (wait_new w).mono ?_
  rintro e w1 ⟨b, rfl, hf1, hr1⟩
  have Hf1 := Lib.hid hf1; have Hr1 := Lib.hid hr1; clear hf1 hr1
  go_wp2_with fail
  go_loopw [6] (fun i wr => ∃ j : Nat, i = .int .i64 j ∧ j ≤ n ∧ Fr (From w.heap.size) w wr ∧ WaitAt wr (fun k => w.heap.size ≤ k ∧ k < wr.heap.size) b (wrRow j)) (fun i _ => n - (intOf i).toNat)
  case atStart => exact ⟨0, rfl, Nat.zero_le _, Hf1.out.none, Hr1.out⟩
  case round =>
    obtain ⟨j, rfl, hj, hfr, hq⟩ := hrel
    have Hfr := Lib.hid hfr; have Hq := Lib.hid hq
    clear hfr hq
    by_cases hlt : j < n
    · go_wp2_with fail
      refine (wait_push wr _ b _ ((j : Int), (0 : Int), 10 * (j : Int)) j (wrRow_len j) Hq.out (by omega)).mono ?_
      rintro e w3 ⟨rfl, hf3, hq3⟩
      rw [wrRow_snoc] at hq3
      have hz := Hfr.out.size
      have hz3 := hf3.size
      have Hf3 := Lib.hid (Hfr.out.trans0 (hf3.mono fun k _ q => q.1))
      have Hq3 : Hid (WaitAt w3 (fun k => w.heap.size ≤ k ∧ k < w3.heap.size) b (wrRow (j + 1))) := hq3.mono fun k hk q => ⟨by rcases q with q | q <;> omega, hk⟩
      clear hf3 hq3 hz hz3
      go_wp2_with fail
      go_roundw
      case rel => exact ⟨j + 1, by go_num, by omega, Hf3.out, Hq3.out⟩
      case measure => simp [intOf]; omega
    · obtain rfl : j = n := by omega
      have hmk := Hmk.out
      go_wp2_with fail
      obtain ⟨w2, hw2⟩ : ∃ w2, w2 = wr.alloc (.cells (madeCells #[.bool false] (j + 1)) 4) := ⟨_, rfl⟩
      rw [← hw2]
      have hf2 : Fr Nob wr w2 := by rw [hw2]; exact (Fr.refl _ _).alloc _
      have hs2 : Sl w2 (fun k => k = wr.heap.size) 4 1 (.slice (some ⟨wr.heap.size, 0, none⟩) (j + 1) (j + 1)) (j + 1) (boolsW (List.replicate (j + 1) false)) := by
        have := Sl.made wr 4 (.bool false) (j + 1) (fun k => k = wr.heap.size) rfl (by unfold maxLen; omega)
        rw [← hw2] at this
        simpa [boolsW] using this
      have hq2 := Hq.out.fr0 hf2
      rw [← stay_all j (j + 1)] at hq2
      have hsb0 := Hfr.out.size
      have hsb1 : wr.heap.size < w2.heap.size := by rw [hw2]; simp
      obtain ⟨sb, hsb⟩ : ∃ sb, sb = wr.heap.size := ⟨_, rfl⟩
      rw [← hsb] at hs2 hq2 hsb0 hsb1 ⊢
      have Hs2 := Lib.hid hs2; have Hq2 := Lib.hid hq2; have Hf2 := Lib.hid (Hfr.out.trans0 hf2.none)
      clear hs2 hq2 hf2 hw2 hmk hsb
      go_loopw [8] (fun i wz => ∃ (k : Nat) (g : List Bool), i = .int .i64 k ∧ k ≤ m ∧ g.length = j + 1 ∧ sb < wz.heap.size ∧ Fr (From w.heap.size) w wz ∧ WaitAt wz (fun k => w.heap.size ≤ k ∧ k < sb) b (stay g 0 j) ∧ Sl wz (fun k => k = sb) 4 1 (.slice (some ⟨sb, 0, none⟩) (j + 1) (j + 1)) (j + 1) (boolsW g)) (fun i _ => m - (intOf i).toNat)
      case atStart => exact ⟨0, List.replicate (j + 1) false, rfl, Nat.zero_le _, by simp, hsb1, Hf2.out, Hq2.out, Hs2.out⟩
      case round =>
        obtain ⟨k, g, rfl, hk, hg, hsz, hfr, hq, hs⟩ := hrel
        have Hfr := Lib.hid hfr; have Hq := Lib.hid hq; have Hs := Lib.hid hs; have Hg := Lib.hid hg
        clear hfr hq hs hg
        by_cases hlt2 : k < m
        · obtain ⟨gg, o, rfl, hgg, hc⟩ := HA.out (by omega)
          have hx := Hfr.out.cell (p := ⟨gg, o + k, none⟩) (by simp [From]; omega) (hc k _ (HD.out k hlt2))
          clear hc
          generalize l.getD k 0 = x at hx
          go_wp2_with fail
          refine (alike_round _ x ((j : Int) + 1) (by omega) (by omega)).mono ?_
          rintro e w3 ⟨rfl, rfl⟩
          have hk1 := Int.emod_nonneg x (show ((j : Int) + 1) ≠ 0 by omega)
          have hk2 := Int.emod_lt_of_pos x (show 0 < ((j : Int) + 1) by omega)
          generalize x % ((j : Int) + 1) = kk0 at *
          obtain ⟨kk, rfl⟩ := Int.eq_ofNat_of_zero_le hk1
          have hkk : kk < j + 1 := by omega
          obtain ⟨gw, ow, cw, hv, hTg, hgw, hcw, hcm, hcell, hfz⟩ := Hs.out.form (by omega)
          cases hv
          have c1 := hcell kk _ (boolsW_get (by rw [Hg.out]; exact hkk))
          rw [Nat.zero_add] at c1
          clear hcell hfz
          by_cases hkj : kk = j
          · have e1 : ((kk : Int) == (j : Int)) = true := by simp [hkj]
            have hnj : ¬ (kk < j ∧ g.getD kk false = false) := by omega
            have Hnj := Lib.hid hnj
            generalize hgb : g.getD kk false = gb at c1
            clear hgb
            have hcnt := stay_cnt g j kk
            rw [if_neg Hnj.out] at hcnt
            have hss := stay_set g j kk (by rw [Hg.out]; exact hkk)
            have Hcnt := Lib.hid hcnt; have Hss := Lib.hid hss
            clear hcnt hss hkj hnj
            go_wp2_with fail
            refine (wait_remove wr _ b (stay g 0 j) kk Hq.out).mono ?_
            rintro e w4 ⟨rfl, hf4, hq4⟩
            rw [Hcnt.out]
            rw [← Hss.out] at hq4
            have hs4 := Hs.out.fr hf4 (fun k a e => by omega)
            obtain ⟨gw, ow, cw, hv, hTg, hgw, hcw, hcm, hcell, hfz⟩ := hs4.form (by omega)
            cases hv
            have c4 := hcell kk _ (boolsW_get (by rw [Hg.out]; exact hkk))
            have f4 := hfz (0 + kk)
            rw [Nat.zero_add] at c4 f4
            generalize g.getD kk false = gb at c4
            have Hf4 := Lib.hid (Hfr.out.trans0 (hf4.mono fun k _ q => by unfold From; omega)); have Hq4 := Lib.hid hq4; have Hs4 := Lib.hid hs4
            have hz4 := hf4.size
            clear hf4 hq4 hs4 hcell hfz
            go_wp2_with fail
            go_roundw
            case rel =>
              have hst := (Fr.refl (fun k => k = sb) w4).setCell (p := ⟨sb, kk, none⟩) (.inl rfl) (.bool true)
              refine ⟨k + 1, g.set kk true, by go_num, by omega, by rw [List.length_set]; exact Hg.out, by simp; omega, Hf4.out.trans0 (hst.mono fun k _ e => by rw [e]; exact hsb0), Hq4.out.fr hst (fun k a e => by omega), ?_⟩
              have h9 := Hs4.out.set kk (by omega) (.bool true)
              rw [Nat.zero_add] at h9
              simpa [boolsW, List.map_set] using h9
            case measure => simp [intOf]; omega
          · have e1 : ((kk : Int) == (j : Int)) = false := by simp; omega
            have hkj2 : (kk : Int) < (j : Int) + 1 := by omega
            cases hgb : g.getD kk false with
            | true =>
              rw [hgb] at c1
              have hnj : ¬ (kk < j ∧ g.getD kk false = false) := by rw [hgb]; simp
              have Hnj := Lib.hid hnj
              clear hgb
              have hcnt := stay_cnt g j kk
              rw [if_neg Hnj.out] at hcnt
              have hss := stay_set g j kk (by rw [Hg.out]; exact hkk)
              have Hcnt := Lib.hid hcnt; have Hss := Lib.hid hss
              clear hcnt hss hkj hnj
              go_wp2_with fail
              refine (wait_remove wr _ b (stay g 0 j) kk Hq.out).mono ?_
              rintro e w4 ⟨rfl, hf4, hq4⟩
              rw [Hcnt.out]
              rw [← Hss.out] at hq4
              have hs4 := Hs.out.fr hf4 (fun k a e => by omega)
              obtain ⟨gw, ow, cw, hv, hTg, hgw, hcw, hcm, hcell, hfz⟩ := hs4.form (by omega)
              cases hv
              have c4 := hcell kk _ (boolsW_get (by rw [Hg.out]; exact hkk))
              have f4 := hfz (0 + kk)
              rw [Nat.zero_add] at c4 f4
              generalize g.getD kk false = gb at c4
              have Hf4 := Lib.hid (Hfr.out.trans0 (hf4.mono fun k _ q => by unfold From; omega)); have Hq4 := Lib.hid hq4; have Hs4 := Lib.hid hs4
              have hz4 := hf4.size
              clear hf4 hq4 hs4 hcell hfz
              go_wp2_with fail
              go_roundw
              case rel =>
                have hst := (Fr.refl (fun k => k = sb) w4).setCell (p := ⟨sb, kk, none⟩) (.inl rfl) (.bool true)
                refine ⟨k + 1, g.set kk true, by go_num, by omega, by rw [List.length_set]; exact Hg.out, by simp; omega, Hf4.out.trans0 (hst.mono fun k _ e => by rw [e]; exact hsb0), Hq4.out.fr hst (fun k a e => by omega), ?_⟩
                have h9 := Hs4.out.set kk (by omega) (.bool true)
                rw [Nat.zero_add] at h9
                simpa [boolsW, List.map_set] using h9
              case measure => simp [intOf]; omega
            | false =>
              rw [hgb] at c1
              have hnj : kk < j ∧ g.getD kk false = false := ⟨by omega, hgb⟩
              have Hnj := Lib.hid hnj
              clear hgb
              have hcnt := stay_cnt g j kk
              rw [if_pos Hnj.out] at hcnt
              have hss := stay_set g j kk (by rw [Hg.out]; exact hkk)
              have Hcnt := Lib.hid hcnt; have Hss := Lib.hid hss
              clear hcnt hss hkj hnj
              go_wp2_with fail
              refine (wait_remove wr _ b (stay g 0 j) kk Hq.out).mono ?_
              rintro e w4 ⟨rfl, hf4, hq4⟩
              rw [Hcnt.out]
              rw [← Hss.out] at hq4
              have hs4 := Hs.out.fr hf4 (fun k a e => by omega)
              obtain ⟨gw, ow, cw, hv, hTg, hgw, hcw, hcm, hcell, hfz⟩ := hs4.form (by omega)
              cases hv
              have c4 := hcell kk _ (boolsW_get (by rw [Hg.out]; exact hkk))
              have f4 := hfz (0 + kk)
              rw [Nat.zero_add] at c4 f4
              generalize g.getD kk false = gb at c4
              have Hf4 := Lib.hid (Hfr.out.trans0 (hf4.mono fun k _ q => by unfold From; omega)); have Hq4 := Lib.hid hq4; have Hs4 := Lib.hid hs4
              have hz4 := hf4.size
              clear hf4 hq4 hs4 hcell hfz
              go_wp2_with fail
              go_roundw
              case rel =>
                have hst := (Fr.refl (fun k => k = sb) w4).setCell (p := ⟨sb, kk, none⟩) (.inl rfl) (.bool true)
                refine ⟨k + 1, g.set kk true, by go_num, by omega, by rw [List.length_set]; exact Hg.out, by simp; omega, Hf4.out.trans0 (hst.mono fun k _ e => by rw [e]; exact hsb0), Hq4.out.fr hst (fun k a e => by omega), ?_⟩
                have h9 := Hs4.out.set kk (by omega) (.bool true)
                rw [Nat.zero_add] at h9
                simpa [boolsW, List.map_set] using h9
              case measure => simp [intOf]; omega
        · go_wp2_with fail
          obtain ⟨wA, hwA⟩ : ∃ x, x = wr := ⟨wr, rfl⟩
          subst hwA
          go_loopw [11] (fun i wz => ∃ k : Nat, i = .int .i64 k ∧ k ≤ j ∧ sb < wz.heap.size ∧ Fr (From w.heap.size) w wz ∧ WaitAt wz (fun k => w.heap.size ≤ k ∧ k < sb) b (stay g k j) ∧ Sl wz (fun k => k = sb) 4 1 (.slice (some ⟨sb, 0, none⟩) (j + 1) (j + 1)) (j + 1) (boolsW g)) (fun i _ => j - (intOf i).toNat)
          case atStart => exact ⟨0, rfl, Nat.zero_le _, hsz, Hfr.out, Hq.out, Hs.out⟩
          case round =>
            clear Hfr Hq Hs hsz
            obtain ⟨i, rfl, hi, hsz, hfr, hq, hs⟩ := hrel
            have Hfr := Lib.hid hfr; have Hq := Lib.hid hq; have Hs := Lib.hid hs
            clear hfr hq hs
            by_cases hlt3 : i < j
            · obtain ⟨gw, ow, cw, hv, hTg, hgw, hcw, hcm, hcell, hfz⟩ := Hs.out.form (by omega)
              cases hv
              have c1 := hcell i _ (boolsW_get (by rw [Hg.out]; omega))
              rw [Nat.zero_add] at c1
              have hst := stay_step g i j hlt3
              have hij : (i : Int) < (j : Int) + 1 := by omega
              clear hcell hfz
              cases hgb : g.getD i false with
              | true =>
                rw [hgb] at c1 hst
                rw [if_pos rfl] at hst
                have Hst := Lib.hid hst
                clear hst hgb
                go_wp2_with fail
                go_roundw
                case rel => exact ⟨i + 1, by go_num, by omega, hsz, Hfr.out, by rw [← Hst.out]; exact Hq.out, Hs.out⟩
                case measure => simp [intOf]; omega
              | false =>
                rw [hgb] at c1 hst
                rw [if_neg (by simp)] at hst
                have hq2 := Hq.out
                rw [hst] at hq2
                have Hq2 := Lib.hid hq2
                clear hst hgb hq2
                go_wp2_with fail
                refine (wait_pop_some wr _ b _ _ Hq2.out).mono ?_
                rintro e w4 ⟨rfl, hf4, hq4⟩
                have Hf4 := Lib.hid (Hfr.out.trans0 (hf4.mono fun k _ q => by unfold From; omega)); have Hq4 := Lib.hid hq4; have Hs4 := Lib.hid (Hs.out.fr hf4 (fun k a e => by omega))
                have hz4 := hf4.size
                clear hf4 hq4
                go_wp2_with fail
                exact ⟨⟨i + 1, by go_num, by omega, by simp; omega, Hf4.out.alloc _, Hq4.out.fr0 ((Fr.refl _ _).alloc _), Hs4.out.alloc _⟩, by simp [intOf]; omega⟩
            · obtain rfl : i = j := by omega
              have hq2 := Hq.out
              rw [stay_end] at hq2
              have Hq2 := Lib.hid hq2
              clear hq2
              go_wp2_with fail
              refine (wait_len wr _ b [] 0 rfl Hq2.out).mono ?_
              rintro e w4 ⟨rfl, rfl⟩
              go_wp2_with fail
              refine (wait_awake wr).mono ?_
              rintro e w5 ⟨rfl, hf5⟩
              go_wp2_with fail
              go_ret
              exact ⟨rfl, (Hfr.out.trans0 hf5.none).below (Nat.le_refl _) fun _ q => q⟩

theorem waitRows_walk (n : Int) (v : Value) (l : List Int) (w : World) (w0 : (Lit.int .i64 n).wf = true) (h : IsInts w v l) :
    Calls Try.prog 8 #[.int .i64 n, v] w fun e w' => e = .returned (.bool true) ∧ Below w.heap.size w w' := by
  by_cases hb : n < 0 ∨ 60 < n ∨ 60 < l.length
  · exact waitRows_bad n v l w h hb
  · obtain ⟨k, rfl⟩ := Int.eq_ofNat_of_zero_le (show 0 ≤ n by omega)
    exact waitRows_good k v l w h (by omega) (by omega)

/-! The row: out of the walk above. -/
namespace waitRows
open Go.ChangeShapes Go.WideShapes Go.ChangeAt Go.RowKit
open Go.ChangeMaps (open_string shut_string)
theorem own : ownKnob Try.prog.godebug = none := by kernel_rfl
theorem laidOut : laidOutB Try.prog = true := by kernel_rfl
set_option maxRecDepth 100000 in
theorem lifted (os : Os) (started : os.Started) (H : Type) (enc : TypeId × Value → H) :
    ReturnsInHanded {} Try.checked os 8 .any (Rows.waitRowsSpec.pre6 enc Try.prog Try.f8 Rows.waitRowsRow.domain false) (Rows.waitRowsSpec.post enc Try.prog Try.f8 false true false false) := by
  refine returnsInHanded_of_change (C := Try.checked) own started (by kernel_rfl) Try.func8
    (ChangeSpec.witness6 (enc := enc) (C := Try.checked) false ⟨#[], #[.int .i64 0, .slice none 0 0], []⟩ 8 (by kernel_rfl) (by kernel_rfl) (by kernel_rfl) (by kernel_rfl)) ?_
  intro W base args ds gs before hval0 hW hcnd _
  have hval : ∀ (j : Nat) t v, Try.f8.params[j]? = some t → args[j]? = some v → Value.okWide Try.prog W .any base t v := hval0
  have hW' := hW
  obtain ⟨p, q, hA0, hV, rfl, hfz, hnd⟩ := hW
  have hA : DataW.TrodAll enc Try.prog W 0 (fun _ => true) true Try.f8.params.toList args.toList ds p := hA0
  rw [Try.params8] at hA hval
  obtain ⟨v0, vs0, d0, ds0, p0, q0, hargs, rfl, rfl, h0, r0⟩ := trodAll_cons hA
  obtain ⟨v1, vs1, d1, ds1, p1, q1, rfl, rfl, rfl, h1, r1⟩ := trodAll_cons r0
  obtain ⟨rfl, rfl, rfl⟩ := trodAll_nil r1
  obtain rfl : args = #[v0, v1] := by cases args; simp_all
  obtain ⟨rfl, rfl⟩ := trodVars_none hV
  obtain ⟨a0, rfl, rfl, rfl, w0⟩ := open_int Try.underlying3 (hval 0 3 v0 rfl rfl) h0
  have k1 := h1
  have lt1 : ∀ x ∈ p1, x.block < W.heap.size := by obtain ⟨m, hm⟩ := k1; exact DataW.trod_lt m _ _ _ hm
  obtain ⟨x1, g1⟩ := opn_ints (hval 1 26 v1 rfl rfl) h1
  clear hA0 hval0
  refine (waitRows_walk a0 v1 x1 W w0 g1).mono fun e W' ⟨he, bel⟩ => ?_
  subst he
  exact ⟨_, rfl, _, _, _, [], _, [], hW', trodAll_mk1 (shut_bool Try.underlying4 _), (trodAll_cons_mk (shut_int Try.underlying3 w0) (trodAll_cons_mk (Below.trod laidOut (by kernel_rfl) (of_decide_eq_true (by kernel_rfl)) k1 bel lt1) trodAll_mk0)), rfl, bel.frame _, fun h => by cases h⟩
theorem over : Rows.waitRowsRow.holds Try.pinned (OpenSpec.ofChange Rows.waitRowsSpec) :=
  OpenClaim.holds_of_wide 8 Try.f8 rfl rfl rfl rfl rfl rfl rfl ⟨rfl, rfl, rfl, rfl, rfl⟩ rfl rfl rfl rfl rfl (by kernel_rfl) Try.func8 (by kernel_rfl)
    (of_decide_eq_true (by kernel_rfl)) (by unfold Func.isWrapper; first | (rw [if_pos (by decide +kernel)]; kernel_rfl) | (rw [if_neg (by decide +kernel)]; exact ⟨rfl, rfl⟩))
    (fun os started H enc _ => lifted os started H enc)
end waitRows
/-- THE STATEMENT. -/
theorem waitRows_holds : Rows.WaitRowsSaid := waitRows.over
#print axioms waitRows_holds
end Go.Proofs.Ytpjkjnejlmmapaa
