/- RingClears answers true whatever the size and the two lists are; its arguments read as they did: no condition. -/
import Derived.Test.YtaghnlmfhfbhhaaOpen
import Derived.Test.YtaghnlmfhfbhhaaRing
import Derived.Test.YtaghnlmfhfbhhaaAlike
import Derived.Test.YtaghnlmfhfbhhaaRingAwake
set_option linter.unusedVariables false
set_option linter.unusedSimpArgs false
namespace Go.Proofs.Ytaghnlmfhfbhhaa
open Go.RowKit
set_option maxRecDepth 100000

set_option maxHeartbeats 1000000 in
theorem ringClears_bad (s : Int) (v1 : Value) (l1 : List Int) (v2 : Value) (l2 : List Int) (w : World) (h1 : IsInts w v1 l1) (h2 : IsInts w v2 l2) (hb : s < 0 ∨ 64 < s ∨ 80 < l1.length ∨ 80 < l2.length) :
    Calls Try.prog 8 #[.int .i64 s, v1, v2] w fun e w' => e = .returned (.bool true) ∧ Below w.heap.size w w' := by
  have hb2 : s < 0 ∨ 64 < s ∨ (80 : Int) < (l1.length : Int) ∨ (80 : Int) < (l2.length : Int) := by clear h1 h2; omega
  obtain ⟨⟨_, hl1, A1, c1, rfl, k1, k2, k3⟩, k4⟩ := h1
  obtain ⟨⟨_, hl2, A2, c2, rfl, k5, k6, k7⟩, k8⟩ := h2
  unfold maxLen at hl1 hl2
  clear k3 k4 k7 k8
  generalize l1.length = n1 at *
  generalize l2.length = n2 at *
  clear hb
  go_enter Try.func8, Try.ntmps8
  go_wp2_with fail
  all_goals
    refine (ring_awake w).mono ?_
    rintro e w' ⟨rfl, hf⟩
    go_wp2_with fail
    go_ret
    exact ⟨rfl, hf.below (Nat.le_refl _) fun _ q => q.elim⟩

set_option maxHeartbeats 8000000 in
theorem ringClears_good (s : Nat) (v1 : Value) (l1 : List Int) (v2 : Value) (l2 : List Int) (w : World) (h1 : IsInts w v1 l1) (h2 : IsInts w v2 l2) (hs : s ≤ 64) (hn1 : l1.length ≤ 80) (hn2 : l2.length ≤ 80) :
    Calls Try.prog 8 #[.int .i64 (s : Int), v1, v2] w fun e w' => e = .returned (.bool true) ∧ Below w.heap.size w w' := by
  obtain ⟨⟨_, hl1, A1, c1, rfl, hc11, hc12, hA1⟩, _⟩ := h1
  obtain ⟨⟨_, hl2, A2, c2, rfl, hc21, hc22, hA2⟩, _⟩ := h2
  have hd1 : ∀ i, i < l1.length → (ints l1)[i]? = some (.int .i64 (l1.getD i 0)) := fun i hi => ints_get hi
  have hd2 : ∀ i, i < l2.length → (ints l2)[i]? = some (.int .i64 (l2.getD i 0)) := fun i hi => ints_get hi
  have HA1 := Lib.hid hA1; have HA2 := Lib.hid hA2; have HD1 := Lib.hid hd1; have HD2 := Lib.hid hd2
  generalize l1.length = n1 at *
  generalize l2.length = n2 at *
  clear hA1 hA2 hd1 hd2
  unfold maxLen at hl1 hl2 hc12 hc22
  have g1 : ¬ (s : Int) < 0 := by omega
  have g2 : ¬ (64 : Int) < s := by omega
  have g3 : ¬ (80 : Int) < n1 := by omega
  have g4 : ¬ (80 : Int) < n2 := by omega
  go_enter Try.func8, Try.ntmps8
  go_wp2_with fail
  refine (ring_new_good s w hs).mono ?_
  rintro e w1 ⟨a, rfl, hf1, hr1⟩
  have R1 := Lib.hid (hr1.mono (S' := fun k => w.heap.size ≤ k ∧ k < w1.heap.size) fun k hk q => ⟨q, hk⟩)
  have F1 := Lib.hid hf1
  clear hf1 hr1
  go_wp2_with fail
  refine (ring_new_good s w1 hs).mono ?_
  rintro e w2 ⟨b, rfl, hf2, hr2⟩
  have RB := Lib.hid (hr2.mono (S' := fun k => w1.heap.size ≤ k ∧ k < w2.heap.size) fun k hk q => ⟨q, hk⟩)
  have RA := Lib.hid (R1.out.fr hf2 fun _ _ _ q => q)
  have z1 := F1.out.size
  have z2 := hf2.size
  have F2 := Lib.hid (F1.out.trans0 hf2)
  clear hf2 hr2 R1
  obtain ⟨Sa, hSa⟩ : ∃ Sa : Nat → Prop, Sa = fun k => w.heap.size ≤ k ∧ k < w1.heap.size := ⟨_, rfl⟩
  obtain ⟨Sb, hSb⟩ : ∃ Sb : Nat → Prop, Sb = fun k => w1.heap.size ≤ k ∧ k < w2.heap.size := ⟨_, rfl⟩
  rw [← hSa] at RA
  rw [← hSb] at RB
  have ta : ∀ k, Sa k → w.heap.size ≤ k := fun k q => by rw [hSa] at q; exact q.1
  have tb : ∀ k, Sb k → w.heap.size ≤ k := fun k q => by rw [hSb] at q; omega
  have tab : ∀ k, Sa k → Sb k → False := fun k p q => by rw [hSa] at p; rw [hSb] at q; omega
  have Ta := Lib.hid ta; have Tb := Lib.hid tb; have Tab := Lib.hid tab
  clear hSa hSb ta tb tab
  go_wp2_with fail
  go_loopw [11, 12] (fun n i wr => ∃ (q : List Int) (m j : Nat), q.length = m ∧ n = .int .i64 m ∧ i = .int .i64 j ∧ j ≤ n1 ∧ Fr (From w.heap.size) w wr ∧ RingAt wr Sa a s q ∧ RingAt wr Sb b s []) (fun _ i _ => n1 - (intOf i).toNat)
  case atStart => exact ⟨[], 0, 0, rfl, rfl, rfl, Nat.zero_le _, F2.out.none, RA.out, RB.out⟩
  case round =>
    clear RA RB F2 F1
    obtain ⟨q, m, i, hm, rfl, rfl, hi, hfr, hra, hrb⟩ := hrel
    have hlen := hra.len
    rw [hm] at hlen
    have Hm := Lib.hid hm; have Hfr := Lib.hid hfr; have Hra := Lib.hid hra; have Hrb := Lib.hid hrb
    clear hm hfr hra hrb
    by_cases hlt : i < n1
    · obtain ⟨g, o, rfl, hg, hc⟩ := HA1.out (by omega)
      have hx := Hfr.out.cell (p := ⟨g, o + i, none⟩) (by simp [From]; omega) (hc i _ (HD1.out i hlt))
      clear hc
      generalize l1.getD i 0 = x at hx
      by_cases hev : x.tmod 2 = 0
      · have he : (x.tmod 2 == 0) = true := by simp [hev]
        clear hev
        by_cases hfull : m < s
        · go_wp2_with fail
          refine (ring_push_yes wr Sa a s q x Hra.out (by rw [Hm.out]; exact hfull)).mono ?_
          rintro e w3 ⟨rfl, hf3, hr3⟩
          have Hf3 := Lib.hid (Hfr.out.trans0 (hf3.mono fun k _ q => Ta.out k q)); have Hr3 := Lib.hid hr3; have Hb3 := Lib.hid (Hrb.out.fr hf3 fun k _ p q => Tab.out k q p)
          clear hf3 hr3
          go_wp2_with fail
          go_roundw
          case rel => exact ⟨q ++ [x], m + 1, i + 1, by rw [List.length_append, Hm.out]; rfl, by go_num, by go_num, by omega, Hf3.out, Hr3.out, Hb3.out⟩
          case measure => simp [intOf]; omega
        · go_wp2_with fail
          refine (ring_push_no wr Sa a s q x Hra.out (by rw [Hm.out]; omega)).mono ?_
          rintro e w3 ⟨rfl, hq3⟩
          have hf3 := Fr.ofDrew hq3
          have Hf3 := Lib.hid (Hfr.out.trans0 hf3.none); have Hr3 := Lib.hid (Hra.out.fr hf3 fun _ _ _ q => q); have Hb3 := Lib.hid (Hrb.out.fr hf3 fun _ _ _ q => q)
          clear hf3 hq3
          go_wp2_with fail
          go_roundw
          case rel => exact ⟨q, m, i + 1, Hm.out, rfl, by go_num, by omega, Hf3.out, Hr3.out, Hb3.out⟩
          case measure => simp [intOf]; omega
      · have he : (x.tmod 2 == 0) = false := by simp [hev]
        clear hev
        rcases q with _ | ⟨y, q⟩
        · obtain rfl : m = 0 := Hm.out.symm
          go_wp2_with fail
          refine (ring_pop_none wr Sa a s Hra.out).mono ?_
          rintro e w3 ⟨rfl, hq3⟩
          have hf3 := Fr.ofDrew hq3
          have Hf3 := Lib.hid (Hfr.out.trans0 hf3.none); have Hr3 := Lib.hid (Hra.out.fr hf3 fun _ _ _ q => q); have Hb3 := Lib.hid (Hrb.out.fr hf3 fun _ _ _ q => q)
          clear hf3 hq3
          go_wp2_with fail
          go_roundw
          case rel => exact ⟨[], 0, i + 1, rfl, rfl, by go_num, by omega, Hf3.out, Hr3.out, Hb3.out⟩
          case measure => simp [intOf]; omega
        · obtain ⟨m, rfl⟩ : ∃ m', m = m' + 1 := ⟨q.length, Hm.out.symm⟩
          go_wp2_with fail
          refine (ring_pop_some wr Sa a s y q Hra.out).mono ?_
          rintro e w3 ⟨rfl, hf3, hr3⟩
          have Hf3 := Lib.hid (Hfr.out.trans0 (hf3.mono fun k _ q => Ta.out k q)); have Hr3 := Lib.hid hr3; have Hb3 := Lib.hid (Hrb.out.fr hf3 fun k _ p q => Tab.out k q p)
          clear hf3 hr3
          go_wp2_with fail
          go_roundw
          case rel => exact ⟨q, m, i + 1, by simpa using Hm.out, by go_num, by go_num, by omega, Hf3.out, Hr3.out, Hb3.out⟩
          case measure => simp [intOf]; omega
    · obtain rfl : i = n1 := by omega
      go_wp2_with fail
      refine (ring_clear wr Sa a s q Hra.out).mono ?_
      rintro e w3 ⟨rfl, hf3, hr3⟩
      rw [Hm.out]
      have Hf3 := Lib.hid (Hfr.out.trans0 (hf3.mono fun k _ q => Ta.out k q)); have Hr3 := Lib.hid hr3; have Hb3 := Lib.hid (Hrb.out.fr hf3 fun k _ p q => Tab.out k q p)
      clear hf3 hr3
      go_wp2_with fail
      refine (ring_clear w3 Sa a s [] Hr3.out).mono ?_
      rintro e w4 ⟨rfl, hf4, hr4⟩
      have Hf4 := Lib.hid (Hf3.out.trans0 (hf4.mono fun k _ q => Ta.out k q)); have Hr4 := Lib.hid hr4; have Hb4 := Lib.hid (Hb3.out.fr hf4 fun k _ p q => Tab.out k q p)
      clear hf4 hr4
      go_wp2_with fail
      refine (ring_len w4 Sa a s [] Hr4.out).mono ?_
      rintro e w5 ⟨rfl, rfl⟩
      go_wp2_with fail
      refine (ring_all_n w4 Sa a s [] Hr4.out 0 rfl).mono ?_
      rintro e w5 ⟨vt, rfl, hf5, hs5⟩
      obtain ⟨At, ct, rfl⟩ := hs5.slice
      have Hf5 := Lib.hid (Hf4.out.trans0 hf5.none); have Hr5 := Lib.hid (Hr4.out.fr hf5 fun _ _ _ q => q); have Hb5 := Lib.hid (Hb4.out.fr hf5 fun _ _ _ q => q)
      clear hf5 hs5
      go_wp2_with fail
      go_loopw [15] (fun j wz => ∃ (q : List Int) (j' : Nat), j = .int .i64 j' ∧ j' ≤ n2 ∧ Fr (From w.heap.size) w wz ∧ RingAt wz Sa a s q ∧ RingAt wz Sb b s q) (fun j _ => n2 - (intOf j).toNat)
      case atStart => exact ⟨[], 0, rfl, Nat.zero_le _, Hf5.out, Hr5.out, Hb5.out⟩
      case round =>
        clear Hf5 Hr5 Hb5
        obtain ⟨q, j, rfl, hj, hfr, hra, hrb⟩ := hrel
        have hlen := hra.len
        obtain ⟨m, hm⟩ : ∃ m, q.length = m := ⟨_, rfl⟩
        rw [hm] at hlen
        have Hm2 := Lib.hid hm; have Hfr := Lib.hid hfr; have Hra := Lib.hid hra; have Hrb := Lib.hid hrb
        clear hm hfr hra hrb
        by_cases hlt : j < n2
        · obtain ⟨g, o, rfl, hg, hc⟩ := HA2.out (by omega)
          have hx0 := hc j _ (HD2.out j hlt)
          have hx := Hfr.out.cell (p := ⟨g, o + j, none⟩) (by simp [From]; omega) hx0
          have Hx0 := Lib.hid hx0
          have hji : (j : Int) < n2 := by omega
          clear hc hx0
          generalize l2.getD j 0 = x at *
          have hfa := Hra.out.mem; have hfb := Hrb.out.mem
          by_cases hfull : m < s
          · go_wp2_with fail
            go_region_held3 (fun wz => wz.cell? ⟨g, o + j, none⟩ = some (.int .i64 x))
              (first | go_keep | exact Hf4.out.cell (p := ⟨g, o + j, none⟩) (by simp [From]; omega) Hx0.out | exact Hf3.out.cell (p := ⟨g, o + j, none⟩) (by simp [From]; omega) Hx0.out)
              ((first | (go_at_call_of 33 (Value.pointer (some ⟨a, 0, none⟩)); refine (ring_push_yes _ Sa a s q x (Hra.out.fr ((Fr.refl Nob wr).drew) fun _ _ _ q => q) (by rw [Hm2.out]; exact hfull)).mono ?_; rintro e w3 ⟨rfl, hf3, hr3⟩; have Hf3 := Lib.hid ((Hfr.out.drew).trans0 (hf3.mono fun k _ q => Ta.out k q)); have Hr3 := Lib.hid hr3; have Hb3 := Lib.hid ((Hrb.out.fr ((Fr.refl Nob wr).drew) fun _ _ _ q => q).fr hf3 fun k _ p q => Tab.out k q p); clear hf3 hr3) | (go_at_call_of 33 (Value.pointer (some ⟨b, 0, none⟩)); refine (ring_push_yes _ Sb b s q x Hb3.out (by rw [Hm2.out]; exact hfull)).mono ?_; rintro e w4 ⟨rfl, hf4, hr4⟩; have Hf4 := Lib.hid (Hf3.out.trans0 (hf4.mono fun k _ q => Tb.out k q)); have Hr4 := Lib.hid hr4; have Ha4 := Lib.hid (Hr3.out.fr hf4 fun k _ p q => Tab.out k p q); clear hf4 hr4)))
            go_wp2_with fail
            go_roundw
            case rel => exact ⟨q ++ [x], j + 1, by go_num, by omega, Hf4.out, Ha4.out, Hr4.out⟩
            case measure => simp [intOf]; omega
          · go_wp2_with fail
            go_region_held3 (fun wz => wz.cell? ⟨g, o + j, none⟩ = some (.int .i64 x))
              (first | go_keep | exact Hf4.out.cell (p := ⟨g, o + j, none⟩) (by simp [From]; omega) Hx0.out | exact Hf3.out.cell (p := ⟨g, o + j, none⟩) (by simp [From]; omega) Hx0.out)
              ((first | (go_at_call_of 33 (Value.pointer (some ⟨a, 0, none⟩)); refine (ring_push_no _ Sa a s q x (Hra.out.fr ((Fr.refl Nob wr).drew) fun _ _ _ q => q) (by rw [Hm2.out]; omega)).mono ?_; rintro e w3 ⟨rfl, hq3⟩; have hf3 := Fr.ofDrew hq3; have Hf3 := Lib.hid ((Hfr.out.drew).trans0 hf3.none); have Hr3 := Lib.hid ((Hra.out.fr ((Fr.refl Nob wr).drew) fun _ _ _ q => q).fr hf3 fun _ _ _ q => q); have Hb3 := Lib.hid ((Hrb.out.fr ((Fr.refl Nob wr).drew) fun _ _ _ q => q).fr hf3 fun _ _ _ q => q); clear hf3 hq3) | (go_at_call_of 33 (Value.pointer (some ⟨b, 0, none⟩)); refine (ring_push_no _ Sb b s q x Hb3.out (by rw [Hm2.out]; omega)).mono ?_; rintro e w4 ⟨rfl, hq4⟩; have hf4 := Fr.ofDrew hq4; have Hf4 := Lib.hid (Hf3.out.trans0 hf4.none); have Hr4 := Lib.hid (Hb3.out.fr hf4 fun _ _ _ q => q); have Ha4 := Lib.hid (Hr3.out.fr hf4 fun _ _ _ q => q); clear hf4 hq4)))
            go_wp2_with fail
            go_roundw
            case rel => exact ⟨q, j + 1, by go_num, by omega, Hf4.out, Ha4.out, Hr4.out⟩
            case measure => simp [intOf]; omega
        · go_wp2_with fail
          refine (ring_all_n wr Sa a s q Hra.out m Hm2.out).mono ?_
          rintro e w3 ⟨va, rfl, hf3, hs3⟩
          obtain ⟨Aa, ca, rfl⟩ := hs3.slice
          have Hf3 := Lib.hid (Hfr.out.trans0 hf3.none); have Hb3 := Lib.hid (Hrb.out.fr hf3 fun _ _ _ q => q); have Hs3 := Lib.hid hs3
          clear hf3 hs3
          go_wp2_with fail
          refine (ring_all_n w3 Sb b s q Hb3.out m Hm2.out).mono ?_
          rintro e w4 ⟨vb, rfl, hf4, hs4⟩
          obtain ⟨Ab, cb, rfl⟩ := hs4.slice
          have Hf4 := Lib.hid (Hf3.out.trans0 hf4.none); have Hs4 := Lib.hid hs4; have Hs3' := Lib.hid (Hs3.out.fr hf4 fun _ _ q => q)
          clear hf4 hs4
          go_wp2_with fail
          refine (alike_ints_n w4 _ _ q m Hm2.out Hs3'.out.rd Hs4.out.rd).mono ?_
          rintro e w5 ⟨rfl, hq5⟩
          have Hf5 := Lib.hid (Hf4.out.trans0 (Fr.ofDrew hq5).none)
          clear hq5
          go_wp2_with fail
          refine (ring_awake w5).mono ?_
          rintro e w6 ⟨rfl, hf6⟩
          go_wp2_with fail
          go_ret
          exact ⟨rfl, (Hf5.out.trans0 hf6.none).below (Nat.le_refl _) fun _ q => q⟩

theorem ringClears_walk (s : Int) (v1 : Value) (l1 : List Int) (v2 : Value) (l2 : List Int) (w : World) (w0 : (Lit.int .i64 s).wf = true) (h1 : IsInts w v1 l1) (h2 : IsInts w v2 l2) :
    Calls Try.prog 8 #[.int .i64 s, v1, v2] w fun e w' => e = .returned (.bool true) ∧ Below w.heap.size w w' := by
  clear w0
  by_cases hb : s < 0 ∨ 64 < s ∨ 80 < l1.length ∨ 80 < l2.length
  · exact ringClears_bad s v1 l1 v2 l2 w h1 h2 hb
  · obtain ⟨k, rfl⟩ := Int.eq_ofNat_of_zero_le (show 0 ≤ s by clear h1 h2; omega)
    exact ringClears_good k v1 l1 v2 l2 w h1 h2 (by clear h1 h2; omega) (by clear h1 h2; omega) (by clear h1 h2; omega)

/-! The row: out of the walk above. -/
namespace ringClears
open Go.ChangeShapes Go.WideShapes Go.ChangeAt Go.RowKit
open Go.ChangeMaps (open_string shut_string)
theorem own : ownKnob Try.prog.godebug = none := by kernel_rfl
theorem laidOut : laidOutB Try.prog = true := by kernel_rfl
set_option maxRecDepth 100000 in
theorem lifted (os : Os) (started : os.Started) (H : Type) (enc : TypeId × Value → H) :
    ReturnsInHanded {} Try.checked os 8 .any (Rows.ringClearsSpec.pre6 enc Try.prog Try.f8 Rows.ringClearsRow.domain false) (Rows.ringClearsSpec.post enc Try.prog Try.f8 false true false false) := by
  refine returnsInHanded_of_change (C := Try.checked) own started (by kernel_rfl) Try.func8
    (ChangeSpec.witness6 (enc := enc) (C := Try.checked) false ⟨#[], #[.int .i64 0, .slice none 0 0, .slice none 0 0], []⟩ 8 (by kernel_rfl) (by kernel_rfl) (by kernel_rfl) (by kernel_rfl)) ?_
  intro W base args ds gs before hval0 hW hcnd _
  have hval : ∀ (j : Nat) t v, Try.f8.params[j]? = some t → args[j]? = some v → Value.okWide Try.prog W .any base t v := hval0
  have hW' := hW
  obtain ⟨p, q, hA0, hV, rfl, hfz, hnd⟩ := hW
  have hA : DataW.TrodAll enc Try.prog W 0 (fun _ => true) true Try.f8.params.toList args.toList ds p := hA0
  rw [Try.params8] at hA hval
  obtain ⟨v0, vs0, d0, ds0, p0, q0, hargs, rfl, rfl, h0, r0⟩ := trodAll_cons hA
  obtain ⟨v1, vs1, d1, ds1, p1, q1, rfl, rfl, rfl, h1, r1⟩ := trodAll_cons r0
  obtain ⟨v2, vs2, d2, ds2, p2, q2, rfl, rfl, rfl, h2, r2⟩ := trodAll_cons r1
  obtain ⟨rfl, rfl, rfl⟩ := trodAll_nil r2
  obtain rfl : args = #[v0, v1, v2] := by cases args; simp_all
  obtain ⟨rfl, rfl⟩ := trodVars_none hV
  obtain ⟨a0, rfl, rfl, rfl, w0⟩ := open_int Try.underlying3 (hval 0 3 v0 rfl rfl) h0
  have k1 := h1
  have lt1 : ∀ x ∈ p1, x.block < W.heap.size := by obtain ⟨m, hm⟩ := k1; exact DataW.trod_lt m _ _ _ hm
  obtain ⟨x1, g1⟩ := opn_ints (hval 1 28 v1 rfl rfl) h1
  have k2 := h2
  have lt2 : ∀ x ∈ p2, x.block < W.heap.size := by obtain ⟨m, hm⟩ := k2; exact DataW.trod_lt m _ _ _ hm
  obtain ⟨x2, g2⟩ := opn_ints (hval 2 28 v2 rfl rfl) h2
  clear hA0 hval0
  refine (ringClears_walk a0 v1 x1 v2 x2 W w0 g1 g2).mono fun e W' ⟨he, bel⟩ => ?_
  subst he
  exact ⟨_, rfl, _, _, _, [], _, [], hW', trodAll_mk1 (shut_bool Try.underlying4 _), (trodAll_cons_mk (shut_int Try.underlying3 w0) (trodAll_cons_mk (Below.trod laidOut (by kernel_rfl) (of_decide_eq_true (by kernel_rfl)) k1 bel lt1) (trodAll_cons_mk (Below.trod laidOut (by kernel_rfl) (of_decide_eq_true (by kernel_rfl)) k2 bel lt2) trodAll_mk0))), rfl, bel.frame _, fun h => by cases h⟩
theorem over : Rows.ringClearsRow.holds Try.pinned (OpenSpec.ofChange Rows.ringClearsSpec) :=
  OpenClaim.holds_of_wide 8 Try.f8 rfl rfl rfl rfl rfl rfl rfl ⟨rfl, rfl, rfl, rfl, rfl⟩ rfl rfl rfl rfl rfl (by kernel_rfl) Try.func8 (by kernel_rfl)
    (of_decide_eq_true (by kernel_rfl)) (by unfold Func.isWrapper; first | (rw [if_pos (by decide +kernel)]; kernel_rfl) | (rw [if_neg (by decide +kernel)]; exact ⟨rfl, rfl⟩))
    (fun os started H enc _ => lifted os started H enc)
end ringClears
/-- THE STATEMENT. -/
theorem ringClears_holds : Rows.RingClearsSaid := ringClears.over
#print axioms ringClears_holds
end Go.Proofs.Ytaghnlmfhfbhhaa
