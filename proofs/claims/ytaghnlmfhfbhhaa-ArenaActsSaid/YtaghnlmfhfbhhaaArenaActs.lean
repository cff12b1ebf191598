/- ArenaActs answers true whatever the size and the acts are; its arguments read as they did: no condition. -/
import Derived.Test.YtaghnlmfhfbhhaaOpen
import Derived.Test.YtaghnlmfhfbhhaaArena
import Derived.Test.YtaghnlmfhfbhhaaArenaAwake
set_option linter.unusedVariables false
set_option linter.unusedSimpArgs false
namespace Go.Proofs.Ytaghnlmfhfbhhaa
open Go.RowKit
set_option maxRecDepth 100000

set_option maxHeartbeats 1000000 in
theorem arenaActs_big (most : Int) (v : Value) (l : List (Int × Int)) (w : World) (h : IsPairs w v l) (hb : 80 < l.length) :
    Calls Try.prog 3 #[.int .i64 most, v] w fun e w' => e = .returned (.bool true) ∧ Below w.heap.size w w' := by
  obtain ⟨⟨_, hl, A, c, rfl, hc1, hc2, hA⟩, hwf⟩ := h
  unfold maxLen at hl
  clear hA hwf
  generalize l.length = n at *
  go_enter Try.func3, Try.ntmps3
  go_wp2_with fail
  refine (arena_awake w).mono ?_
  rintro e w' ⟨rfl, hf⟩
  go_wp2_with fail
  go_ret
  exact ⟨rfl, hf.below (Nat.le_refl _) fun _ q => q.elim⟩
set_option maxHeartbeats 1000000 in
theorem arenaActs_bad (most : Int) (v : Value) (l : List (Int × Int)) (w : World) (h : IsPairs w v l) (hl : l.length ≤ 80) (hb : most < 1 ∨ 1000 < most) :
    Calls Try.prog 3 #[.int .i64 most, v] w fun e w' => e = .returned (.bool true) ∧ Below w.heap.size w w' := by
  obtain ⟨⟨_, _, A, c, rfl, hc1, hc2, hA⟩, hwf⟩ := h
  clear hA hwf
  generalize l.length = n at *
  go_enter Try.func3, Try.ntmps3
  go_wp2_with fail
  refine (arena_int_new_bad most w hb).mono ?_
  rintro e w' ⟨rfl, rfl⟩
  go_wp2_with fail
  all_goals
    refine (arena_awake w).mono ?_
    rintro e w' ⟨rfl, hf⟩
    go_wp2_with fail
    go_ret
    exact ⟨rfl, hf.below (Nat.le_refl _) fun _ q => q.elim⟩

set_option maxHeartbeats 8000000 in
theorem arenaActs_good (m : Nat) (v : Value) (l : List (Int × Int)) (w : World) (h : IsPairs w v l) (hn : l.length ≤ 80) (hm1 : 1 ≤ m) (hm2 : m ≤ 1000) :
    Calls Try.prog 3 #[.int .i64 (m : Int), v] w fun e w' => e = .returned (.bool true) ∧ Below w.heap.size w w' := by
  obtain ⟨⟨_, hl, A, c, rfl, hc1, hc2, hA⟩, hwf⟩ := h
  have HA := Lib.hid hA
  have hd : ∀ i, i < l.length → (pairs l)[i * 2]? = some (.int .i64 (l.getD i (0, 0)).1) ∧ (pairs l)[i * 2 + 1]? = some (.int .i64 (l.getD i (0, 0)).2) := fun i hi => by
    have h0 : l[i]? = some (l.getD i (0, 0)) := by simp [List.getD, hi]
    exact ⟨flat_get (sz := 2) _ l (fun _ _ => rfl) i 0 _ h0 (by omega), flat_get (sz := 2) _ l (fun _ _ => rfl) i 1 _ h0 (by omega)⟩
  have HD := Lib.hid hd
  generalize hnn : l.length = N at *
  clear hA hwf hl hd hnn
  have h1 : ¬ (m : Int) < 1 := by omega
  have h2 : ¬ (1000 : Int) < m := by omega
  have h3 : ¬ (80 : Int) < N := by omega
  go_enter Try.func3, Try.ntmps3
  go_wp2_with fail
  refine (arena_int_new_good m w hm1 hm2).mono ?_
  rintro e w1 ⟨a, rfl, hf1, hr1⟩
  have Hf1 := Lib.hid hf1; have Hr1 := Lib.hid hr1; clear hf1 hr1
  go_wp2_with fail
  go_loopw [7, 8] (fun wt i wr => ∃ (q : List Int) (n j : Nat), q.length = n ∧ j ≤ N ∧ i = .int .i64 j ∧ ∃ A c S T, wt = .slice A n c ∧ Fr (From w.heap.size) w wr ∧ Two w.heap.size wr S T ∧ ArenaAt 78 3 1 wr S a m n (ints q) ∧ Sl wr T 3 1 (.slice A n c) n (ints q)) (fun _ i _ => N - (intOf i).toNat)
  case atStart => exact ⟨[], 0, 0, rfl, Nat.zero_le _, rfl, none, 0, _, Nob, rfl, Hf1.out.none, ⟨fun k q => q, fun k q => q.elim, fun k a b => b⟩, Hr1.out, Sl.nil _ _ _ _⟩
  case round =>
    obtain ⟨q, n, i, hn', hi, rfl, A', c', S, T, rfl, hfr, htw, ha, hwt⟩ := hrel
    have hbd := ha.bound
    have Htw := Lib.hid htw; have Hn := Lib.hid hn'; have Hfr := Lib.hid hfr; have Ha := Lib.hid ha; have Hwt := Lib.hid hwt
    clear htw hn' hfr ha hwt
    by_cases hlt : i < N
    · obtain ⟨g, o, rfl, hg, hc⟩ := HA.out (by omega)
      have hx0 := hc _ _ (HD.out i hlt).1
      have hy0 := hc _ _ (HD.out i hlt).2
      have hx := Hfr.out.cell (p := ⟨g, o + i * 2, none⟩) (by simp [From]; omega) hx0
      have hy := Hfr.out.cell (p := ⟨g, o + (i * 2 + 1), none⟩) (by simp [From]; omega) hy0
      rw [← Nat.add_assoc] at hy
      clear hc hx0 hy0
      generalize (l.getD i (0, 0)).1 = x at *
      generalize (l.getD i (0, 0)).2 = y at *
      have hi1 : (i : Int) < N := by omega
      by_cases hneg : x < 0
      · by_cases hfull : n < m
        · have hge : ¬ (m : Int) ≤ n := by omega
          go_wp2_with fail
          go_quiet (fail)
          obtain ⟨wq, hwq⟩ : ∃ wq, wq = wr.drewN nq := ⟨_, rfl⟩
          rw [← hwq]
          have hfq : Fr Nob wr wq := by rw [hwq]; exact (Fr.refl _ _).drewN nq
          clear hwq
          have Ha := Lib.hid (Ha.out.fr hfq fun _ _ q => q)
          have Hwt := Lib.hid (Hwt.out.fr hfq fun _ _ q => q)
          have Hfr := Lib.hid (Hfr.out.trans0 hfq.none)
          have Htw := Lib.hid (Htw.out.fr hfq)
          clear hfq
          have hnm : n < m := hfull
          go_wp2_with fail
          refine (arena_int_add _ _ a m n _ y Ha.out hnm).mono ?_
          rintro e w2 ⟨rfl, hf2, ha2⟩
          have hw2 := Hwt.out.fr hf2 Htw.out.disR
          have hfr2 := Hfr.out.trans0 (hf2.fromL Htw.out)
          have ht2 := Htw.out.growL hf2.size Hfr.out.size
          have Ha2 := Lib.hid ha2; have Hw2 := Lib.hid hw2; have Hfr2 := Lib.hid hfr2; have Ht2 := Lib.hid ht2
          clear hf2 ha2 hw2 hfr2 ht2
          go_wp2_with (at_builtin; refine wpList_append1 _ rfl _ _ _ rfl T 3 _ 1 8 Try.underlying28 Try.info_int rfl (by omega) (.slice A' n c') n (ints q) [.int .i64 y] rfl Hw2.out rfl rfl rfl (by omega) (by omega) ?_; intro v3 w3 hs3 hf3 hz3)
          obtain ⟨A3, c3, rfl⟩ := hs3.slice
          have hz := hf3.size
          have hq3 : (q ++ [y]).length = n + 1 := by simp [Hn.out]
          have Hq3 := Lib.hid hq3; clear hq3
          have hw4 : Sl w3 (And' T w2 w3) 3 1 (.slice A3 (n + 1) c3) (n + 1) (ints (q ++ [y])) := by
            simpa [ints] using hs3.mono (fun k hk q => there k hk q)
          have ha3 : ArenaAt 78 3 1 w3 (And' S wq w2) a m (n + 1) (ints (q ++ [y])) := by
            simpa [ints] using Ha2.out.fr hf3 fun k p q => Ht2.out.dis k p q
          have Ht3 := Lib.hid (Ht2.out.growR hz (by have := Hfr2.out.size; omega))
          have hfr3 := Hfr2.out.trans0 (hf3.fromR Ht2.out)
          clear hs3 hf3 hz3 hz
          have Ha5 := Lib.hid ha3; have Hw5 := Lib.hid hw4; have Hn5 : Hid ((q ++ [y]).length = n + 1) := Hq3.out; have Hf5 := Lib.hid hfr3; have Ht5 := Lib.hid Ht3.out
          go_wp2_with fail
          refine (arena_int_len w3 _ a m (n + 1) _ Ha5.out).mono ?_
          rintro e w6 ⟨rfl, rfl⟩
          go_wp2_with fail
          refine (arena_int_left w3 _ a m (n + 1) _ Ha5.out).mono ?_
          rintro e w6 ⟨rfl, hq6⟩
          have hf6 := Fr.ofDrew hq6; clear hq6
          have Hf6 := Lib.hid (Hf5.out.trans0 hf6.none)
          have Ht6 := Lib.hid (Ht5.out.fr hf6)
          have Ha6 := Lib.hid (Ha5.out.fr hf6 fun _ _ q => q)
          have Hw6 := Lib.hid (Hw5.out.fr hf6 fun _ _ q => q)
          clear hf6
          obtain ⟨nn, hnn⟩ : ∃ nn : Nat, nn = n + 1 := ⟨_, rfl⟩
          go_wp2_with fail
          go_loopw [13] (fun i wr => ∃ j : Nat, i = .int .i64 j ∧ j ≤ n + 1 + 1 ∧ Fr Nob w6 wr) (fun i _ => n + 1 + 1 - (intOf i).toNat)
          case atStart => exact ⟨0, rfl, by omega, Fr.refl _ _⟩
          case round =>
            rename_i wr6 _
            obtain ⟨j, rfl, hj, hfj⟩ := hrel
            have Ha7 := Lib.hid (Ha6.out.fr hfj fun _ _ q => q)
            have Hw7 := Lib.hid (Hw6.out.fr hfj fun _ _ q => q)
            have Hfj := Lib.hid hfj; clear hfj
            by_cases hj1 : j < n + 1
            · obtain ⟨gw, ow, cw, hv, hTg, hgw, hcw, hcm, hcell, _⟩ := Hw7.out.form (by omega)
              cases hv
              have hx7 := hcell j _ (ints_get (by rw [Hn5.out]; exact hj1))
              have hg7 : (ints (q ++ [y]))[j]? = some (.int .i64 ((q ++ [y]).getD j 0)) := ints_get (by rw [Hn5.out]; exact hj1)
              generalize (q ++ [y]).getD j 0 = y at *
              have Hg7 := Lib.hid hg7; have Hx7 := Lib.hid hx7
              clear hcell hg7 hx7
              go_wp2_with fail
              refine (arena_int_get _ _ a m (n + 1) _ j y Ha7.out hj1 Hg7.out).mono ?_
              rintro e w8 ⟨rfl, hf8⟩
              have hx8 := hf8.cell id Hx7.out
              have Hf8 := Lib.hid hf8; clear hf8
              go_wp2_with fail
              go_roundw
              case rel => exact ⟨j + 1, by go_num, by omega, Hfj.out.trans0 Hf8.out⟩
              case measure => simp [intOf]; omega
            · by_cases hj2 : j = n + 1
              · have hj3 := hj2.symm; clear hj2
                subst hj3
                go_wp2_with fail
                refine (arena_int_get_no _ _ a m _ _ _ Ha7.out (.inr (by omega))).mono ?_
                rintro e w8 ⟨rfl, hf8⟩
                have Hf8 := Lib.hid hf8; clear hf8
                go_wp2_with fail
                go_roundw
                case rel => exact ⟨n + 1 + 1, by go_num, by omega, Hfj.out.trans0 Hf8.out⟩
                case measure => first | (simp [intOf]; omega) | simp [intOf]
              · have hj3 : ¬ (j : Int) ≤ (n + 1 : Nat) := by omega
                go_wp2_with fail
                go_roundw
                case rel => exact ⟨q ++ [y], n + 1, i + 1, Hn5.out, by omega, by go_num, _, _, _, _, rfl, Hf6.out.trans0 Hfj.out.none, Ht6.out.fr Hfj.out, Ha7.out, Hw7.out⟩
                case measure => simp [intOf]; omega
        · have hge : (m : Int) ≤ n := by omega
          go_wp2_with fail
          go_quiet (fail)
          obtain ⟨wq, hwq⟩ : ∃ wq, wq = wr.drewN nq := ⟨_, rfl⟩
          rw [← hwq]
          have hfq : Fr Nob wr wq := by rw [hwq]; exact (Fr.refl _ _).drewN nq
          clear hwq
          have Ha := Lib.hid (Ha.out.fr hfq fun _ _ q => q)
          have Hwt := Lib.hid (Hwt.out.fr hfq fun _ _ q => q)
          have Hfr := Lib.hid (Hfr.out.trans0 hfq.none)
          have Htw := Lib.hid (Htw.out.fr hfq)
          clear hfq
          have hnm : n = m := by omega
          subst hnm
          go_wp2_with fail
          refine (arena_int_add_full _ _ a n _ y Ha.out).mono ?_
          rintro e w2 ⟨rfl, hf2⟩
          have ha2 := Ha.out.fr hf2 fun _ _ q => q
          have hw2 := Hwt.out.fr hf2 fun _ _ q => q
          have hfr2 := Hfr.out.trans0 hf2.none
          have Ht2 := Lib.hid (Htw.out.fr hf2)
          clear hf2
          have Ha5 := Lib.hid ha2; have Hw5 := Lib.hid hw2; have Hn5 : Hid ((q).length = n) := Hn.out; have Hf5 := Lib.hid hfr2; have Ht5 := Lib.hid Ht2.out
          go_wp2_with fail
          refine (arena_int_len w2 _ a n (n) _ Ha5.out).mono ?_
          rintro e w6 ⟨rfl, rfl⟩
          go_wp2_with fail
          refine (arena_int_left w2 _ a n (n) _ Ha5.out).mono ?_
          rintro e w6 ⟨rfl, hq6⟩
          have hf6 := Fr.ofDrew hq6; clear hq6
          have Hf6 := Lib.hid (Hf5.out.trans0 hf6.none)
          have Ht6 := Lib.hid (Ht5.out.fr hf6)
          have Ha6 := Lib.hid (Ha5.out.fr hf6 fun _ _ q => q)
          have Hw6 := Lib.hid (Hw5.out.fr hf6 fun _ _ q => q)
          clear hf6
          obtain ⟨nn, hnn⟩ : ∃ nn : Nat, nn = n := ⟨_, rfl⟩
          go_wp2_with fail
          go_loopw [13] (fun i wr => ∃ j : Nat, i = .int .i64 j ∧ j ≤ n + 1 ∧ Fr Nob w6 wr) (fun i _ => n + 1 - (intOf i).toNat)
          case atStart => exact ⟨0, rfl, by omega, Fr.refl _ _⟩
          case round =>
            rename_i wr6 _
            obtain ⟨j, rfl, hj, hfj⟩ := hrel
            have Ha7 := Lib.hid (Ha6.out.fr hfj fun _ _ q => q)
            have Hw7 := Lib.hid (Hw6.out.fr hfj fun _ _ q => q)
            have Hfj := Lib.hid hfj; clear hfj
            by_cases hj1 : j < n
            · obtain ⟨gw, ow, cw, hv, hTg, hgw, hcw, hcm, hcell, _⟩ := Hw7.out.form (by omega)
              cases hv
              have hx7 := hcell j _ (ints_get (by rw [Hn5.out]; exact hj1))
              have hg7 : (ints (q))[j]? = some (.int .i64 ((q).getD j 0)) := ints_get (by rw [Hn5.out]; exact hj1)
              generalize (q).getD j 0 = y at *
              have Hg7 := Lib.hid hg7; have Hx7 := Lib.hid hx7
              clear hcell hg7 hx7
              go_wp2_with fail
              refine (arena_int_get _ _ a n (n) _ j y Ha7.out hj1 Hg7.out).mono ?_
              rintro e w8 ⟨rfl, hf8⟩
              have hx8 := hf8.cell id Hx7.out
              have Hf8 := Lib.hid hf8; clear hf8
              go_wp2_with fail
              go_roundw
              case rel => exact ⟨j + 1, by go_num, by omega, Hfj.out.trans0 Hf8.out⟩
              case measure => simp [intOf]; omega
            · by_cases hj2 : j = n
              · have hj3 := hj2.symm; clear hj2
                subst hj3
                go_wp2_with fail
                refine (arena_int_get_no _ _ a n _ _ _ Ha7.out (.inr (by omega))).mono ?_
                rintro e w8 ⟨rfl, hf8⟩
                have Hf8 := Lib.hid hf8; clear hf8
                go_wp2_with fail
                go_roundw
                case rel => exact ⟨n + 1, by go_num, by omega, Hfj.out.trans0 Hf8.out⟩
                case measure => first | (simp [intOf]; omega) | simp [intOf]
              · have hj3 : ¬ (j : Int) ≤ (n : Nat) := by omega
                go_wp2_with fail
                go_roundw
                case rel => exact ⟨q, n, i + 1, Hn5.out, by omega, by go_num, _, _, _, _, rfl, Hf6.out.trans0 Hfj.out.none, Ht6.out.fr Hfj.out, Ha7.out, Hw7.out⟩
                case measure => simp [intOf]; omega
      · obtain ⟨x, rfl⟩ := Int.eq_ofNat_of_zero_le (show 0 ≤ x by omega)
        by_cases hxn : x < n
        · have hxn' : decide ((x : Int) < n) = true := by simp; omega
          go_wp2_with fail
          go_quiet (fail)
          obtain ⟨wq, hwq⟩ : ∃ wq, wq = wr.drewN nq := ⟨_, rfl⟩
          rw [← hwq]
          have hfq : Fr Nob wr wq := by rw [hwq]; exact (Fr.refl _ _).drewN nq
          clear hwq
          have Ha := Lib.hid (Ha.out.fr hfq fun _ _ q => q)
          have Hwt := Lib.hid (Hwt.out.fr hfq fun _ _ q => q)
          have Hfr := Lib.hid (Hfr.out.trans0 hfq.none)
          have Htw := Lib.hid (Htw.out.fr hfq)
          clear hfq
          go_wp2_with fail
          refine (arena_int_set _ _ a m n _ x y Ha.out hxn).mono ?_
          rintro e w2 ⟨rfl, hf2, ha2⟩
          have hw2 := Hwt.out.fr hf2 Htw.out.disR
          have hfr2 := Hfr.out.trans0 (hf2.fromL Htw.out)
          have ht2 := Htw.out.fr hf2
          have hw0 := hw2
          obtain ⟨gw, ow, cw, hv, hTg, hgw, hcw, hcm, hcell, hfz⟩ := hw2.form (by omega)
          injection hv with hv1 hv2 hv3
          subst hv1; subst hv3
          clear hv2
          have hcx := hcell x _ (ints_get (by rw [Hn.out]; exact hxn))
          have hfx := hfz (ow + x)
          generalize q.getD x 0 = y0 at hcx
          have hw4 : Sl (w2.setCell ⟨gw, ow + x, none⟩ (.int .i64 y)) T 3 1 (.slice (some ⟨gw, ow, none⟩) n c') n (ints (q.set x y)) := by
            have := hw0.set x (by omega) (.int .i64 y)
            simpa [ints, List.map_set] using this
          have hfs := (Fr.refl T w2).setCell (p := ⟨gw, ow + x, none⟩) (.inl hTg) (.int .i64 y)
          have ha3 : ArenaAt 78 3 1 (w2.setCell ⟨gw, ow + x, none⟩ (.int .i64 y)) S a m n (ints (q.set x y)) := by
            have := ha2.fr hfs fun k p q => ht2.dis k p q
            simpa [ints, List.map_set] using this
          have hfr3 := hfr2.trans0 (hfs.fromR ht2)
          have Ht3 := Lib.hid (ht2.fr hfs)
          have hqs : (q.set x y).length = n := by simp [Hn.out]
          have Hqs := Lib.hid hqs
          have Hw4 := Lib.hid hw4; have Ha3 := Lib.hid ha3; have Hfr3 := Lib.hid hfr3
          clear hf2 ha2 hw2 hfr2 ht2 hw0 hcell hfz hw4 ha3 hfs hfr3 hqs
          have Ha5 := Lib.hid Ha3.out; have Hw5 := Lib.hid Hw4.out; have Hn5 : Hid ((q.set x y).length = n) := Hqs.out; have Hf5 := Lib.hid Hfr3.out; have Ht5 := Lib.hid Ht3.out
          go_wp2_with fail
          refine (arena_int_len (w2.setCell ⟨gw, ow + x, none⟩ (.int .i64 y)) _ a m (n) _ Ha5.out).mono ?_
          rintro e w6 ⟨rfl, rfl⟩
          go_wp2_with fail
          refine (arena_int_left (w2.setCell ⟨gw, ow + x, none⟩ (.int .i64 y)) _ a m (n) _ Ha5.out).mono ?_
          rintro e w6 ⟨rfl, hq6⟩
          have hf6 := Fr.ofDrew hq6; clear hq6
          have Hf6 := Lib.hid (Hf5.out.trans0 hf6.none)
          have Ht6 := Lib.hid (Ht5.out.fr hf6)
          have Ha6 := Lib.hid (Ha5.out.fr hf6 fun _ _ q => q)
          have Hw6 := Lib.hid (Hw5.out.fr hf6 fun _ _ q => q)
          clear hf6
          obtain ⟨nn, hnn⟩ : ∃ nn : Nat, nn = n := ⟨_, rfl⟩
          go_wp2_with fail
          go_loopw [13] (fun i wr => ∃ j : Nat, i = .int .i64 j ∧ j ≤ n + 1 ∧ Fr Nob w6 wr) (fun i _ => n + 1 - (intOf i).toNat)
          case atStart => exact ⟨0, rfl, by omega, Fr.refl _ _⟩
          case round =>
            rename_i wr6 _
            obtain ⟨j, rfl, hj, hfj⟩ := hrel
            have Ha7 := Lib.hid (Ha6.out.fr hfj fun _ _ q => q)
            have Hw7 := Lib.hid (Hw6.out.fr hfj fun _ _ q => q)
            have Hfj := Lib.hid hfj; clear hfj
            by_cases hj1 : j < n
            · obtain ⟨gw, ow, cw, hv, hTg, hgw, hcw, hcm, hcell, _⟩ := Hw7.out.form (by omega)
              cases hv
              have hx7 := hcell j _ (ints_get (by rw [Hn5.out]; exact hj1))
              have hg7 : (ints (q.set x y))[j]? = some (.int .i64 ((q.set x y).getD j 0)) := ints_get (by rw [Hn5.out]; exact hj1)
              generalize (q.set x y).getD j 0 = y at *
              have Hg7 := Lib.hid hg7; have Hx7 := Lib.hid hx7
              clear hcell hg7 hx7
              go_wp2_with fail
              refine (arena_int_get _ _ a m (n) _ j y Ha7.out hj1 Hg7.out).mono ?_
              rintro e w8 ⟨rfl, hf8⟩
              have hx8 := hf8.cell id Hx7.out
              have Hf8 := Lib.hid hf8; clear hf8
              go_wp2_with fail
              go_roundw
              case rel => exact ⟨j + 1, by go_num, by omega, Hfj.out.trans0 Hf8.out⟩
              case measure => simp [intOf]; omega
            · by_cases hj2 : j = n
              · have hj3 := hj2.symm; clear hj2
                subst hj3
                go_wp2_with fail
                refine (arena_int_get_no _ _ a m _ _ _ Ha7.out (.inr (by omega))).mono ?_
                rintro e w8 ⟨rfl, hf8⟩
                have Hf8 := Lib.hid hf8; clear hf8
                go_wp2_with fail
                go_roundw
                case rel => exact ⟨n + 1, by go_num, by omega, Hfj.out.trans0 Hf8.out⟩
                case measure => first | (simp [intOf]; omega) | simp [intOf]
              · have hj3 : ¬ (j : Int) ≤ (n : Nat) := by omega
                go_wp2_with fail
                go_roundw
                case rel => exact ⟨q.set x y, n, i + 1, Hn5.out, by omega, by go_num, _, _, _, _, rfl, Hf6.out.trans0 Hfj.out.none, Ht6.out.fr Hfj.out, Ha7.out, Hw7.out⟩
                case measure => simp [intOf]; omega
        · have hxn' : decide ((x : Int) < n) = false := by simp; omega
          go_wp2_with fail
          go_quiet (fail)
          obtain ⟨wq, hwq⟩ : ∃ wq, wq = wr.drewN nq := ⟨_, rfl⟩
          rw [← hwq]
          have hfq : Fr Nob wr wq := by rw [hwq]; exact (Fr.refl _ _).drewN nq
          clear hwq
          have Ha := Lib.hid (Ha.out.fr hfq fun _ _ q => q)
          have Hwt := Lib.hid (Hwt.out.fr hfq fun _ _ q => q)
          have Hfr := Lib.hid (Hfr.out.trans0 hfq.none)
          have Htw := Lib.hid (Htw.out.fr hfq)
          clear hfq
          go_wp2_with fail
          refine (arena_int_set_no _ _ a m n _ (x : Int) y Ha.out (.inr (by omega))).mono ?_
          rintro e w2 ⟨rfl, hf2⟩
          have ha2 := Ha.out.fr hf2 fun _ _ q => q
          have hw2 := Hwt.out.fr hf2 fun _ _ q => q
          have hfr2 := Hfr.out.trans0 hf2.none
          have Ht2 := Lib.hid (Htw.out.fr hf2)
          clear hf2
          have Ha5 := Lib.hid ha2; have Hw5 := Lib.hid hw2; have Hn5 : Hid ((q).length = n) := Hn.out; have Hf5 := Lib.hid hfr2; have Ht5 := Lib.hid Ht2.out
          go_wp2_with fail
          refine (arena_int_len w2 _ a m (n) _ Ha5.out).mono ?_
          rintro e w6 ⟨rfl, rfl⟩
          go_wp2_with fail
          refine (arena_int_left w2 _ a m (n) _ Ha5.out).mono ?_
          rintro e w6 ⟨rfl, hq6⟩
          have hf6 := Fr.ofDrew hq6; clear hq6
          have Hf6 := Lib.hid (Hf5.out.trans0 hf6.none)
          have Ht6 := Lib.hid (Ht5.out.fr hf6)
          have Ha6 := Lib.hid (Ha5.out.fr hf6 fun _ _ q => q)
          have Hw6 := Lib.hid (Hw5.out.fr hf6 fun _ _ q => q)
          clear hf6
          obtain ⟨nn, hnn⟩ : ∃ nn : Nat, nn = n := ⟨_, rfl⟩
          go_wp2_with fail
          go_loopw [13] (fun i wr => ∃ j : Nat, i = .int .i64 j ∧ j ≤ n + 1 ∧ Fr Nob w6 wr) (fun i _ => n + 1 - (intOf i).toNat)
          case atStart => exact ⟨0, rfl, by omega, Fr.refl _ _⟩
          case round =>
            rename_i wr6 _
            obtain ⟨j, rfl, hj, hfj⟩ := hrel
            have Ha7 := Lib.hid (Ha6.out.fr hfj fun _ _ q => q)
            have Hw7 := Lib.hid (Hw6.out.fr hfj fun _ _ q => q)
            have Hfj := Lib.hid hfj; clear hfj
            by_cases hj1 : j < n
            · obtain ⟨gw, ow, cw, hv, hTg, hgw, hcw, hcm, hcell, _⟩ := Hw7.out.form (by omega)
              cases hv
              have hx7 := hcell j _ (ints_get (by rw [Hn5.out]; exact hj1))
              have hg7 : (ints (q))[j]? = some (.int .i64 ((q).getD j 0)) := ints_get (by rw [Hn5.out]; exact hj1)
              generalize (q).getD j 0 = y at *
              have Hg7 := Lib.hid hg7; have Hx7 := Lib.hid hx7
              clear hcell hg7 hx7
              go_wp2_with fail
              refine (arena_int_get _ _ a m (n) _ j y Ha7.out hj1 Hg7.out).mono ?_
              rintro e w8 ⟨rfl, hf8⟩
              have hx8 := hf8.cell id Hx7.out
              have Hf8 := Lib.hid hf8; clear hf8
              go_wp2_with fail
              go_roundw
              case rel => exact ⟨j + 1, by go_num, by omega, Hfj.out.trans0 Hf8.out⟩
              case measure => simp [intOf]; omega
            · by_cases hj2 : j = n
              · have hj3 := hj2.symm; clear hj2
                subst hj3
                go_wp2_with fail
                refine (arena_int_get_no _ _ a m _ _ _ Ha7.out (.inr (by omega))).mono ?_
                rintro e w8 ⟨rfl, hf8⟩
                have Hf8 := Lib.hid hf8; clear hf8
                go_wp2_with fail
                go_roundw
                case rel => exact ⟨n + 1, by go_num, by omega, Hfj.out.trans0 Hf8.out⟩
                case measure => first | (simp [intOf]; omega) | simp [intOf]
              · have hj3 : ¬ (j : Int) ≤ (n : Nat) := by omega
                go_wp2_with fail
                go_roundw
                case rel => exact ⟨q, n, i + 1, Hn5.out, by omega, by go_num, _, _, _, _, rfl, Hf6.out.trans0 Hfj.out.none, Ht6.out.fr Hfj.out, Ha7.out, Hw7.out⟩
                case measure => simp [intOf]; omega
    · obtain rfl : i = N := by omega
      go_wp2_with fail
      refine (arena_awake _).mono ?_
      rintro e w' ⟨rfl, hf⟩
      go_wp2_with fail
      go_ret
      exact ⟨rfl, (Hfr.out.trans0 hf.none).below (Nat.le_refl _) fun _ q => q⟩

theorem arenaActs_walk (most : Int) (v : Value) (l : List (Int × Int)) (w : World) (w0 : (Lit.int .i64 most).wf = true) (h : IsPairs w v l) :
    Calls Try.prog 3 #[.int .i64 most, v] w fun e w' => e = .returned (.bool true) ∧ Below w.heap.size w w' := by
  by_cases hb : 80 < l.length
  · exact arenaActs_big most v l w h hb
  · by_cases hm : most < 1 ∨ 1000 < most
    · exact arenaActs_bad most v l w h (by omega) hm
    · obtain ⟨m, rfl⟩ := Int.eq_ofNat_of_zero_le (show 0 ≤ most by omega)
      exact arenaActs_good m v l w h (by omega) (by omega) (by omega)

/-! The row: out of the walk above. -/
namespace arenaActs
open Go.ChangeShapes Go.WideShapes Go.ChangeAt Go.RowKit
open Go.ChangeMaps (open_string shut_string)
theorem own : ownKnob Try.prog.godebug = none := by kernel_rfl
theorem laidOut : laidOutB Try.prog = true := by kernel_rfl
set_option maxRecDepth 100000 in
theorem lifted (os : Os) (started : os.Started) (H : Type) (enc : TypeId × Value → H) :
    ReturnsInHanded {} Try.checked os 3 .any (Rows.arenaActsSpec.pre6 enc Try.prog Try.f3 Rows.arenaActsRow.domain false) (Rows.arenaActsSpec.post enc Try.prog Try.f3 false true false false) := by
  refine returnsInHanded_of_change (C := Try.checked) own started (by kernel_rfl) Try.func3
    (ChangeSpec.witness6 (enc := enc) (C := Try.checked) false ⟨#[], #[.int .i64 0, .slice none 0 0], []⟩ 8 (by kernel_rfl) (by kernel_rfl) (by kernel_rfl) (by kernel_rfl)) ?_
  intro W base args ds gs before hval0 hW hcnd _
  have hval : ∀ (j : Nat) t v, Try.f3.params[j]? = some t → args[j]? = some v → Value.okWide Try.prog W .any base t v := hval0
  have hW' := hW
  obtain ⟨p, q, hA0, hV, rfl, hfz, hnd⟩ := hW
  have hA : DataW.TrodAll enc Try.prog W 0 (fun _ => true) true Try.f3.params.toList args.toList ds p := hA0
  rw [Try.params3] at hA hval
  obtain ⟨v0, vs0, d0, ds0, p0, q0, hargs, rfl, rfl, h0, r0⟩ := trodAll_cons hA
  obtain ⟨v1, vs1, d1, ds1, p1, q1, rfl, rfl, rfl, h1, r1⟩ := trodAll_cons r0
  obtain ⟨rfl, rfl, rfl⟩ := trodAll_nil r1
  obtain rfl : args = #[v0, v1] := by cases args; simp_all
  obtain ⟨rfl, rfl⟩ := trodVars_none hV
  obtain ⟨a0, rfl, rfl, rfl, w0⟩ := open_int Try.underlying3 (hval 0 3 v0 rfl rfl) h0
  have k1 := h1
  have lt1 : ∀ x ∈ p1, x.block < W.heap.size := by obtain ⟨m, hm⟩ := k1; exact DataW.trod_lt m _ _ _ hm
  obtain ⟨x1, g1⟩ := opn_pairs (hval 1 22 v1 rfl rfl) h1
  clear hA0 hval0
  refine (arenaActs_walk a0 v1 x1 W w0 g1).mono fun e W' ⟨he, bel⟩ => ?_
  subst he
  exact ⟨_, rfl, _, _, _, [], _, [], hW', trodAll_mk1 (shut_bool Try.underlying4 _), (trodAll_cons_mk (shut_int Try.underlying3 w0) (trodAll_cons_mk (Below.trod laidOut (by kernel_rfl) (of_decide_eq_true (by kernel_rfl)) k1 bel lt1) trodAll_mk0)), rfl, bel.frame _, fun h => by cases h⟩
theorem over : Rows.arenaActsRow.holds Try.pinned (OpenSpec.ofChange Rows.arenaActsSpec) :=
  OpenClaim.holds_of_wide 3 Try.f3 rfl rfl rfl rfl rfl rfl rfl ⟨rfl, rfl, rfl, rfl, rfl⟩ rfl rfl rfl rfl rfl (by kernel_rfl) Try.func3 (by kernel_rfl)
    (of_decide_eq_true (by kernel_rfl)) (by unfold Func.isWrapper; first | (rw [if_pos (by decide +kernel)]; kernel_rfl) | (rw [if_neg (by decide +kernel)]; exact ⟨rfl, rfl⟩))
    (fun os started H enc _ => lifted os started H enc)
end arenaActs
/-- THE STATEMENT. -/
theorem arenaActs_holds : Rows.ArenaActsSaid := arenaActs.over
#print axioms arenaActs_holds
end Go.Proofs.Ytaghnlmfhfbhhaa
