/- TreeDetach answers true whatever its list and its number are; its argument reads as it did: no condition. -/
import Derived.Test.YtpjkjnejlmmapaaTreeFt
import Derived.Test.YtpjkjnejlmmapaaTreeDet
set_option linter.unusedVariables false
set_option linter.unusedSimpArgs false
namespace Go.Proofs.Ytpjkjnejlmmapaa
open Go.RowKit
set_option maxRecDepth 100000

set_option maxHeartbeats 1000000 in
theorem treeDetach_bad (v : Value) (l : List Int) (x : Int) (w : World) (h : IsInts w v l) (hb : l.length < 1 ∨ 60 < l.length) :
    Calls Try.prog 12 #[v, .int .i64 x] w fun e w' => e = .returned (.bool true) ∧ Below w.heap.size w w' := by
  obtain ⟨⟨_, hl, A, c, rfl, hc1, hc2, hA⟩, hwf⟩ := h
  unfold maxLen at hl
  have hb2 : (l.length : Int) < 1 ∨ (60 : Int) < l.length := by omega
  clear hA hwf hb
  generalize l.length = m at *
  go_enter Try.func12, Try.ntmps12
  go_wp2_with fail
  all_goals
    refine (tree_awake w).mono ?_
    rintro e w' ⟨rfl, hf⟩
    go_wp2_with fail
    go_ret
    exact ⟨rfl, hf.below (Nat.le_refl _) fun _ q => q.elim⟩

set_option maxHeartbeats 8000000 in
theorem treeDetach_good (v : Value) (l : List Int) (xa : Int) (w : World) (h : IsInts w v l) (hn0 : 1 ≤ l.length) (hn : l.length ≤ 60) :
    Calls Try.prog 12 #[v, .int .i64 xa] w fun e w' => e = .returned (.bool true) ∧ Below w.heap.size w w' := by
  obtain ⟨⟨_, hl, A, c, rfl, hc1, hc2, hA⟩, _⟩ := h
  have HA := Lib.hid hA
  have hd : ∀ i, i < l.length → (ints l)[i]? = some (.int .i64 (l.getD i 0)) := fun i hi => ints_get hi
  have HD := Lib.hid hd
  generalize l.length = m at *
  clear hA hl hd
  unfold maxLen at hc2
  have g3 : ¬ (60 : Int) < m := by omega
  have g4 : ¬ (m : Int) < 1 := by omega
  go_enter Try.func12, Try.ntmps12
  go_wp2_with fail
  refine (tree_new w).mono ?_
  rintro e w1 ⟨b, rfl, hf1, hr1⟩
  have F1 := Lib.hid (hf1.none (S := From w.heap.size))
  have z1 := hf1.size
  have R1 := Lib.hid (hr1.mono (S' := From w.heap.size) fun k _ q => q.1)
  clear hf1 hr1
  go_wp2_with fail
  refine (tree_add_lone w1 _ b [] (-1) false 0 rfl R1.out (by omega) (by omega) (by omega) (.inl rfl)).mono ?_
  rintro e w2 ⟨rfl, hf2, hr2⟩
  have F2 := Lib.hid (F1.out.trans0 hf2)
  have R2 : Hid (TreeAt w2 (From w.heap.size) b (ftree l 0)) := hr2.mono fun k hk q => there14 z1 k q
  clear hf2 hr2 F1 R1 z1
  go_wp2_with fail
  go_loopw [8] (fun i wr => ∃ j : Nat, i = .int .i64 j ∧ j ≤ m ∧ Fr (From w.heap.size) w wr ∧ TreeAt wr (From w.heap.size) b (ftree l j)) (fun i _ => m - (intOf i).toNat)
  case atStart => exact ⟨0, rfl, Nat.zero_le _, F2.out, R2.out⟩
  case round =>
    obtain ⟨j, rfl, hj, hfr, hr⟩ := hrel
    have hz := hfr.size
    have Hfr := Lib.hid hfr; have Hr := Lib.hid hr
    clear hfr hr F2 R2
    by_cases hlt : j < m
    · obtain ⟨g, o, rfl, hg, hc⟩ := HA.out (by omega)
      have hx := Hfr.out.cell (p := ⟨g, o + j, none⟩) (by simp [From]; omega) (hc j _ (HD.out j hlt))
      clear hc
      have hft : ftree l (j + 1) = ftree l j ++ [(l.getD j 0 % ((j : Int) + 1), true)] := rfl
      generalize l.getD j 0 = x at *
      have hk1 := Int.emod_nonneg x (show ((j : Int) + 1) ≠ 0 by omega)
      have hk2 := Int.emod_lt_of_pos x (show 0 < ((j : Int) + 1) by omega)
      have hrnd := fun W => alike_round W x ((j : Int) + 1) (by omega) (by omega)
      generalize x % ((j : Int) + 1) = q at *
      obtain ⟨q, rfl⟩ := Int.eq_ofNat_of_zero_le hk1
      have Hrnd := Lib.hid hrnd; have Hft := Lib.hid hft
      clear hrnd hft
      go_wp2_with fail
      refine (Hrnd.out _).mono ?_
      rintro e w4 ⟨rfl, rfl⟩
      go_wp2_with fail
      refine (tree_add_hang wr _ b (ftree l j) q (j + 1) (ftree_len l j) Hr.out (by omega) (by omega)).mono ?_
      rintro e w4 ⟨rfl, hf4, hr4⟩
      rw [← Hft.out] at hr4
      have Hr4 : Hid (TreeAt w4 (From w.heap.size) b (ftree l (j + 1))) := hr4.mono fun k hk q => there14 hz k q
      have Hf4 := Lib.hid (Hfr.out.trans0 hf4)
      clear hf4 hr4
      go_wp2_with fail
      go_roundw
      case rel => exact ⟨j + 1, by go_num, by omega, Hf4.out, Hr4.out⟩
      case measure => simp [intOf]; omega
    · obtain rfl : j = m := by omega
      have hx1 := Int.emod_nonneg xa (show (j : Int) ≠ 0 by omega)
      have hx2 := Int.emod_lt_of_pos xa (show 0 < (j : Int) by omega)
      have hrx := fun W => alike_round W xa (j : Int) (by omega) (by omega)
      generalize xa % (j : Int) = r at *
      obtain ⟨r, rfl⟩ := Int.eq_ofNat_of_zero_le hx1
      have hrj : r < j := by omega
      have hkn := ftree_get l j r hrj
      have hp1 := Int.emod_nonneg (l.getD r 0) (show ((r : Int) + 1) ≠ 0 by omega)
      have hp2 := Int.emod_lt_of_pos (l.getD r 0) (show 0 < ((r : Int) + 1) by omega)
      have hrp := fun W => alike_round W (l.getD r 0) ((r : Int) + 1) (by omega) (by omega)
      have hdr := HD.out r hrj
      generalize l.getD r 0 = x at *
      generalize x % ((r : Int) + 1) = p at *
      obtain ⟨p, rfl⟩ := Int.eq_ofNat_of_zero_le hp1
      obtain ⟨ns, hns⟩ : ∃ ns, ns = ftree l j := ⟨_, rfl⟩
      have hok : TreeOk ns := by rw [hns]; exact ftree_ok l j
      have hlen : ns.length = j + 1 := by rw [hns]; exact ftree_len l j
      have hr := Hr.out
      rw [← hns] at hr hkn
      have hin := walk_off_in hok hkn
      have hzero := walk_off_zero hok hkn
      have hl0 := walk_len ns hok 0 (by omega)
      have hlw := walk_len ns hok (r + 1) (by omega)
      have Hdr := Lib.hid hdr; have Hrx := Lib.hid hrx; have Hrp := Lib.hid hrp; have Hkn := Lib.hid hkn; have Hlen := Lib.hid hlen; have Hin := Lib.hid hin; have Hzero := Lib.hid hzero
      have Hr := Lib.hid (hr.mono (S' := fun k => w.heap.size ≤ k ∧ k < wr.heap.size) fun k hk q => ⟨q, hk⟩)
      rw [hlen] at hl0 hlw
      clear hrx hrp hdr hkn hlen hin hzero hr hns hok hp1 hx1
      obtain ⟨all, hall⟩ : ∃ all, all = walk ns 0 := ⟨_, rfl⟩
      obtain ⟨wk, hwk⟩ : ∃ wk, wk = walk ns ((r + 1 : Nat)) := ⟨_, rfl⟩
      obtain ⟨na, hna⟩ : ∃ na, na = all.length := ⟨_, rfl⟩
      obtain ⟨nw, hnw⟩ : ∃ nw, nw = wk.length := ⟨_, rfl⟩
      rw [← hall, ← hna] at hl0
      rw [← hwk, ← hnw] at hlw
      have Hall := Lib.hid hall; have Hwk := Lib.hid hwk; have Hna := Lib.hid hna; have Hnw := Lib.hid hnw
      clear hall hwk hna hnw
      go_wp2_with fail
      refine (Hrx.out _).mono ?_
      rintro e w4 ⟨rfl, rfl⟩
      go_wp2_with fail
      refine (tree_walk b ns ns.length 0 wr _ (by omega) (by rw [Hlen.out]; omega) Hr.out).mono ?_
      rintro e w5 ⟨va, rfl, hf5, hs5⟩
      rw [← Hall.out, ← Hna.out] at hs5
      obtain ⟨Aa, ca, rfl⟩ := hs5.slice
      have F5 := Lib.hid (Hfr.out.trans0 hf5.none)
      have R5 := Lib.hid (Hr.out.fr0 hf5)
      have S5 := Lib.hid hs5
      have Z5 := Lib.hid hf5
      clear hf5 hs5
      go_wp2_with fail
      first | rw [show (1 + (r : Int)) = ((r + 1 : Nat) : Int) from by omega] | rw [show ((r : Int) + 1) = ((r + 1 : Nat) : Int) from by omega] | skip
      refine (tree_walk b ns ns.length (r + 1) w5 _ (by omega) (by rw [Hlen.out]; omega) R5.out).mono ?_
      rintro e w6 ⟨vw, rfl, hf6, hs6⟩
      rw [← Hwk.out, ← Hnw.out] at hs6
      obtain ⟨Aw, cw, rfl⟩ := hs6.slice
      have F6 := Lib.hid (F5.out.trans0 hf6.none)
      have R6 := Lib.hid (R5.out.fr0 hf6)
      have S6 := Lib.hid ((S5.out.fr hf6 fun _ _ q => q).mono (S' := fun k => wr.heap.size ≤ k ∧ k < w6.heap.size) fun k hk q => ⟨q, hk⟩)
      have W6 := Lib.hid (hs6.mono (S' := fun k => wr.heap.size ≤ k ∧ k < w6.heap.size) fun k hk q => ⟨Nat.le_trans Z5.out.size q, hk⟩)
      clear hf6 hs6 S5 Z5 R5 F5
      go_wp2_with fail
      first | rw [show (1 + (r : Int)) = ((r + 1 : Nat) : Int) from by omega] | rw [show ((r : Int) + 1) = ((r + 1 : Nat) : Int) from by omega] | skip
      refine (tree_off w6 _ b ns (r + 1) p R6.out Hkn.out).mono ?_
      rintro e w7 ⟨rfl, hf7, hr7⟩
      have F7 := Lib.hid (F6.out.trans0 (hf7.mono fun k _ q => q.1))
      have S7 := Lib.hid (S6.out.fr hf7 fun k a q => by omega)
      have W7 := Lib.hid (W6.out.fr hf7 fun k a q => by omega)
      have hset : (ns.set (r + 1) ((p : Int), false))[r + 1]? = some ((p : Int), false) := by rw [List.getElem?_set, if_pos rfl, if_pos (by rw [Hlen.out]; omega)]
      have hl7 : (ns.set (r + 1) ((p : Int), false)).length = j + 1 := by rw [List.length_set]; exact Hlen.out
      have R7 := Lib.hid hr7
      have Hin := Lib.hid (Hin.out.trans Hwk.out.symm); have hzz := Hzero.out
      rw [← Hall.out, ← Hwk.out] at hzz
      have Hzz := Lib.hid hzz
      clear hf7 hr7 R6 F6 S6 W6 Hkn Hlen Hzero hzz
      generalize ns.set (r + 1) ((p : Int), false) = ns' at *
      have Hset := Lib.hid hset; have Hl7 := Lib.hid hl7
      clear hset hl7
      go_wp2_with fail
      first | rw [show (1 + (r : Int)) = ((r + 1 : Nat) : Int) from by omega] | rw [show ((r : Int) + 1) = ((r + 1 : Nat) : Int) from by omega] | skip
      refine (tree_off_no w7 _ b ns' ((r + 1 : Nat) : Int) R7.out (.inr (.inr ⟨p, by rw [Int.toNat_natCast]; exact Hset.out⟩))).mono ?_
      rintro e w8 ⟨rfl, hf8⟩
      have F8 := Lib.hid (F7.out.trans0 hf8.none)
      have R8 := Lib.hid (R7.out.fr0 hf8)
      have S8 := Lib.hid (S7.out.fr hf8 fun _ _ q => q)
      have W8 := Lib.hid (W7.out.fr hf8 fun _ _ q => q)
      clear hf8 F7 R7 S7 W7
      go_wp2_with fail
      first | rw [show (1 + (r : Int)) = ((r + 1 : Nat) : Int) from by omega] | rw [show ((r : Int) + 1) = ((r + 1 : Nat) : Int) from by omega] | skip
      refine (tree_walk b ns' ns'.length (r + 1) w8 _ (by omega) (by rw [Hl7.out]; omega) R8.out).mono ?_
      rintro e w9 ⟨v9, rfl, hf9, hs9⟩
      rw [Hin.out, ← Hnw.out] at hs9
      obtain ⟨A9, c9, rfl⟩ := hs9.slice
      have F9 := Lib.hid (F8.out.trans0 hf9.none)
      have R9 := Lib.hid (R8.out.fr0 hf9)
      have S9 := Lib.hid (S8.out.fr hf9 fun _ _ q => q)
      have W9 := Lib.hid (W8.out.fr hf9 fun _ _ q => q)
      have Q9 := Lib.hid hs9.rd
      clear hf9 hs9 F8 R8 S8 W8
      go_wp2_with fail
      refine (alike_ints_n w9 _ _ wk nw Hnw.out.symm Q9.out W9.out.rd).mono ?_
      rintro e w10 ⟨rfl, hq10⟩
      have hf10 := Fr.ofDrew hq10
      have F10 := Lib.hid (F9.out.trans0 hf10.none)
      have R10 := Lib.hid (R9.out.fr0 hf10)
      have S10 := Lib.hid (S9.out.fr hf10 fun _ _ q => q)
      have W10 := Lib.hid (W9.out.fr hf10 fun _ _ q => q)
      have z10 := hf10.size
      clear hf10 hq10 F9 R9 S9 W9 Q9
      have S10' := Lib.hid (S10.out.mono (S' := fun k => k < w10.heap.size) fun k hk _ => hk)
      have W10' := Lib.hid (W10.out.mono (S' := fun k => k < w10.heap.size) fun k hk _ => hk)
      have R10' := Lib.hid (R10.out.mono (S' := fun k => k < w10.heap.size) fun k hk _ => hk)
      have hw0 : without (all.take 0) wk = [] := rfl
      have hwn : without (all.take na) wk = all.filter fun x => decide (x ∉ wk) := by rw [Hna.out, List.take_length]; rfl
      have hws := without_snoc all wk
      have hwl := without_le all wk
      have hmn : ∀ y, decide (y ∈ wk.take nw) = decide (y ∈ wk) := fun y => by rw [Hnw.out, List.take_length]
      have hms := mem_take_snoc wk
      have hga : ∀ k, k < na → (ints all)[k]? = some (.int .i64 (all.getD k 0)) := fun k hk => ints_get (by rw [← Hna.out]; exact hk)
      have hgw : ∀ k, k < nw → (ints wk)[k]? = some (.int .i64 (wk.getD k 0)) := fun k hk => ints_get (by rw [← Hnw.out]; exact hk)
      have Hwn := Lib.hid hwn; have Hws := Lib.hid hws; have Hwl := Lib.hid hwl; have Hmn := Lib.hid hmn; have Hms := Lib.hid hms; have Hga := Lib.hid hga; have Hgw := Lib.hid hgw
      clear hw0 hwn hws hwl hmn hms hga hgw S10 W10 R10
      go_wp2_with fail
      go_loopw [14, 15] (fun wv i wz => ∃ k : Nat, i = .int .i64 k ∧ k ≤ na ∧ Fr (From w10.heap.size) w10 wz ∧ Sl wz (From w10.heap.size) 3 1 wv (without (all.take k) wk).length (ints (without (all.take k) wk))) (fun _ i _ => na - (intOf i).toNat)
      case atStart => exact ⟨0, rfl, Nat.zero_le _, Fr.refl _ _, Sl.nil _ _ _ _⟩
      case round =>
        obtain ⟨wz, rfl⟩ : ∃ wz : World, wz = wr := ⟨_, rfl⟩
        obtain ⟨k, rfl, hk, hfz, hwz⟩ := hrel
        obtain ⟨Az, cz, rfl⟩ := hwz.slice
        have Hfz := Lib.hid hfz; have Hwz := Lib.hid hwz
        clear hfz hwz
        by_cases hlt2 : k < na
        · have Hx := Lib.hid (Hga.out k hlt2)
          have hsn := Hws.out k (by rw [← Hna.out]; exact hlt2)
          generalize all.getD k 0 = y at *
          have Hsn := Lib.hid hsn
          clear hsn
          go_wp2_with fail
          go_loopw [16, 17] (fun inn q wy => ∃ (n : Nat) (ib : Bool), q = .int .i64 n ∧ n ≤ nw ∧ inn = .bool ib ∧ Hid (ib = decide (y ∈ wk.take n)) ∧ Fr Nob wz wy) (fun _ q _ => nw - (intOf q).toNat)
          case atStart => exact ⟨0, false, rfl, Nat.zero_le _, rfl, Lib.hid rfl, Fr.refl _ _⟩
          case round =>
            obtain ⟨n, ib, rfl, hn, rfl, hib, hfy⟩ := hrel
            have Hfy := Lib.hid hfy
            clear hfy
            by_cases hlt3 : n < nw
            · have Hx2 := Lib.hid (Hgw.out n hlt3)
              have hsm := Hms.out y n (by rw [← Hnw.out]; exact hlt3)
              rw [← hib.out] at hsm
              generalize wk.getD n 0 = z at *
              have hS := ((S10'.out.fr Hfz.out fun k a q => by unfold From at q; omega).fr Hfy.out fun _ _ q => q)
              have hW := ((W10'.out.fr Hfz.out fun k a q => by unfold From at q; omega).fr Hfy.out fun _ _ q => q)
              obtain ⟨ga, oa, ka, hva, _, hga, _, _, hca, _⟩ := hS.form (by omega)
              cases hva
              obtain ⟨gw, ow, kw, hvw, _, hgw, _, _, hcw, _⟩ := hW.form (by omega)
              cases hvw
              have c1 := hca k _ Hx.out
              have c2 := hcw n _ Hx2.out
              have hki : (k : Int) < na := by omega
              have hni : (n : Int) < nw := by omega
              have Hsm := Lib.hid hsm
              clear hca hcw hS hW hsm
              cases ib with
              | true =>
                have Hib : Hid (true = decide (y ∈ wk.take (n + 1))) := by rw [Hsm.out]; exact Lib.hid rfl
                go_wp2_with fail
                go_quiet (fail)
                go_wp2_with fail
                go_roundw
                case rel => exact ⟨n + 1, true, by go_num, by omega, rfl, Hib, Hfy.out.drewN _⟩
                case measure => simp [intOf]; omega
              | false =>
                have Hib : Hid ((z == y) = decide (y ∈ wk.take (n + 1))) := by rw [Hsm.out]; exact Lib.hid (by simp)
                generalize hzy : (z == y) = zy at *
                go_wp2_with fail
                go_quiet (fail)
                go_wp2_with fail
                go_roundw
                case rel => exact ⟨n + 1, zy, by go_num, by omega, rfl, Hib, Hfy.out.drewN _⟩
                case measure => simp [intOf]; omega
            · obtain rfl : n = nw := by omega
              have hib2 := hib.out
              rw [Hmn.out] at hib2
              have Hib := Lib.hid hib2
              have Hfz2 := Lib.hid (Hfz.out.trans0 Hfy.out.none)
              have Hwz2 := Lib.hid (Hwz.out.fr Hfy.out fun _ _ q => q)
              clear hib hib2
              cases ib with
              | true =>
                have hm : y ∈ wk := by have := Hib.out; simpa using this.symm
                have hsn := Hsn.out
                rw [if_pos hm, List.append_nil] at hsn
                have Hsn2 := Lib.hid hsn
                clear hm hsn
                go_wp2_with fail
                go_roundw
                case rel => exact ⟨k + 1, by go_num, by omega, Hfz2.out, by rw [Hsn2.out]; exact Hwz2.out⟩
                case measure => simp [intOf]; omega
              | false =>
                have hm : y ∉ wk := by have := Hib.out; simpa using this.symm
                have hsn := Hsn.out
                rw [if_neg hm] at hsn
                have Hsn2 := Lib.hid hsn
                have hwle := Hwl.out k
                have hS := (S10'.out.fr Hfz2.out fun k a q => by unfold From at q; omega)
                obtain ⟨ga, oa, ka, hva, _, hga, _, _, hca, _⟩ := hS.form (by omega)
                cases hva
                have c1 := hca k _ Hx.out
                clear hm hsn hca hS
                go_wp2_with (at_builtin; refine wpList_append1 _ rfl _ _ _ rfl (From w10.heap.size) 3 _ 1 8 Try.underlying26 info_intU rfl (by omega) (.slice Az (without (all.take k) wk).length cz) (without (all.take k) wk).length (ints (without (all.take k) wk)) [.int .i64 y] rfl Hwz2.out rfl rfl rfl (by omega) (by omega) ?_; intro v5 w5 hs5 hf5 hz5)
                have hsz := Hfz2.out.size
                have Hs5 : Hid (Sl w5 (From w10.heap.size) 3 1 v5 (without (all.take (k + 1)) wk).length (ints (without (all.take (k + 1)) wk))) := by
                  rw [Hsn2.out, List.length_append]
                  exact Lib.hid (by simpa [ints] using hs5.mono (S' := From w10.heap.size) fun q hq r => by rcases r with r | r; exact r; unfold From; omega)
                have Hf5 := Lib.hid (Hfz2.out.trans0 hf5)
                clear hs5 hf5 hz5 hsz
                go_wp2_with fail
                go_roundw
                case rel => exact ⟨k + 1, by go_num, by omega, Hf5.out, Hs5.out⟩
                case measure => simp [intOf]; omega
        · obtain rfl : k = na := by omega
          have R11 := Lib.hid (R10'.out.fr Hfz.out fun k a q => by unfold From at q; omega)
          have F11 := Lib.hid (F10.out.trans0 (Hfz.out.mono (T := From w.heap.size) fun k hk q => by have := F10.out.size; unfold From at *; omega))
          have Hz := Lib.hid Hwz.out.rd
          have hzz2 : walk ns' 0 = without (all.take k) wk := Hzz.out.trans Hwn.out.symm
          have Hzz2 := Lib.hid hzz2
          clear hzz2
          go_wp2_with fail
          first | rw [show (1 + (r : Int)) = ((r + 1 : Nat) : Int) from by omega] | rw [show ((r : Int) + 1) = ((r + 1 : Nat) : Int) from by omega] | skip
          refine (tree_parent wz _ b ns' (r + 1) p false Hset.out R11.out).mono ?_
          rintro e w12 ⟨rfl, hf12⟩
          have F12 := Lib.hid (F11.out.trans0 hf12.none)
          have R12 := Lib.hid (R11.out.fr0 hf12)
          have Z12 := Lib.hid (Hz.out.fr hf12)
          clear hf12 R11 F11
          go_wp2_with fail
          refine (tree_walk b ns' ns'.length 0 w12 _ (by omega) (by rw [Hl7.out]; omega) R12.out).mono ?_
          rintro e w13 ⟨v13, rfl, hf13, hs13⟩
          rw [Hzz2.out] at hs13
          obtain ⟨A13, c13, rfl⟩ := hs13.slice
          have F13 := Lib.hid (F12.out.trans0 hf13.none)
          have R13 := Lib.hid (R12.out.fr0 hf13)
          have Z13 := Lib.hid (Z12.out.fr hf13)
          have Q13 := Lib.hid hs13.rd
          clear hf13 hs13 R12 F12 Z12
          go_wp2_with fail
          refine (alike_ints_n w13 _ _ (without (all.take k) wk) _ rfl Q13.out Z13.out).mono ?_
          rintro e w14 ⟨rfl, hq14⟩
          have hf14 := Fr.ofDrew hq14
          have F14 := Lib.hid (F13.out.trans0 hf14.none)
          have R14 := Lib.hid (R13.out.fr0 hf14)
          clear hf14 hq14 R13 F13
          obtain ⟨g, o, rfl, hg, hc⟩ := HA.out (by omega)
          have hx := F14.out.cell (p := ⟨g, o + r, none⟩) (by simp [From]; omega) (hc r _ Hdr.out)
          have er1 : ((r : Int) + 1 - 1) = (r : Int) := by omega
          have er2 : (r : Int) < j := by omega
          clear hc
          go_wp2_with fail
          refine (Hrp.out _).mono ?_
          rintro e w15 ⟨rfl, rfl⟩
          go_wp2_with fail
          refine (tree_len w14 _ b ns' (j + 1) Hl7.out R14.out).mono ?_
          rintro e w16 ⟨rfl, rfl⟩
          go_wp2_with fail
          refine (tree_awake w14).mono ?_
          rintro e w17 ⟨rfl, hf17⟩
          go_wp2_with fail
          go_ret
          exact ⟨rfl, (F14.out.trans0 hf17.none).below (Nat.le_refl _) fun _ q => q⟩

theorem treeDetach_walk (v : Value) (l : List Int) (x : Int) (w : World) (h : IsInts w v l) (w0 : (Lit.int .i64 x).wf = true) :
    Calls Try.prog 12 #[v, .int .i64 x] w fun e w' => e = .returned (.bool true) ∧ Below w.heap.size w w' := by
  clear w0
  by_cases hb : l.length < 1 ∨ 60 < l.length
  · exact treeDetach_bad v l x w h hb
  · exact treeDetach_good v l x w h (by omega) (by omega)

/-! The row: out of the walk above. -/
namespace treeDetach
open Go.ChangeShapes Go.WideShapes Go.ChangeAt Go.RowKit
open Go.ChangeMaps (open_string shut_string)
theorem own : ownKnob Try.prog.godebug = none := by kernel_rfl
theorem laidOut : laidOutB Try.prog = true := by kernel_rfl
set_option maxRecDepth 100000 in
theorem lifted (os : Os) (started : os.Started) (H : Type) (enc : TypeId × Value → H) :
    ReturnsInHanded {} Try.checked os 12 .any (Rows.treeDetachSpec.pre6 enc Try.prog Try.f12 Rows.treeDetachRow.domain false) (Rows.treeDetachSpec.post enc Try.prog Try.f12 false true false false) := by
  refine returnsInHanded_of_change (C := Try.checked) own started (by kernel_rfl) Try.func12
    (ChangeSpec.witness6 (enc := enc) (C := Try.checked) false ⟨#[], #[.slice none 0 0, .int .i64 0], []⟩ 8 (by kernel_rfl) (by kernel_rfl) (by kernel_rfl) (by kernel_rfl)) ?_
  intro W base args ds gs before hval0 hW hcnd _
  have hval : ∀ (j : Nat) t v, Try.f12.params[j]? = some t → args[j]? = some v → Value.okWide Try.prog W .any base t v := hval0
  have hW' := hW
  obtain ⟨p, q, hA0, hV, rfl, hfz, hnd⟩ := hW
  have hA : DataW.TrodAll enc Try.prog W 0 (fun _ => true) true Try.f12.params.toList args.toList ds p := hA0
  rw [Try.params12] at hA hval
  obtain ⟨v0, vs0, d0, ds0, p0, q0, hargs, rfl, rfl, h0, r0⟩ := trodAll_cons hA
  obtain ⟨v1, vs1, d1, ds1, p1, q1, rfl, rfl, rfl, h1, r1⟩ := trodAll_cons r0
  obtain ⟨rfl, rfl, rfl⟩ := trodAll_nil r1
  obtain rfl : args = #[v0, v1] := by cases args; simp_all
  obtain ⟨rfl, rfl⟩ := trodVars_none hV
  have k0 := h0
  have lt0 : ∀ x ∈ p0, x.block < W.heap.size := by obtain ⟨m, hm⟩ := k0; exact DataW.trod_lt m _ _ _ hm
  obtain ⟨x0, g0⟩ := opn_ints (hval 0 26 v0 rfl rfl) h0
  obtain ⟨a1, rfl, rfl, rfl, w1⟩ := open_int Try.underlying3 (hval 1 3 v1 rfl rfl) h1
  clear hA0 hval0
  refine (treeDetach_walk v0 x0 a1 W g0 w1).mono fun e W' ⟨he, bel⟩ => ?_
  subst he
  exact ⟨_, rfl, _, _, _, [], _, [], hW', trodAll_mk1 (shut_bool Try.underlying4 _), (trodAll_cons_mk (Below.trod laidOut (by kernel_rfl) (of_decide_eq_true (by kernel_rfl)) k0 bel lt0) (trodAll_cons_mk (shut_int Try.underlying3 w1) trodAll_mk0)), rfl, bel.frame _, fun h => by cases h⟩
theorem over : Rows.treeDetachRow.holds Try.pinned (OpenSpec.ofChange Rows.treeDetachSpec) :=
  OpenClaim.holds_of_wide 12 Try.f12 rfl rfl rfl rfl rfl rfl rfl ⟨rfl, rfl, rfl, rfl, rfl⟩ rfl rfl rfl rfl rfl (by kernel_rfl) Try.func12 (by kernel_rfl)
    (of_decide_eq_true (by kernel_rfl)) (by unfold Func.isWrapper; first | (rw [if_pos (by decide +kernel)]; kernel_rfl) | (rw [if_neg (by decide +kernel)]; exact ⟨rfl, rfl⟩))
    (fun os started H enc _ => lifted os started H enc)
end treeDetach
/-- THE STATEMENT. -/
theorem treeDetach_holds : Rows.TreeDetachSaid := treeDetach.over
#print axioms treeDetach_holds
end Go.Proofs.Ytpjkjnejlmmapaa
