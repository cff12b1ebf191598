/- TreeWalks answers true whatever its two lists are; its arguments read as they did: no condition. -/
import Derived.Test.YtpjkjnejlmmapaaTreeWk
import Derived.Deep.DeepCutAuto
set_option linter.unusedVariables false
set_option linter.unusedSimpArgs false
namespace Go.Proofs.Ytpjkjnejlmmapaa
open Go.RowKit
set_option maxRecDepth 100000

set_option maxHeartbeats 1000000 in
theorem treeWalks_bad (v : Value) (l : List Int) (v2 : Value) (ls : List Bool) (w : World) (h : IsInts w v l) (h2 : IsBools w v2 ls) (hb : 80 < l.length ∨ ls.length < l.length ∨ 100 < ls.length) :
    Calls Try.prog 11 #[v, v2] w fun e w' => e = .returned (.bool true) ∧ Below w.heap.size w w' := by
  obtain ⟨⟨_, hl, A, c, rfl, hc1, hc2, hA⟩, hwf⟩ := h
  obtain ⟨_, hl2, A2, c2, rfl, hc12, hc22, hA2⟩ := h2
  unfold maxLen at hl hl2
  clear hA hwf hA2
  have hb2 : (80 : Int) < l.length ∨ (ls.length : Int) < l.length ∨ (100 : Int) < ls.length := by omega
  clear hb
  generalize l.length = m at *
  generalize ls.length = m2 at *
  go_enter Try.func11, Try.ntmps11
  go_wp2_with fail
  all_goals
    refine (tree_awake w).mono ?_
    rintro e w' ⟨rfl, hf⟩
    go_wp2_with fail
    go_ret
    exact ⟨rfl, hf.below (Nat.le_refl _) fun _ q => q.elim⟩

set_option maxHeartbeats 8000000 in
theorem treeWalks_good (v : Value) (l : List Int) (v2 : Value) (ls : List Bool) (w : World) (h : IsInts w v l) (h2 : IsBools w v2 ls) (hn : l.length ≤ 80) (hn2 : l.length ≤ ls.length) (hn3 : ls.length ≤ 100) :
    Calls Try.prog 11 #[v, v2] w fun e w' => e = .returned (.bool true) ∧ Below w.heap.size w w' := by
  obtain ⟨⟨_, hl, A, c, rfl, hc1, hc2, hA⟩, _⟩ := h
  obtain ⟨_, hl2, A2, c2, rfl, hc12, hc22, hA2⟩ := h2
  have HA := Lib.hid hA; have HA2 := Lib.hid hA2
  have hd : ∀ i, i < l.length → (ints l)[i]? = some (.int .i64 (l.getD i 0)) := fun i hi => ints_get hi
  have hd2 : ∀ i, i < ls.length → (ls.map Value.bool)[i]? = some (.bool (ls.getD i false)) := fun i hi => by simp [List.getD, hi]
  have HD := Lib.hid hd; have HD2 := Lib.hid hd2
  generalize l.length = m at *
  generalize ls.length = m2 at *
  clear hA hl hd hA2 hl2 hd2
  unfold maxLen at hc2 hc22
  have g3 : ¬ (80 : Int) < m := by omega
  have g4 : ¬ (m2 : Int) < m := by omega
  have g5 : ¬ (100 : Int) < m2 := by omega
  go_enter Try.func11, Try.ntmps11
  go_wp2_with fail
  refine (tree_new w).mono ?_
  rintro e w1 ⟨b, rfl, hf1, hr1⟩
  have F1 := Lib.hid (hf1.none (S := From w.heap.size))
  have z1 := hf1.size
  have R1 := Lib.hid (hr1.mono (S' := From w.heap.size) fun k _ q => q.1)
  clear hf1 hr1
  go_wp2_with fail
  refine (tree_add_lone w1 _ b [] (-1) false 0 rfl R1.out (by omega) (by omega) (by omega) (.inl rfl)).mono ?_
  rintro e w2 ⟨rfl, hf2, hr2⟩
  have F2 := Lib.hid (F1.out.trans0 hf2)
  have z2 := Nat.le_trans z1 hf2.size
  have R2 : Hid (TreeAt w2 (fun k => w.heap.size ≤ k ∧ k < w2.heap.size) b (gtree l ls 0)) := hr2.mono fun k hk q => ⟨there14 z1 k q, hk⟩
  clear hf2 hr2 F1 R1
  go_wp2_with fail
  obtain ⟨w3, hw3⟩ : ∃ w3, w3 = w2.alloc (.cells #[.int .i64 (-1)] 3) := ⟨_, rfl⟩
  have hl3 : Sl w3 (fun k => k = w2.heap.size) 3 1 (.slice (some ⟨w2.heap.size, 0, none⟩) 1 1) 1 (ints (ups (gtree l ls 0))) := by rw [hw3]; exact Sl.lit w2 3 1 #[.int .i64 (-1)] 1 _ rfl (by simp [maxLen]) rfl
  have hf3 : Fr Nob w2 w3 := by rw [hw3]; exact (Fr.refl _ _).alloc _
  have hz3 : w3.heap.size = w2.heap.size + 1 := by rw [hw3]; simp
  rw [← hw3]
  have F3 := Lib.hid (F2.out.trans0 hf3.none)
  have R3 := Lib.hid (R2.out.fr0 hf3)
  have L3 := Lib.hid hl3
  have T3 : Hid (Two w.heap.size w3 (fun k => w.heap.size ≤ k ∧ k < w2.heap.size) (fun k => k = w2.heap.size)) := ⟨fun k q => ⟨q.1, by omega⟩, fun k q => by omega, fun k p q => by omega⟩
  clear hf3 hw3 hl3 hz3 F2 R2 z1
  go_loopw [8, 9] (fun u i wr => ∃ (j : Nat) (A : Option Addr) (c : Nat) (S T : Nat → Prop), u = .slice A (j + 1) c ∧ i = .int .i64 j ∧ j ≤ m ∧ Fr (From w.heap.size) w wr ∧ Two w.heap.size wr S T ∧ TreeAt wr S b (gtree l ls j) ∧ Sl wr T 3 1 (.slice A (j + 1) c) (j + 1) (ints (ups (gtree l ls j)))) (fun _ i _ => m - (intOf i).toNat)
  case atStart => exact ⟨0, _, _, _, _, rfl, rfl, Nat.zero_le _, F3.out, T3.out, R3.out, L3.out⟩
  case round =>
    obtain ⟨j, Au, cu, S, T, rfl, rfl, hj, hfr, htw, hr, hu⟩ := hrel
    have hz := hfr.size
    have Hfr := Lib.hid hfr; have Htw := Lib.hid htw; have Hr := Lib.hid hr; have Hu := Lib.hid hu
    clear hfr htw hr hu F3 T3 R3 L3
    by_cases hlt : j < m
    · obtain ⟨g, o, rfl, hg, hc⟩ := HA.out (by omega)
      obtain ⟨g2, o2, rfl, hg2, hcc2⟩ := HA2.out (by omega)
      have hx0 := hc j _ (HD.out j hlt)
      have hy0 := hcc2 j _ (HD2.out j (by omega))
      have hx := Hfr.out.cell (p := ⟨g, o + j, none⟩) (by simp [From]; omega) hx0
      clear hc hcc2
      have hft : gtree l ls (j + 1) = gtree l ls j ++ [(l.getD j 0 % ((j : Int) + 1), ls.getD j false)] := rfl
      generalize l.getD j 0 = x at *
      generalize ls.getD j false = lb at *
      have hy := Hfr.out.cell (p := ⟨g2, o2 + j, none⟩) (by simp [From]; omega) hy0
      have Hy0 := Lib.hid hy0
      clear hx0 hy0
      have hk1 := Int.emod_nonneg x (show ((j : Int) + 1) ≠ 0 by omega)
      have hk2 := Int.emod_lt_of_pos x (show 0 < ((j : Int) + 1) by omega)
      have hrnd := fun W => alike_round W x ((j : Int) + 1) (by omega) (by omega)
      generalize x % ((j : Int) + 1) = q at *
      obtain ⟨q, rfl⟩ := Int.eq_ofNat_of_zero_le hk1
      have Hrnd := Lib.hid hrnd; have Hft := Lib.hid hft
      have hjm2 : (j : Int) < m2 := by omega
      clear hrnd hft
      cases lb with
      | true =>
        go_wp2_with fail
        refine (Hrnd.out _).mono ?_
        rintro e w4 ⟨rfl, rfl⟩
        go_wp2_with fail
        refine (tree_add_hang wr _ b (gtree l ls j) q (j + 1) (gtree_len l ls j) Hr.out (by omega) (by omega)).mono ?_
        rintro e w4 ⟨rfl, hf4, hr4⟩
        rw [← Hft.out] at hr4
        have hz4 := hf4.size
        have hu4 := Hu.out.fr hf4 Htw.out.disR
        have ht4 : Two w.heap.size w4 (And' S wr w4) T := Htw.out.growL hz4 hz
        have hfr4 := Hfr.out.trans0 (hf4.fromL Htw.out)
        have hy4 := hfr4.cell (p := ⟨g2, o2 + j, none⟩) (by simp [From]; omega) Hy0.out
        have Hr4 := Lib.hid hr4; have Hu4 := Lib.hid hu4; have Ht4 := Lib.hid ht4; have Hf4 := Lib.hid hfr4
        clear hf4 hr4 hu4 ht4 hfr4 hz4
        go_wp2_with (at_builtin; refine wpList_append1 _ rfl _ _ _ rfl T 3 _ 1 8 Try.underlying26 info_intU rfl (by omega) (.slice Au (j + 1) cu) (j + 1) (ints (ups (gtree l ls j))) [.int .i64 (q : Int)] rfl Hu4.out rfl rfl rfl (by omega) (by omega) ?_; intro v5 w5 hs5 hf5 hz5)
        have hz5' := hf5.size
        have hz4 := Hf4.out.size
        have hu5 : Sl w5 (And' T w4 w5) 3 1 v5 (j + 1 + 1) (ints (ups (gtree l ls (j + 1)))) := by
          rw [Hft.out, ups_snoc]; simpa [ints] using hs5.mono (fun k hk r => there k hk r)
        obtain ⟨A5, c5, rfl⟩ := hu5.slice
        have Hr5 := Lib.hid (Hr4.out.fr hf5 fun k a d => Ht4.out.dis k a d)
        have Ht5 := Lib.hid (Ht4.out.growR hz5' hz4)
        have Hf5 := Lib.hid (Hf4.out.trans0 (hf5.fromR Ht4.out))
        have Hu5 := Lib.hid hu5
        clear hs5 hf5 hz5 hz5' hu5 hz4
        go_wp2_with fail
        go_roundw
        case rel => exact ⟨j + 1, _, _, _, _, rfl, by go_num, by omega, Hf5.out, Ht5.out, Hr5.out, Hu5.out⟩
        case measure => simp [intOf]; omega
      | false =>
        go_wp2_with fail
        refine (Hrnd.out _).mono ?_
        rintro e w4 ⟨rfl, rfl⟩
        go_wp2_with fail
        refine (tree_add_lone wr _ b (gtree l ls j) (q : Int) false (j + 1) (gtree_len l ls j) Hr.out (by omega) (by omega) (by omega) (.inr rfl)).mono ?_
        rintro e w4 ⟨rfl, hf4, hr4⟩
        rw [← Hft.out] at hr4
        have hz4 := hf4.size
        have hu4 := Hu.out.fr hf4 Htw.out.disR
        have ht4 : Two w.heap.size w4 (And' S wr w4) T := Htw.out.growL hz4 hz
        have hfr4 := Hfr.out.trans0 (hf4.fromL Htw.out)
        have hy4 := hfr4.cell (p := ⟨g2, o2 + j, none⟩) (by simp [From]; omega) Hy0.out
        have Hr4 := Lib.hid hr4; have Hu4 := Lib.hid hu4; have Ht4 := Lib.hid ht4; have Hf4 := Lib.hid hfr4
        clear hf4 hr4 hu4 ht4 hfr4 hz4
        go_wp2_with (at_builtin; refine wpList_append1 _ rfl _ _ _ rfl T 3 _ 1 8 Try.underlying26 info_intU rfl (by omega) (.slice Au (j + 1) cu) (j + 1) (ints (ups (gtree l ls j))) [.int .i64 (-1)] rfl Hu4.out rfl rfl rfl (by omega) (by omega) ?_; intro v5 w5 hs5 hf5 hz5)
        have hz5' := hf5.size
        have hz4 := Hf4.out.size
        have hu5 : Sl w5 (And' T w4 w5) 3 1 v5 (j + 1 + 1) (ints (ups (gtree l ls (j + 1)))) := by
          rw [Hft.out, ups_snoc]; simpa [ints] using hs5.mono (fun k hk r => there k hk r)
        obtain ⟨A5, c5, rfl⟩ := hu5.slice
        have Hr5 := Lib.hid (Hr4.out.fr hf5 fun k a d => Ht4.out.dis k a d)
        have Ht5 := Lib.hid (Ht4.out.growR hz5' hz4)
        have Hf5 := Lib.hid (Hf4.out.trans0 (hf5.fromR Ht4.out))
        have Hu5 := Lib.hid hu5
        clear hs5 hf5 hz5 hz5' hu5 hz4
        go_wp2_with fail
        go_roundw
        case rel => exact ⟨j + 1, _, _, _, _, rfl, by go_num, by omega, Hf5.out, Ht5.out, Hr5.out, Hu5.out⟩
        case measure => simp [intOf]; omega
    · obtain rfl : j = m := by omega
      obtain ⟨ns, hns⟩ : ∃ ns, ns = gtree l ls j := ⟨_, rfl⟩
      have hok : TreeOk ns := by rw [hns]; exact gtree_ok l ls j
      have hlen : ns.length = j + 1 := by rw [hns]; exact gtree_len l ls j
      have hr := Hr.out; have hu := Hu.out
      rw [← hns] at hr hu
      have hnd := walkN_nodup ns hok ns.length 0 (by omega)
      have hwl := walk_le ns hok 0 (by omega)
      rw [hlen] at hwl
      have hlt0 : ∀ x, x ∈ walkN ns 0 → x < j + 1 := fun x hx => by rw [← hlen]; exact ((mem_walk ns hok _ _).1 hx).lt (by omega)
      have hmk : ∀ W : World, (Instr.makeSlice 26 (.int .i64 ((j : Int) + 1)) (.int .i64 ((j : Int) + 1))).run Try.prog W = .ok (.slice (some ⟨W.heap.size, 0, none⟩) (j + 1) (j + 1)) (W.alloc (.cells (madeCells #[.int .i64 0] (j + 1)) 3)) :=
        fun W => run_make_row' (P := Try.prog) 26 3 (.int .i64 0) 8 Try.underlying26 info_intU rfl .i64 .i64 (j + 1) (by omega) (by omega) W
      have hug : ∀ k, k < j + 1 → (ints (ups ns))[k]? = some (.int .i64 (upOf ns k)) := fun k hk => by rw [ints_get (by rw [ups_len, hlen]; exact hk), ups_get ns k (by omega)]
      have Hok := Lib.hid hok; have Hlen := Lib.hid hlen; have Hr := Lib.hid hr; have Hu := Lib.hid hu; have Hug := Lib.hid hug; have Hmk := Lib.hid hmk; have Hnd := Lib.hid hnd; have Hlt0 := Lib.hid hlt0
      obtain ⟨n, hn⟩ : ∃ n, n = (walkN ns 0).length := ⟨_, rfl⟩
      have hwlen : (walk ns 0).length = n := by rw [hn]; simp [walk]
      have hwg : ∀ k, k < n → ∃ y, (walkN ns 0)[k]? = some y ∧ (ints (walk ns 0))[k]? = some (.int .i64 (y : Int)) := fun k hk => ⟨(walkN ns 0)[k]'(by omega), by simp, by unfold walk ints; rw [List.map_map, List.getElem?_map, List.getElem?_eq_getElem (by omega)]; rfl⟩
      rw [← hn] at hwl
      have Hn := Lib.hid hn; have Hwlen := Lib.hid hwlen; have Hwg := Lib.hid hwg
      clear hok hlen hr hu hug hmk hnd hlt0 hn hwlen hwg hns
      go_wp2_with fail
      refine (tree_walk b ns ns.length 0 wr _ (by omega) (by rw [Hlen.out]; omega) Hr.out).mono ?_
      rintro e w5 ⟨vw, rfl, hf5, hs5⟩
      rw [Hwlen.out] at hs5
      obtain ⟨Aw, cw, rfl⟩ := hs5.slice
      have F5 := Lib.hid (Hfr.out.trans0 hf5.none)
      have U5 := Lib.hid ((Hu.out.fr hf5 fun _ _ q => q).mono (S' := fun k => k < w5.heap.size) fun k hk _ => hk)
      have W5 := Lib.hid (hs5.mono (S' := fun k => k < w5.heap.size) fun k hk _ => hk)
      have hmk := Hmk.out
      clear hf5 hs5
      go_wp2_with fail
      obtain ⟨w6, hw6⟩ : ∃ w6, w6 = w5.alloc (.cells (madeCells #[.int .i64 0] (j + 1)) 3) := ⟨_, rfl⟩
      rw [← hw6]
      have hf6 : Fr Nob w5 w6 := by rw [hw6]; exact (Fr.refl _ _).alloc _
      have hs6 : Sl w6 (fun k => k = w5.heap.size) 3 1 (.slice (some ⟨w5.heap.size, 0, none⟩) (j + 1) (j + 1)) (j + 1) (ints (atP (j + 1) (walkN ns 0) 0)) := by
        rw [atP_zero, hw6]
        exact Sl.made w5 3 (.int .i64 0) (j + 1) (fun k => k = w5.heap.size) rfl (by unfold maxLen; omega)
      obtain ⟨sb, hsb⟩ : ∃ sb, sb = w5.heap.size := ⟨_, rfl⟩
      have U6 := U5.out.fr hf6 fun _ _ q => q
      have W6 := W5.out.fr hf6 fun _ _ q => q
      rw [← hsb] at hs6 U6 W6 ⊢
      have F6 := Lib.hid (F5.out.trans0 hf6.none)
      have U6 := Lib.hid U6
      have W6 := Lib.hid W6
      have S6 := Lib.hid hs6
      have hsbw : w.heap.size ≤ sb := by rw [hsb]; exact F5.out.size
      clear hf6 hw6 hs6 hmk hsb F5 U5 W5 Hr Hu Hmk Hfr Htw
      go_loopw [15] (fun i wz => ∃ k : Nat, i = .int .i64 k ∧ k ≤ n ∧ Fr (fun q => q = sb) w6 wz ∧ Sl wz (fun q => q = sb) 3 1 (.slice (some ⟨sb, 0, none⟩) (j + 1) (j + 1)) (j + 1) (ints (atP (j + 1) (walkN ns 0) k))) (fun i _ => n - (intOf i).toNat)
      case atStart => exact ⟨0, rfl, Nat.zero_le _, Fr.refl _ _, S6.out⟩
      case round =>
        obtain ⟨wz, rfl⟩ : ∃ wz : World, wz = wr := ⟨_, rfl⟩
        obtain ⟨k, rfl, hk, hfz, hsz⟩ := hrel
        have Hfz := Lib.hid hfz; have Hsz := Lib.hid hsz
        clear hfz hsz S6
        by_cases hlt2 : k < n
        · obtain ⟨y, hy, hyv⟩ := Hwg.out k hlt2
          have hyj := Hlt0.out y (List.mem_of_getElem? hy)
          obtain ⟨hsucc, hzero⟩ := atP_succ (j + 1) (walkN ns 0) Hnd.out k y hy hyj
          have Hsucc := Lib.hid hsucc
          have hW := W6.out.fr Hfz.out fun k a q => by omega
          obtain ⟨gw, ow, kw, hvw, _, hgw, _, _, hcw, _⟩ := hW.form (by omega)
          cases hvw
          obtain ⟨ga, oa, ka, hva, _, hga, _, _, hca, hfa⟩ := Hsz.out.form (by omega)
          cases hva
          have c1 := hcw k _ hyv
          have c2 := hca y _ (ints_get (by rw [atP_len]; exact hyj))
          rw [hzero, Nat.zero_add] at c2
          have f2 := hfa y
          have hyi : (y : Int) < (j : Int) + 1 := by omega
          have hki : (k : Int) < n := by omega
          have hset := Hsz.out.set y (by omega) (.int .i64 ((k : Int) + 1))
          rw [Nat.zero_add] at hset
          have hfs : Fr (fun q => q = sb) w6 (wz.setCell ⟨sb, y, none⟩ (.int .i64 ((k : Int) + 1))) := Hfz.out.trans0 ((Fr.refl (fun q => q = sb) wz).setCell (p := ⟨sb, y, none⟩) (.inl rfl) _)
          have Hset := Lib.hid hset; have Hfs := Lib.hid hfs
          clear hW hcw hca hfa hyv hy hsucc hzero hset hfs
          go_wp2_with fail
          go_roundw
          case rel => exact ⟨k + 1, by go_num, by omega, Hfs.out, by rw [Hsucc.out]; simpa [ints, List.map_set] using Hset.out⟩
          case measure => simp [intOf]; omega
        · obtain rfl : k = n := by omega
          have U7 := Lib.hid ((U6.out.fr Hfz.out fun k a q => by omega).rd)
          have S7 := Lib.hid Hsz.out.rd
          have F7 := Lib.hid (F6.out.trans0 (Hfz.out.mono fun k _ q => by unfold From; omega))
          have hag : ∀ x, x < j + 1 → (ints (atP (j + 1) (walkN ns 0) k))[x]? = some (.int .i64 ((posOf1 (walkN ns 0) x : Nat) : Int)) := fun x hx => by
            rw [ints_get (by rw [atP_len]; exact hx), Hn.out, atP_all _ _ _ hx]
          have Hag := Lib.hid hag
          clear hag U6 W6 F6 Hfz Hsz
          go_wp2_with fail
          go_loopw [16] (fun i wy => ∃ q : Nat, i = .int .i64 q ∧ q ≤ j + 1 ∧ Fr Nob wz wy) (fun i _ => j + 1 - (intOf i).toNat)
          case atStart => exact ⟨0, rfl, Nat.zero_le _, Fr.refl _ _⟩
          case round =>
            obtain ⟨wy, rfl⟩ : ∃ wy : World, wy = wr := ⟨_, rfl⟩
            obtain ⟨q, rfl, hq, hfy⟩ := hrel
            have Hfy := Lib.hid hfy
            clear hfy
            by_cases hlt3 : q < j + 1
            · obtain ⟨r, hr⟩ : ∃ r, r = undB ns 0 q := ⟨_, rfl⟩
              have Hrr := Lib.hid hr
              clear hr
              go_wp2_with fail
              go_loop [17, 18] (fun un kv => ∃ (x : Int) (ub : Bool), kv = .int .i64 x ∧ un = .bool ub ∧ -1 ≤ x ∧ x ≤ j ∧ Hid ((ub || undB ns 0 x) = r)) (fun _ kv => (intOf kv + 1).toNat)
              case atStart => exact ⟨q, false, rfl, rfl, by omega, by omega, by rw [Hrr.out]; exact Lib.hid rfl⟩
              case round =>
                obtain ⟨x, ub, rfl, rfl, hx1, hx2, hub⟩ := hrel
                by_cases hx0 : 0 ≤ x
                · obtain ⟨x, rfl⟩ := Int.eq_ofNat_of_zero_le hx0
                  obtain ⟨_, _, A', c', hv, hc1', hc2', hA'⟩ := U7.out.fr Hfy.out
                  cases hv
                  obtain ⟨g, o, rfl, hg, hc⟩ := hA' (by omega)
                  have hx := hc x _ (Hug.out x (by omega))
                  have hup1 := upOf_lt ns Hok.out x
                  have hup2 := upOf_ge ns Hok.out x
                  have hst : x ≠ 0 → undB ns 0 x = undB ns 0 (upOf ns x) := undB_step ns Hok.out 0 x
                  have Hst := Lib.hid hst
                  clear hA' hc hst
                  generalize upOf ns x = u at *
                  by_cases hky : x = 0
                  · subst hky
                    rw [Nat.add_zero] at hx
                    have hself := undB_self ns Hok.out 0
                    have hre : true = r := by have := hub.out; rw [hself, Bool.or_true] at this; exact this
                    have Hre := Lib.hid hre
                    clear hself hre
                    cases ub <;> (
                      go_wp2_with fail
                      go_round
                      case rel => exact ⟨u, true, rfl, rfl, by omega, by omega, by rw [← Hre.out]; exact Lib.hid rfl⟩
                      case measure => simp [intOf]; omega)
                  · have e1 : ((x : Int) == 0) = false := beq_eq_false_iff_ne.2 (by omega)
                    have Hub2 : Hid ((ub || undB ns 0 u) = r) := by rw [← Hst.out hky]; exact hub
                    cases ub <;> (
                      go_wp2_with fail
                      go_round
                      case rel => exact ⟨u, _, rfl, rfl, by omega, by omega, Hub2⟩
                      case measure => simp [intOf]; omega)
                · have hur : ub = r := by have := hub.out; rw [undB_neg ns 0 x (by omega), Bool.or_false] at this; exact this
                  subst hur
                  clear hub
                  have hpq : ub = decide (0 < posOf1 (walkN ns 0) q) := Hrr.out.trans (pos_iff ns q)
                  have hqm : ub = true → q ∈ walkN ns 0 := fun e => undB_mem' ns 0 q (Hrr.out.symm.trans e)
                  obtain ⟨_, _, A', c', hv, hc1', hc2', hA'⟩ := S7.out.fr Hfy.out
                  cases hv
                  obtain ⟨g', o', hgo, hg', hca⟩ := hA' (by omega)
                  cases hgo
                  obtain ⟨_, _, A'', c'', hv, hc1'', hc2'', hA''⟩ := U7.out.fr Hfy.out
                  cases hv
                  obtain ⟨gu, ou, rfl, hgu, hcu⟩ := hA'' (by omega)
                  have Hpq := Lib.hid hpq; have Hqm := Lib.hid hqm; have Hca := Lib.hid hca; have Hcu := Lib.hid hcu
                  have hqj : (q : Int) < (j : Int) + 1 := by omega
                  have hq0i : (0 : Int) ≤ q := by omega
                  clear hpq hqm hca hcu hA' hA''
                  go_upto_region 36 with fail
                  go_cut [169] (fun s wx => s = .bool false ∧ Fr Nob wy wx)
                  case first =>
                    have a0 := Hca.out q _ (Hag.out q (by omega))
                    rw [Nat.zero_add] at a0
                    cases ub with
                    | false =>
                      have hp0 : posOf1 (walkN ns 0) q = 0 := by have := Hpq.out; simp at this; omega
                      rw [hp0] at a0
                      clear hp0
                      go_quiet (fail)
                      go_wp2
                      go_meet
                      exact ⟨rfl, (Fr.refl _ _).drewN _⟩
                    | true =>
                      have hp0 : 0 < posOf1 (walkN ns 0) q := by have := Hpq.out; simpa using this
                      by_cases hqz : q = 0
                      · subst hqz
                        generalize posOf1 (walkN ns 0) 0 = p1 at *
                        have hd1 : decide ((0 : Int) < (p1 : Int)) = true := by simp; omega
                        go_quiet (fail)
                        go_wp2
                        go_meet
                        exact ⟨rfl, (Fr.refl _ _).drewN _⟩
                      · obtain ⟨pp, hpp, _⟩ := und_up ns Hok.out ((mem_walk ns Hok.out _ _).1 (Hqm.out rfl)) hqz
                        obtain ⟨_, hlt9⟩ := up_first ns Hok.out q pp (Hqm.out rfl) hpp
                        have hul := upOf_lt ns Hok.out q
                        rw [hpp] at hul
                        have a1 := Hca.out pp _ (Hag.out pp (by omega))
                        rw [Nat.zero_add] at a1
                        have u0 := Hcu.out q _ (Hug.out q (by omega))
                        rw [hpp] at u0
                        generalize posOf1 (walkN ns 0) q = p1 at *
                        generalize posOf1 (walkN ns 0) pp = p2 at *
                        have hd1 : decide ((0 : Int) < (p1 : Int)) = true := by simp; omega
                        have hd2 : decide ((p1 : Int) ≤ (p2 : Int)) = false := by simp; omega
                        have hd2' : decide (p1 ≤ p2) = false := by simp; omega
                        have hd3 : decide ((0 : Int) < (q : Int)) = true := by simp; omega
                        have hd6 : decide (0 < q) = true := by simp; omega
                        have hd7 : decide (0 < p1) = true := by simp; omega
                        have hpj : (pp : Int) < (j : Int) + 1 := by omega
                        have hp0i : (0 : Int) ≤ pp := by omega
                        have hd4 : ((0 : Int) < (p1 : Int)) := by omega
                        have hd5 : ((0 : Int) < (q : Int)) := by omega
                        clear hpp hqz hlt9
                        go_quiet (fail)
                        go_wp2
                        go_meet
                        exact ⟨rfl, (Fr.refl _ _).drewN _⟩
                  case rest =>
                    obtain ⟨rfl, hfx⟩ := hcut
                    have Hfx := Lib.hid hfx
                    clear hfx
                    go_wp2_with fail
                    go_loopw [19] (fun kv wv => ∃ x : Nat, kv = .int .i64 x ∧ x ≤ q ∧ Fr Nob wc wv) (fun kv _ => q - (intOf kv).toNat)
                    case atStart => exact ⟨0, rfl, Nat.zero_le _, Fr.refl _ _⟩
                    case round =>
                      obtain ⟨wv, rfl⟩ : ∃ wv : World, wv = wr := ⟨_, rfl⟩
                      obtain ⟨x, rfl, hx, hfv⟩ := hrel
                      have Hfv := Lib.hid hfv
                      clear hfv
                      by_cases hxq : x < q
                      · have hxqd : decide ((x : Int) < (q : Int)) = true := by simp; omega
                        cases ub with
                        | false =>
                          go_wp2_with fail
                          go_roundw
                          case rel => exact ⟨q + 1, by go_num, by omega, (Hfy.out.trans0 Hfx.out).trans0 Hfv.out⟩
                          case measure => simp [intOf]; omega
                        | true =>
                          have hca := Hca.out; have hcu := Hcu.out
                          have hff := Hfx.out.trans0 Hfv.out
                          have u0 := hff.cell (p := ⟨gu, ou + x, none⟩) id (Hcu.out x _ (Hug.out x (by omega)))
                          have u1 := hff.cell (p := ⟨gu, ou + q, none⟩) id (Hcu.out q _ (Hug.out q (by omega)))
                          have a0 := Hca.out x _ (Hag.out x (by omega))
                          have a1 := Hca.out q _ (Hag.out q (by omega))
                          rw [Nat.zero_add] at a0 a1
                          have b0 := hff.cell (p := ⟨sb, x, none⟩) id a0
                          have b1 := hff.cell (p := ⟨sb, q, none⟩) id a1
                          have hord := kids_order ns Hok.out q x (Hqm.out rfl) hxq
                          have hxj : (x : Int) < (j : Int) + 1 := by omega
                          have hx0i : (0 : Int) ≤ x := by omega
                          generalize upOf ns x = ux at *
                          generalize upOf ns q = uq at *
                          generalize posOf1 (walkN ns 0) x = p1 at *
                          generalize posOf1 (walkN ns 0) q = p2 at *
                          clear hca hcu hff a0 a1
                          by_cases hue : ux = uq
                          · subst hue
                            by_cases hu0 : 0 ≤ ux
                            · have hlt9 := (hord rfl hu0).2
                              have hd1 : (ux == ux) = true := by simp
                              have hd2 : decide ((0 : Int) ≤ ux) = true := by simp; omega
                              have hd3 : decide ((p2 : Int) ≤ (p1 : Int)) = false := by simp; omega
                              have hd3' : decide (p2 ≤ p1) = false := by simp; omega
                              clear hord hlt9
                              go_wp2_with fail
                              go_quiet (fail)
                              go_wp2_with fail
                              go_roundw
                              case rel => exact ⟨x + 1, by go_num, by omega, Hfv.out.drewN _⟩
                              case measure => simp [intOf]; omega
                            · have hd1 : (ux == ux) = true := by simp
                              have hd2 : decide ((0 : Int) ≤ ux) = false := by simp; omega
                              clear hord
                              go_wp2_with fail
                              go_quiet (fail)
                              go_wp2_with fail
                              go_roundw
                              case rel => exact ⟨x + 1, by go_num, by omega, Hfv.out.drewN _⟩
                              case measure => simp [intOf]; omega
                          · have hd1 : (ux == uq) = false := beq_eq_false_iff_ne.2 hue
                            clear hord hue
                            go_wp2_with fail
                            go_quiet (fail)
                            go_wp2_with fail
                            go_roundw
                            case rel => exact ⟨x + 1, by go_num, by omega, Hfv.out.drewN _⟩
                            case measure => simp [intOf]; omega
                      · obtain rfl : x = q := by omega
                        have hxqd : decide ((x : Int) < (x : Int)) = false := by simp
                        go_wp2_with fail
                        go_roundw
                        case rel => exact ⟨x + 1, by go_num, by omega, (Hfy.out.trans0 Hfx.out).trans0 Hfv.out⟩
                        case measure => simp [intOf]; omega
            · obtain rfl : q = j + 1 := by omega
              go_wp2_with fail
              refine (tree_awake wy).mono ?_
              rintro e w9 ⟨rfl, hf9⟩
              go_wp2_with fail
              go_ret
              exact ⟨rfl, ((F7.out.trans0 Hfy.out.none).trans0 hf9.none).below (Nat.le_refl _) fun _ q => q⟩

theorem treeWalks_walk (v : Value) (l : List Int) (v2 : Value) (ls : List Bool) (w : World) (h : IsInts w v l) (h2 : IsBools w v2 ls) :
    Calls Try.prog 11 #[v, v2] w fun e w' => e = .returned (.bool true) ∧ Below w.heap.size w w' := by
  by_cases hb : 80 < l.length ∨ ls.length < l.length ∨ 100 < ls.length
  · exact treeWalks_bad v l v2 ls w h h2 hb
  · exact treeWalks_good v l v2 ls w h h2 (by omega) (by omega) (by omega)

/-! The row: out of the walk above. -/
namespace treeWalks
open Go.ChangeShapes Go.WideShapes Go.ChangeAt Go.RowKit
open Go.ChangeMaps (open_string shut_string)
theorem own : ownKnob Try.prog.godebug = none := by kernel_rfl
theorem laidOut : laidOutB Try.prog = true := by kernel_rfl
set_option maxRecDepth 100000 in
theorem lifted (os : Os) (started : os.Started) (H : Type) (enc : TypeId × Value → H) :
    ReturnsInHanded {} Try.checked os 11 .any (Rows.treeWalksSpec.pre6 enc Try.prog Try.f11 Rows.treeWalksRow.domain false) (Rows.treeWalksSpec.post enc Try.prog Try.f11 false true false false) := by
  refine returnsInHanded_of_change (C := Try.checked) own started (by kernel_rfl) Try.func11
    (ChangeSpec.witness6 (enc := enc) (C := Try.checked) false ⟨#[], #[.slice none 0 0, .slice none 0 0], []⟩ 8 (by kernel_rfl) (by kernel_rfl) (by kernel_rfl) (by kernel_rfl)) ?_
  intro W base args ds gs before hval0 hW hcnd _
  have hval : ∀ (j : Nat) t v, Try.f11.params[j]? = some t → args[j]? = some v → Value.okWide Try.prog W .any base t v := hval0
  have hW' := hW
  obtain ⟨p, q, hA0, hV, rfl, hfz, hnd⟩ := hW
  have hA : DataW.TrodAll enc Try.prog W 0 (fun _ => true) true Try.f11.params.toList args.toList ds p := hA0
  rw [Try.params11] at hA hval
  obtain ⟨v0, vs0, d0, ds0, p0, q0, hargs, rfl, rfl, h0, r0⟩ := trodAll_cons hA
  obtain ⟨v1, vs1, d1, ds1, p1, q1, rfl, rfl, rfl, h1, r1⟩ := trodAll_cons r0
  obtain ⟨rfl, rfl, rfl⟩ := trodAll_nil r1
  obtain rfl : args = #[v0, v1] := by cases args; simp_all
  obtain ⟨rfl, rfl⟩ := trodVars_none hV
  have k0 := h0
  have lt0 : ∀ x ∈ p0, x.block < W.heap.size := by obtain ⟨m, hm⟩ := k0; exact DataW.trod_lt m _ _ _ hm
  obtain ⟨x0, g0⟩ := opn_ints (hval 0 26 v0 rfl rfl) h0
  have k1 := h1
  have lt1 : ∀ x ∈ p1, x.block < W.heap.size := by obtain ⟨m, hm⟩ := k1; exact DataW.trod_lt m _ _ _ hm
  obtain ⟨x1, g1⟩ := opn_bools (hval 1 38 v1 rfl rfl) h1
  clear hA0 hval0
  refine (treeWalks_walk v0 x0 v1 x1 W g0 g1).mono fun e W' ⟨he, bel⟩ => ?_
  subst he
  exact ⟨_, rfl, _, _, _, [], _, [], hW', trodAll_mk1 (shut_bool Try.underlying4 _), (trodAll_cons_mk (Below.trod laidOut (by kernel_rfl) (of_decide_eq_true (by kernel_rfl)) k0 bel lt0) (trodAll_cons_mk (Below.trod laidOut (by kernel_rfl) (of_decide_eq_true (by kernel_rfl)) k1 bel lt1) trodAll_mk0)), rfl, bel.frame _, fun h => by cases h⟩
theorem over : Rows.treeWalksRow.holds Try.pinned (OpenSpec.ofChange Rows.treeWalksSpec) :=
  OpenClaim.holds_of_wide 11 Try.f11 rfl rfl rfl rfl rfl rfl rfl ⟨rfl, rfl, rfl, rfl, rfl⟩ rfl rfl rfl rfl rfl (by kernel_rfl) Try.func11 (by kernel_rfl)
    (of_decide_eq_true (by kernel_rfl)) (by unfold Func.isWrapper; first | (rw [if_pos (by decide +kernel)]; kernel_rfl) | (rw [if_neg (by decide +kernel)]; exact ⟨rfl, rfl⟩))
    (fun os started H enc _ => lifted os started H enc)
end treeWalks
/-- THE STATEMENT. -/
theorem treeWalks_holds : Rows.TreeWalksSaid := treeWalks.over
#print axioms treeWalks_holds
end Go.Proofs.Ytpjkjnejlmmapaa
