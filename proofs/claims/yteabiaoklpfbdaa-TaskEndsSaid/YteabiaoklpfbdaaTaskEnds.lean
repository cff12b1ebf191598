/- TaskEnds answers true whatever its numbers and its choice are: no condition. -/
import Derived.Test.YteabiaoklpfbdaaOpen
import Derived.Test.YteabiaoklpfbdaaRound
import Derived.Test.YteabiaoklpfbdaaTaskAwake
set_option linter.unusedVariables false
set_option linter.unusedSimpArgs false
namespace Go.Proofs.Yteabiaoklpfbdaa
open Go.RowKit
set_option maxRecDepth 100000
theorem taskEnds_bad (n at' how : Int) (p : Bool) (w : World) (h : n < 1 ∨ 20 < n) :
    Calls Try.prog 7 #[.int .i64 n, .int .i64 at', .int .i64 how, .bool p] w fun e w' => e = .returned (.bool true) ∧ Fr Nob w w' := by
  have Haw := Lib.hid (awake17 w)
  go_enter Try.func7, Try.ntmps7
  go_wp2_with fail
  all_goals
    refine Haw.out.mono ?_
    rintro e w' ⟨rfl, hf⟩
    go_wp2_with fail
    go_ret
    exact ⟨rfl, hf⟩
abbrev rgE (j : Int) : Nat → Int := fun k => [j].getD k 0
/-- The tasks that the loop starts. -/
def EndsAt (base : Nat) (w : World) (b n : Nat) : Prop := ∃ (S : Nat → Prop) (ts : List Tk) (line : List Int), TableAt w S b ts line ∧ ts.length = n ∧ (∀ i : Nat, i < n → ts[i]? = some (newT (i : Int) (rgE (i : Int)), false)) ∧ line.length = n ∧ line.Nodup ∧ (∀ x, x ∈ line ↔ 0 ≤ x ∧ x < (n : Int)) ∧ ∀ k, S k → base ≤ k
theorem TableAt.fr0 {w w' : World} {S : Nat → Prop} {b : Nat} {ts : List Tk} {line : List Int} (h : TableAt w S b ts line) (hf : Fr Nob w w') : TableAt w' S b ts line := by
  obtain ⟨ab, lb, SA, SL, h⟩ := h
  exact ⟨ab, lb, SA, SL, h.fr0 hf⟩
theorem TableAt.lt {w : World} {S : Nat → Prop} {b : Nat} {ts : List Tk} {line : List Int} (h : TableAt w S b ts line) (k : Nat) (q : S k) : k < w.heap.size := by
  obtain ⟨ab, lb, SA, SL, h⟩ := h
  exact h.lt k q

set_option maxHeartbeats 4000000 in
theorem taskEnds_true (n : Nat) (at' how : Int) (w : World) (h1 : 1 ≤ n) (h20 : n ≤ 20) :
    Calls Try.prog 7 #[.int .i64 (n : Int), .int .i64 at', .int .i64 how, .bool true] w fun e w' => e = .returned (.bool true) ∧ Fr Nob w w' := by
  have g3 : ¬ (n : Int) < 1 := by omega
  have g4 : ¬ (20 : Int) < n := by omega
  obtain ⟨m, hm⟩ : ∃ m, m + 1 = n := ⟨n - 1, by omega⟩
  have hsub : IntKind.i64.wrap ((n : Int) - 1) = (m : Int) := by rw [IntWalk.i64_in _ (by omega)]; omega
  have Hm := Lib.hid hm; have Hsub := Lib.hid hsub
  clear hm hsub
  go_enter Try.func7, Try.ntmps7
  go_wp2_with fail
  refine (task_new w).mono ?_
  rintro e w1 ⟨b, S0, rfl, hf1, ht1, hs1⟩
  have F1 := Lib.hid hf1
  have HT1 : Hid (EndsAt w.heap.size w1 b 0) := Lib.hid ⟨S0, [], [], ht1, rfl, fun i h => by omega, rfl, List.nodup_nil, fun x => ⟨fun h => (by cases h), fun h => (by omega)⟩, hs1⟩
  clear hf1 ht1 hs1
  go_wp2_with fail
  go_loopw [10] (fun i wr => ∃ j : Nat, i = .int .i64 j ∧ j ≤ n ∧ Fr Nob w wr ∧ EndsAt w.heap.size wr b j) (fun i _ => n - (intOf i).toNat)
  case atStart => exact ⟨0, rfl, by omega, F1.out, HT1.out⟩
  case round =>
    obtain ⟨j, rfl, hj, hfr, hr⟩ := hrel
    have Hfr := Lib.hid hfr; have Hr := Lib.hid hr; clear hfr hr
    by_cases hlt : j < n
    · have hlt' : (j : Int) < n := by omega
      go_wp2_with fail
      obtain ⟨S, ts, line, ht, hn, hts, hl, hnd, hmem, hS⟩ := Hr.out
      have hni : ((j : Int)) ∉ line := fun q => by have := (hmem _).1 q; omega
      refine (task_start ht (j : Int) (by omega) (rgE (j : Int)) j hn (by omega) hni (by omega)).mono ?_
      rintro e w2 ⟨S2, rfl, hf2, ht2, hs2⟩
      have F2 := Lib.hid (Hfr.out.trans hf2 fun k hk q => by have := hS k q; omega)
      have HT2 : Hid (EndsAt w.heap.size w2 b (j + 1)) := Lib.hid ⟨S2, _, _, ht2, by rw [List.length_append, hn]; rfl, fun i hi => by
        by_cases hij : i < j
        · rw [List.getElem?_append_left (by omega)]; exact hts i hij
        · obtain rfl : i = j := by omega
          rw [List.getElem?_append_right (by omega), hn]; simp, by rw [List.length_append, hl]; rfl, List.nodup_append.2 ⟨hnd, by simp, fun a ha c hc => by simp at hc; subst hc; exact fun e => hni (e ▸ ha)⟩, fun x => by
        rw [List.mem_append, hmem x]; simp; omega, fun k q => by have := Hfr.out.size; rcases hs2 k q with q | q; exact hS k q; omega⟩
      clear hf2 ht2 hs2 ht hn hts hl hnd hmem hS hni Hr
      go_wp2_with fail
      go_roundw
      case rel => exact ⟨j + 1, by go_num, by omega, F2.out, HT2.out⟩
      case measure => simp [intOf]; omega
    · have hlt' : ¬ (j : Int) < n := by omega
      obtain rfl : j = n := by omega
      have hk1 := Int.emod_nonneg at' (show (j : Int) ≠ 0 by omega)
      have hk2 := Int.emod_lt_of_pos at' (show 0 < (j : Int) by omega)
      obtain ⟨k, hk⟩ := Int.eq_ofNat_of_zero_le hk1
      rw [hk] at hk2
      have hkj : k < j := by omega
      have Hk := Lib.hid hk
      clear hk hk1 hk2
      go_wp2_with fail
      refine (alike_round wr at' j (by omega) (by omega)).mono ?_
      rintro e _ ⟨rfl, rfl⟩
      rw [Hk.out]
      go_wp2_with fail
      obtain ⟨w4, hw4⟩ : ∃ w4, w4 = wr.alloc (.cells #[.int .i64 10, .int .i64 1, .int .i64 2, .int .i64 0, .slice none 0 0, .bool false] 34) := ⟨_, rfl⟩
      rw [← hw4]
      obtain ⟨pb, hpb⟩ : ∃ pb, pb = wr.heap.size := ⟨_, rfl⟩
      rw [← hpb]
      obtain ⟨S, ts, line, ht, hn, hts, hl, hnd, hmem, hS⟩ := Hr.out
      have hf4 : Fr Nob wr w4 := by rw [hw4]; exact (Fr.refl Nob wr).alloc _
      have F4 := Lib.hid (Hfr.out.trans0 hf4)
      have HT4 := Lib.hid (ht.fr0 hf4)
      have Hp4 : Hid (w4.heap[pb]? = some (.cells #[.int .i64 10, .int .i64 1, .int .i64 2, .int .i64 0, .slice none 0 0, .bool false] 34 (0, 0))) := Lib.hid (by rw [hw4, hpb]; exact heap_alloc_new _ _)
      have Hnp : Hid (¬ S pb) := Lib.hid fun q => by have := ht.lt _ q; omega
      have HS := Lib.hid hS
      have Hi : Hid (ts[k]? = some ((newT (k : Int) (rgE (k : Int))), false)) := Lib.hid (hts k hkj)
      have Hts : Hid (k < ts.length) := Lib.hid (by omega)
      have Hke : Hid ((line.erase (k : Int)).length = m ∧ (k : Int) ∉ line.erase (k : Int)) := Lib.hid ⟨by rw [List.length_erase_of_mem ((hmem _).2 ⟨by omega, by omega⟩), hl]; have := Hm.out; omega, hnd.not_mem_erase⟩
      clear hw4 hpb ht hn hts hl hnd hmem hS hf4 Hr
      refine (park_ok HT4.out k _ false Hi.out 10 1 2 0 false rfl (.inl rfl) rfl).mono ?_
      rintro e w5 ⟨rfl, hf5, ht5⟩
      have F5 := Lib.hid (F4.out.trans hf5 fun k hk q => by have := HS.out k q; omega)
      have HT5 := Lib.hid ht5
      have Hp5 := Lib.hid (hf5.blk Hnp.out Hp4.out)
      have Hi5 : Hid ((ts.set k ((parkT (newT (k : Int) (rgE (k : Int))) 10 1 2 0), false))[k]? = some ((parkT (newT (k : Int) (rgE (k : Int))) 10 1 2 0), false)) := Lib.hid (by rw [List.getElem?_set_self (by have := Hts.out; omega)])
      clear hf5 ht5 HT4
      go_wp2_with fail
      refine (end_ok HT5.out k _ false Hi5.out rfl how).mono ?_
      rintro e w6 ⟨rfl, hf6, ht6⟩
      rw [List.erase_of_not_mem Hke.out.2] at ht6
      have Hi6 : Hid (((ts.set k ((parkT (newT (k : Int) (rgE (k : Int))) 10 1 2 0), false)).set k ((endT (parkT (newT (k : Int) (rgE (k : Int))) 10 1 2 0) how), false))[k]? = some ((endT (parkT (newT (k : Int) (rgE (k : Int))) 10 1 2 0) how), false)) := Lib.hid (by rw [List.getElem?_set_self (by rw [List.length_set]; have := Hts.out; omega)])
      have F6 := Lib.hid (F5.out.trans hf6 fun k hk q => by have := HS.out k q; omega)
      have HT6 := Lib.hid ht6
      have hp6 := hf6.blk Hnp.out Hp5.out
      have Key := Lib.hid (fun W (hW : Fr Nob w6 W) => (show W.cell? ⟨pb, 0, none⟩ = some (.int .i64 10) ∧ W.cell? ⟨pb, 1, none⟩ = some (.int .i64 1) ∧ W.cell? ⟨pb, 2, none⟩ = some (.int .i64 2) ∧ W.cell? ⟨pb, 3, none⟩ = some (.int .i64 0) ∧ W.cell? ⟨pb, 4, none⟩ = some (.slice none 0 0) ∧ W.cell? ⟨pb, 5, none⟩ = some (.bool false) from ⟨blk_cell (hW.blk id hp6) 0 rfl, blk_cell (hW.blk id hp6) 1 rfl, blk_cell (hW.blk id hp6) 2 rfl, blk_cell (hW.blk id hp6) 3 rfl, blk_cell (hW.blk id hp6) 4 rfl, blk_cell (hW.blk id hp6) 5 rfl⟩))
      have Cput := Lib.hid (fun W (hW : Fr Nob w6 W) => put_done (HT6.out.fr0 hW) k _ false Hi6.out 3 rg0 rfl)
      have Cpark := Lib.hid (fun W (hW : Fr Nob w6 W) => park_done (HT6.out.fr0 hW) k _ false Hi6.out 10 1 2 0 false rfl)
      have Cwake := Lib.hid (fun W (hW : Fr Nob w6 W) => wake_done (HT6.out.fr0 hW) k _ false Hi6.out 0 0 false false rfl)
      have Cend := Lib.hid (fun W h (hW : Fr Nob w6 W) => end_done (HT6.out.fr0 hW) k _ false Hi6.out rfl h)
      have hf0 : Fr Nob w6 w6 := Fr.refl _ _
      clear hf6 ht6 hp6
      go_wp2_with fail
      go_region_held3 (fun W => W.cell? ⟨pb, 0, none⟩ = some (.int .i64 10) ∧ W.cell? ⟨pb, 1, none⟩ = some (.int .i64 1) ∧ W.cell? ⟨pb, 2, none⟩ = some (.int .i64 2) ∧ W.cell? ⟨pb, 3, none⟩ = some (.int .i64 0) ∧ W.cell? ⟨pb, 4, none⟩ = some (.slice none 0 0) ∧ W.cell? ⟨pb, 5, none⟩ = some (.bool false))
        ((refine Key.out _ ?_; first | with_reducible exact hf10 | with_reducible exact hf9 | with_reducible exact hf8 | with_reducible exact hf7 | with_reducible exact hf0 | exact hf0.drew))
        ((first
          | (go_at_call 21; refine (Cput.out w6.drew hf0.drew).mono ?_; rintro e w7 ⟨rfl, hf⟩; have hf7 : Fr Nob w6 w7 := (hf0.drew).trans0 hf; clear hf)
          | (go_at_call 12; refine (Cpark.out w7 hf7).mono ?_; rintro e w8 ⟨rfl, hf⟩; have hf8 : Fr Nob w6 w8 := hf7.trans0 hf; clear hf)
          | (go_at_call 14; refine (Cwake.out w8 hf8).mono ?_; rintro e w9 ⟨rfl, hf⟩; have hf9 : Fr Nob w6 w9 := hf8.trans0 hf; clear hf)
          | (go_at_call 15; refine (Cend.out w9 _ hf9).mono ?_; rintro e w10 ⟨rfl, hf⟩; have hf10 : Fr Nob w6 w10 := hf9.trans0 hf; clear hf)))
      have F10 := Lib.hid (F6.out.trans0 hf10)
      have HT10 := Lib.hid (HT6.out.fr0 hf10)
      clear hf0 hf7 hf8 hf9 hf10 HT6 Key Cput Cpark Cwake Cend
      go_wp2_with fail
      refine (task_get HT10.out k _ false Hi6.out).mono ?_
      rintro e w11 ⟨rfl, hf11⟩
      have F11 := Lib.hid (F10.out.trans0 hf11)
      have HT11 := Lib.hid (HT10.out.fr0 hf11)
      clear hf11 HT10
      have hzn : (w11.alloc (.cells tkZ.toArray 44)).heap[w11.heap.size]? = some (.cells tkZ.toArray 44 (0, 0)) := heap_alloc_new _ _
      unfold tkZ at hzn
      dsimp only [tkL] at hzn
      go_wp2_with (refine wpList_store_row _ rfl 44 (.tmp 20) (.tmp 85) rfl w11.heap.size (tkD (endT (parkT (newT (k : Int) (rgE (k : Int))) 10 1 2 0) how) false).toArray _ 44 rfl rfl hzn rfl (info18 _ false) (tkD_all _ false) ?_; intro w12 hb12 hf12; have Hb12 := Lib.hid hb12; have Hf12 := Lib.hid hf12; clear hb12 hf12)
      have hf1112 : Fr Nob w11 w12 := ((Fr.refl Nob w11).alloc _).trans Hf12.out fun k hk e => by omega
      have F12 := Lib.hid (F11.out.trans0 hf1112)
      have HT12 := Lib.hid (HT11.out.fr0 hf1112)
      have Hxb := Lib.hid Hb12.out
      clear hf1112 HT11 hzn Hf12
      refine (task_ready HT12.out m (by first | exact Hke.out.1 | (rw [Hke.out.1]))).mono ?_
      rintro e w13 ⟨A, cp, rfl, hf13, hs13⟩
      have F13 := Lib.hid (F12.out.trans0 hf13)
      have hx := hf13.blk id Hxb.out
      have x2 : w13.cell? ⟨w11.heap.size, 2, none⟩ = some (.int .i64 2) := blk_cell hx 2 rfl
      have x3 : w13.cell? ⟨w11.heap.size, 3, none⟩ = some (.int .i64 how) := blk_cell hx 3 rfl
      have x4 : w13.cell? ⟨w11.heap.size, 4, none⟩ = some (.int .i64 (k : Int)) := blk_cell hx 4 rfl
      have x5 : w13.cell? ⟨w11.heap.size, 5, none⟩ = some (.int .i64 0) := blk_cell hx 5 rfl
      have x6 : w13.cell? ⟨w11.heap.size, 6, none⟩ = some (.int .i64 0) := blk_cell hx 6 rfl
      have x7 : w13.cell? ⟨w11.heap.size, 7, none⟩ = some (.int .i64 0) := blk_cell hx 7 rfl
      have x8 : w13.cell? ⟨w11.heap.size, 8, none⟩ = some (.int .i64 0) := blk_cell hx 8 rfl
      have x9 : w13.cell? ⟨w11.heap.size, 9, none⟩ = some (.int .i64 0) := blk_cell hx 9 rfl
      have x10 : w13.cell? ⟨w11.heap.size, 10, none⟩ = some (.int .i64 0) := blk_cell hx 10 rfl
      have x11 : w13.cell? ⟨w11.heap.size, 11, none⟩ = some (.int .i64 0) := blk_cell hx 11 rfl
      have heq : ∀ W : World, (Op.equalIn 10000 30 (.agg #[.int .i64 (k : Int), .int .i64 0, .int .i64 0, .int .i64 0, .int .i64 0, .int .i64 0, .int .i64 0, .int .i64 0]) (.agg #[.int .i64 (k : Int), .int .i64 0, .int .i64 0, .int .i64 0, .int .i64 0, .int .i64 0, .int .i64 0, .int .i64 0])).run Try.prog W = .ok true W := fun W => run_equalIn_arr (P := Try.prog) W 9998 30 3 8 [(k : Int), 0, 0, 0, 0, 0, 0, 0] Try.underlying30 Try.underlying3 (by kernel_rfl) rfl
      have hsub := Hsub.out
      clear hf13 hs13 hx HT12
      go_wp2_with fail
      refine (awake17 w13).mono ?_
      rintro e w14 ⟨rfl, hf14⟩
      have F14 := Lib.hid (F13.out.trans0 hf14)
      clear hf14 x2 x3 x4 x5 x6 x7 x8 x9 x10 x11 heq
      go_wp2_with fail
      go_ret
      exact ⟨rfl, F14.out⟩

set_option maxHeartbeats 4000000 in
theorem taskEnds_false (n : Nat) (at' how : Int) (w : World) (h1 : 1 ≤ n) (h20 : n ≤ 20) :
    Calls Try.prog 7 #[.int .i64 (n : Int), .int .i64 at', .int .i64 how, .bool false] w fun e w' => e = .returned (.bool true) ∧ Fr Nob w w' := by
  have g3 : ¬ (n : Int) < 1 := by omega
  have g4 : ¬ (20 : Int) < n := by omega
  obtain ⟨m, hm⟩ : ∃ m, m + 1 = n := ⟨n - 1, by omega⟩
  have hsub : IntKind.i64.wrap ((n : Int) - 1) = (m : Int) := by rw [IntWalk.i64_in _ (by omega)]; omega
  have Hm := Lib.hid hm; have Hsub := Lib.hid hsub
  clear hm hsub
  go_enter Try.func7, Try.ntmps7
  go_wp2_with fail
  refine (task_new w).mono ?_
  rintro e w1 ⟨b, S0, rfl, hf1, ht1, hs1⟩
  have F1 := Lib.hid hf1
  have HT1 : Hid (EndsAt w.heap.size w1 b 0) := Lib.hid ⟨S0, [], [], ht1, rfl, fun i h => by omega, rfl, List.nodup_nil, fun x => ⟨fun h => (by cases h), fun h => (by omega)⟩, hs1⟩
  clear hf1 ht1 hs1
  go_wp2_with fail
  go_loopw [10] (fun i wr => ∃ j : Nat, i = .int .i64 j ∧ j ≤ n ∧ Fr Nob w wr ∧ EndsAt w.heap.size wr b j) (fun i _ => n - (intOf i).toNat)
  case atStart => exact ⟨0, rfl, by omega, F1.out, HT1.out⟩
  case round =>
    obtain ⟨j, rfl, hj, hfr, hr⟩ := hrel
    have Hfr := Lib.hid hfr; have Hr := Lib.hid hr; clear hfr hr
    by_cases hlt : j < n
    · have hlt' : (j : Int) < n := by omega
      go_wp2_with fail
      obtain ⟨S, ts, line, ht, hn, hts, hl, hnd, hmem, hS⟩ := Hr.out
      have hni : ((j : Int)) ∉ line := fun q => by have := (hmem _).1 q; omega
      refine (task_start ht (j : Int) (by omega) (rgE (j : Int)) j hn (by omega) hni (by omega)).mono ?_
      rintro e w2 ⟨S2, rfl, hf2, ht2, hs2⟩
      have F2 := Lib.hid (Hfr.out.trans hf2 fun k hk q => by have := hS k q; omega)
      have HT2 : Hid (EndsAt w.heap.size w2 b (j + 1)) := Lib.hid ⟨S2, _, _, ht2, by rw [List.length_append, hn]; rfl, fun i hi => by
        by_cases hij : i < j
        · rw [List.getElem?_append_left (by omega)]; exact hts i hij
        · obtain rfl : i = j := by omega
          rw [List.getElem?_append_right (by omega), hn]; simp, by rw [List.length_append, hl]; rfl, List.nodup_append.2 ⟨hnd, by simp, fun a ha c hc => by simp at hc; subst hc; exact fun e => hni (e ▸ ha)⟩, fun x => by
        rw [List.mem_append, hmem x]; simp; omega, fun k q => by have := Hfr.out.size; rcases hs2 k q with q | q; exact hS k q; omega⟩
      clear hf2 ht2 hs2 ht hn hts hl hnd hmem hS hni Hr
      go_wp2_with fail
      go_roundw
      case rel => exact ⟨j + 1, by go_num, by omega, F2.out, HT2.out⟩
      case measure => simp [intOf]; omega
    · have hlt' : ¬ (j : Int) < n := by omega
      obtain rfl : j = n := by omega
      have hk1 := Int.emod_nonneg at' (show (j : Int) ≠ 0 by omega)
      have hk2 := Int.emod_lt_of_pos at' (show 0 < (j : Int) by omega)
      obtain ⟨k, hk⟩ := Int.eq_ofNat_of_zero_le hk1
      rw [hk] at hk2
      have hkj : k < j := by omega
      have Hk := Lib.hid hk
      clear hk hk1 hk2
      go_wp2_with fail
      refine (alike_round wr at' j (by omega) (by omega)).mono ?_
      rintro e _ ⟨rfl, rfl⟩
      rw [Hk.out]
      go_wp2_with fail
      obtain ⟨w4, hw4⟩ : ∃ w4, w4 = wr.alloc (.cells #[.int .i64 10, .int .i64 1, .int .i64 2, .int .i64 0, .slice none 0 0, .bool false] 34) := ⟨_, rfl⟩
      rw [← hw4]
      obtain ⟨pb, hpb⟩ : ∃ pb, pb = wr.heap.size := ⟨_, rfl⟩
      rw [← hpb]
      obtain ⟨S, ts, line, ht, hn, hts, hl, hnd, hmem, hS⟩ := Hr.out
      have hf4 : Fr Nob wr w4 := by rw [hw4]; exact (Fr.refl Nob wr).alloc _
      have F4 := Lib.hid (Hfr.out.trans0 hf4)
      have HT4 := Lib.hid (ht.fr0 hf4)
      have Hp4 : Hid (w4.heap[pb]? = some (.cells #[.int .i64 10, .int .i64 1, .int .i64 2, .int .i64 0, .slice none 0 0, .bool false] 34 (0, 0))) := Lib.hid (by rw [hw4, hpb]; exact heap_alloc_new _ _)
      have Hnp : Hid (¬ S pb) := Lib.hid fun q => by have := ht.lt _ q; omega
      have HS := Lib.hid hS
      have Hi : Hid (ts[k]? = some ((newT (k : Int) (rgE (k : Int))), false)) := Lib.hid (hts k hkj)
      have Hts : Hid (k < ts.length) := Lib.hid (by omega)
      have Hke : Hid ((line.erase (k : Int)).length = m ∧ (k : Int) ∉ line.erase (k : Int)) := Lib.hid ⟨by rw [List.length_erase_of_mem ((hmem _).2 ⟨by omega, by omega⟩), hl]; have := Hm.out; omega, hnd.not_mem_erase⟩
      clear hw4 hpb ht hn hts hl hnd hmem hS hf4 Hr
      have F5 := F4
      have Hp5 := Hp4
      refine (end_ok HT4.out k _ false Hi.out rfl how).mono ?_
      rintro e w6 ⟨rfl, hf6, ht6⟩
      have Hi6 : Hid ((ts.set k ((endT (newT (k : Int) (rgE (k : Int))) how), false))[k]? = some ((endT (newT (k : Int) (rgE (k : Int))) how), false)) := Lib.hid (by rw [List.getElem?_set_self (by have := Hts.out; omega)])
      have F6 := Lib.hid (F5.out.trans hf6 fun k hk q => by have := HS.out k q; omega)
      have HT6 := Lib.hid ht6
      have hp6 := hf6.blk Hnp.out Hp5.out
      have Key := Lib.hid (fun W (hW : Fr Nob w6 W) => (show W.cell? ⟨pb, 0, none⟩ = some (.int .i64 10) ∧ W.cell? ⟨pb, 1, none⟩ = some (.int .i64 1) ∧ W.cell? ⟨pb, 2, none⟩ = some (.int .i64 2) ∧ W.cell? ⟨pb, 3, none⟩ = some (.int .i64 0) ∧ W.cell? ⟨pb, 4, none⟩ = some (.slice none 0 0) ∧ W.cell? ⟨pb, 5, none⟩ = some (.bool false) from ⟨blk_cell (hW.blk id hp6) 0 rfl, blk_cell (hW.blk id hp6) 1 rfl, blk_cell (hW.blk id hp6) 2 rfl, blk_cell (hW.blk id hp6) 3 rfl, blk_cell (hW.blk id hp6) 4 rfl, blk_cell (hW.blk id hp6) 5 rfl⟩))
      have Cput := Lib.hid (fun W (hW : Fr Nob w6 W) => put_done (HT6.out.fr0 hW) k _ false Hi6.out 3 rg0 rfl)
      have Cpark := Lib.hid (fun W (hW : Fr Nob w6 W) => park_done (HT6.out.fr0 hW) k _ false Hi6.out 10 1 2 0 false rfl)
      have Cwake := Lib.hid (fun W (hW : Fr Nob w6 W) => wake_done (HT6.out.fr0 hW) k _ false Hi6.out 0 0 false false rfl)
      have Cend := Lib.hid (fun W h (hW : Fr Nob w6 W) => end_done (HT6.out.fr0 hW) k _ false Hi6.out rfl h)
      have hf0 : Fr Nob w6 w6 := Fr.refl _ _
      clear hf6 ht6 hp6
      go_wp2_with fail
      go_region_held3 (fun W => W.cell? ⟨pb, 0, none⟩ = some (.int .i64 10) ∧ W.cell? ⟨pb, 1, none⟩ = some (.int .i64 1) ∧ W.cell? ⟨pb, 2, none⟩ = some (.int .i64 2) ∧ W.cell? ⟨pb, 3, none⟩ = some (.int .i64 0) ∧ W.cell? ⟨pb, 4, none⟩ = some (.slice none 0 0) ∧ W.cell? ⟨pb, 5, none⟩ = some (.bool false))
        ((refine Key.out _ ?_; first | with_reducible exact hf10 | with_reducible exact hf9 | with_reducible exact hf8 | with_reducible exact hf7 | with_reducible exact hf0 | exact hf0.drew))
        ((first
          | (go_at_call 21; refine (Cput.out w6.drew hf0.drew).mono ?_; rintro e w7 ⟨rfl, hf⟩; have hf7 : Fr Nob w6 w7 := (hf0.drew).trans0 hf; clear hf)
          | (go_at_call 12; refine (Cpark.out w7 hf7).mono ?_; rintro e w8 ⟨rfl, hf⟩; have hf8 : Fr Nob w6 w8 := hf7.trans0 hf; clear hf)
          | (go_at_call 14; refine (Cwake.out w8 hf8).mono ?_; rintro e w9 ⟨rfl, hf⟩; have hf9 : Fr Nob w6 w9 := hf8.trans0 hf; clear hf)
          | (go_at_call 15; refine (Cend.out w9 _ hf9).mono ?_; rintro e w10 ⟨rfl, hf⟩; have hf10 : Fr Nob w6 w10 := hf9.trans0 hf; clear hf)))
      have F10 := Lib.hid (F6.out.trans0 hf10)
      have HT10 := Lib.hid (HT6.out.fr0 hf10)
      clear hf0 hf7 hf8 hf9 hf10 HT6 Key Cput Cpark Cwake Cend
      go_wp2_with fail
      refine (task_get HT10.out k _ false Hi6.out).mono ?_
      rintro e w11 ⟨rfl, hf11⟩
      have F11 := Lib.hid (F10.out.trans0 hf11)
      have HT11 := Lib.hid (HT10.out.fr0 hf11)
      clear hf11 HT10
      have hzn : (w11.alloc (.cells tkZ.toArray 44)).heap[w11.heap.size]? = some (.cells tkZ.toArray 44 (0, 0)) := heap_alloc_new _ _
      unfold tkZ at hzn
      dsimp only [tkL] at hzn
      go_wp2_with (refine wpList_store_row _ rfl 44 (.tmp 20) (.tmp 85) rfl w11.heap.size (tkD (endT (newT (k : Int) (rgE (k : Int))) how) false).toArray _ 44 rfl rfl hzn rfl (info18 _ false) (tkD_all _ false) ?_; intro w12 hb12 hf12; have Hb12 := Lib.hid hb12; have Hf12 := Lib.hid hf12; clear hb12 hf12)
      have hf1112 : Fr Nob w11 w12 := ((Fr.refl Nob w11).alloc _).trans Hf12.out fun k hk e => by omega
      have F12 := Lib.hid (F11.out.trans0 hf1112)
      have HT12 := Lib.hid (HT11.out.fr0 hf1112)
      have Hxb := Lib.hid Hb12.out
      clear hf1112 HT11 hzn Hf12
      refine (task_ready HT12.out m (by first | exact Hke.out.1 | (rw [Hke.out.1]))).mono ?_
      rintro e w13 ⟨A, cp, rfl, hf13, hs13⟩
      have F13 := Lib.hid (F12.out.trans0 hf13)
      have hx := hf13.blk id Hxb.out
      have x2 : w13.cell? ⟨w11.heap.size, 2, none⟩ = some (.int .i64 2) := blk_cell hx 2 rfl
      have x3 : w13.cell? ⟨w11.heap.size, 3, none⟩ = some (.int .i64 how) := blk_cell hx 3 rfl
      have x4 : w13.cell? ⟨w11.heap.size, 4, none⟩ = some (.int .i64 (k : Int)) := blk_cell hx 4 rfl
      have x5 : w13.cell? ⟨w11.heap.size, 5, none⟩ = some (.int .i64 0) := blk_cell hx 5 rfl
      have x6 : w13.cell? ⟨w11.heap.size, 6, none⟩ = some (.int .i64 0) := blk_cell hx 6 rfl
      have x7 : w13.cell? ⟨w11.heap.size, 7, none⟩ = some (.int .i64 0) := blk_cell hx 7 rfl
      have x8 : w13.cell? ⟨w11.heap.size, 8, none⟩ = some (.int .i64 0) := blk_cell hx 8 rfl
      have x9 : w13.cell? ⟨w11.heap.size, 9, none⟩ = some (.int .i64 0) := blk_cell hx 9 rfl
      have x10 : w13.cell? ⟨w11.heap.size, 10, none⟩ = some (.int .i64 0) := blk_cell hx 10 rfl
      have x11 : w13.cell? ⟨w11.heap.size, 11, none⟩ = some (.int .i64 0) := blk_cell hx 11 rfl
      have heq : ∀ W : World, (Op.equalIn 10000 30 (.agg #[.int .i64 (k : Int), .int .i64 0, .int .i64 0, .int .i64 0, .int .i64 0, .int .i64 0, .int .i64 0, .int .i64 0]) (.agg #[.int .i64 (k : Int), .int .i64 0, .int .i64 0, .int .i64 0, .int .i64 0, .int .i64 0, .int .i64 0, .int .i64 0])).run Try.prog W = .ok true W := fun W => run_equalIn_arr (P := Try.prog) W 9998 30 3 8 [(k : Int), 0, 0, 0, 0, 0, 0, 0] Try.underlying30 Try.underlying3 (by kernel_rfl) rfl
      have hsub := Hsub.out
      clear hf13 hs13 hx HT12
      go_wp2_with fail
      refine (awake17 w13).mono ?_
      rintro e w14 ⟨rfl, hf14⟩
      have F14 := Lib.hid (F13.out.trans0 hf14)
      clear hf14 x2 x3 x4 x5 x6 x7 x8 x9 x10 x11 heq
      go_wp2_with fail
      go_ret
      exact ⟨rfl, F14.out⟩
theorem taskEnds_walk (n at' how : Int) (p : Bool) (w : World) (w0 : (Lit.int .i64 n).wf = true) (w1 : (Lit.int .i64 at').wf = true) (w2 : (Lit.int .i64 how).wf = true) :
    Calls Try.prog 7 #[.int .i64 n, .int .i64 at', .int .i64 how, .bool p] w fun e w' => e = .returned (.bool true) ∧ Below w.heap.size w w' := by
  have key : Calls Try.prog 7 #[.int .i64 n, .int .i64 at', .int .i64 how, .bool p] w fun e w' => e = .returned (.bool true) ∧ Fr Nob w w' := by
    by_cases hb : n < 1 ∨ 20 < n
    · exact taskEnds_bad n at' how p w hb
    · obtain ⟨m, rfl⟩ := Int.eq_ofNat_of_zero_le (show 0 ≤ n by omega)
      cases p with
      | true => exact taskEnds_true m at' how w (by omega) (by omega)
      | false => exact taskEnds_false m at' how w (by omega) (by omega)
  exact key.mono fun e w' ⟨h1, h2⟩ => ⟨h1, h2.below (Nat.le_refl _) fun _ q => q.elim⟩

/-! The row: out of the walk above. -/
namespace taskEnds
open Go.ChangeShapes Go.WideShapes Go.ChangeAt Go.RowKit
open Go.ChangeMaps (open_string shut_string)
theorem own : ownKnob Try.prog.godebug = none := by kernel_rfl
theorem laidOut : laidOutB Try.prog = true := by kernel_rfl
set_option maxRecDepth 100000 in
theorem lifted (os : Os) (started : os.Started) (H : Type) (enc : TypeId × Value → H) :
    ReturnsInHanded {} Try.checked os 7 .any (Rows.taskEndsSpec.pre6 enc Try.prog Try.f7 Rows.taskEndsRow.domain false) (Rows.taskEndsSpec.post enc Try.prog Try.f7 false true false false) := by
  refine returnsInHanded_of_change (C := Try.checked) own started (by kernel_rfl) Try.func7
    (ChangeSpec.witness6 (enc := enc) (C := Try.checked) false ⟨#[], #[.int .i64 0, .int .i64 0, .int .i64 0, .bool false], []⟩ 8 (by kernel_rfl) (by kernel_rfl) (by kernel_rfl) (by kernel_rfl)) ?_
  intro W base args ds gs before hval0 hW hcnd _
  have hval : ∀ (j : Nat) t v, Try.f7.params[j]? = some t → args[j]? = some v → Value.okWide Try.prog W .any base t v := hval0
  have hW' := hW
  obtain ⟨p, q, hA0, hV, rfl, hfz, hnd⟩ := hW
  have hA : DataW.TrodAll enc Try.prog W 0 (fun _ => true) true Try.f7.params.toList args.toList ds p := hA0
  rw [Try.params7] at hA hval
  obtain ⟨v0, vs0, d0, ds0, p0, q0, hargs, rfl, rfl, h0, r0⟩ := trodAll_cons hA
  obtain ⟨v1, vs1, d1, ds1, p1, q1, rfl, rfl, rfl, h1, r1⟩ := trodAll_cons r0
  obtain ⟨v2, vs2, d2, ds2, p2, q2, rfl, rfl, rfl, h2, r2⟩ := trodAll_cons r1
  obtain ⟨v3, vs3, d3, ds3, p3, q3, rfl, rfl, rfl, h3, r3⟩ := trodAll_cons r2
  obtain ⟨rfl, rfl, rfl⟩ := trodAll_nil r3
  obtain rfl : args = #[v0, v1, v2, v3] := by cases args; simp_all
  obtain ⟨rfl, rfl⟩ := trodVars_none hV
  obtain ⟨a0, rfl, rfl, rfl, w0⟩ := open_int Try.underlying3 (hval 0 3 v0 rfl rfl) h0
  obtain ⟨a1, rfl, rfl, rfl, w1⟩ := open_int Try.underlying3 (hval 1 3 v1 rfl rfl) h1
  obtain ⟨a2, rfl, rfl, rfl, w2⟩ := open_int Try.underlying3 (hval 2 3 v2 rfl rfl) h2
  obtain ⟨a3, rfl, rfl, rfl⟩ := open_bool Try.underlying4 (hval 3 4 v3 rfl rfl) h3
  clear hA0 hval0
  refine (taskEnds_walk a0 a1 a2 a3 W w0 w1 w2).mono fun e W' ⟨he, bel⟩ => ?_
  subst he
  exact ⟨_, rfl, _, _, _, [], _, [], hW', trodAll_mk1 (shut_bool Try.underlying4 _), (trodAll_cons_mk (shut_int Try.underlying3 w0) (trodAll_cons_mk (shut_int Try.underlying3 w1) (trodAll_cons_mk (shut_int Try.underlying3 w2) (trodAll_cons_mk (shut_bool Try.underlying4 _) trodAll_mk0)))), rfl, bel.frame _, fun h => by cases h⟩
theorem over : Rows.taskEndsRow.holds Try.pinned (OpenSpec.ofChange Rows.taskEndsSpec) :=
  OpenClaim.holds_of_wide 7 Try.f7 rfl rfl rfl rfl rfl rfl rfl ⟨rfl, rfl, rfl, rfl, rfl⟩ rfl rfl rfl rfl rfl (by kernel_rfl) Try.func7 (by kernel_rfl)
    (of_decide_eq_true (by kernel_rfl)) (by unfold Func.isWrapper; first | (rw [if_pos (by decide +kernel)]; kernel_rfl) | (rw [if_neg (by decide +kernel)]; exact ⟨rfl, rfl⟩))
    (fun os started H enc _ => lifted os started H enc)
end taskEnds
/-- THE STATEMENT. -/
theorem taskEnds_holds : Rows.TaskEndsSaid := taskEnds.over
#print axioms taskEnds_holds
end Go.Proofs.Yteabiaoklpfbdaa
