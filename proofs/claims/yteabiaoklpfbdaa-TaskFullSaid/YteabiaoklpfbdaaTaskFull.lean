/- TaskFull answers true whatever its number and its choice are: no condition. -/
import Derived.Test.YteabiaoklpfbdaaOpen
import Derived.Test.YteabiaoklpfbdaaTaskAwake
set_option linter.unusedVariables false
set_option linter.unusedSimpArgs false
namespace Go.Proofs.Yteabiaoklpfbdaa
open Go.RowKit
set_option maxRecDepth 100000
theorem taskFull_bad (more : Int) (e : Bool) (w : World) (h : more < 0 ∨ 10 < more) :
    Calls Try.prog 4 #[.int .i64 more, .bool e] w fun e w' => e = .returned (.bool true) ∧ Below w.heap.size w w' := by
  have Haw := Lib.hid (awake17 w)
  go_enter Try.func4, Try.ntmps4
  go_wp2_with fail
  all_goals
    refine Haw.out.mono ?_
    rintro e w' ⟨rfl, hf⟩
    go_wp2_with fail
    go_ret
    exact ⟨rfl, hf.below (Nat.le_refl _) fun _ q => q.elim⟩
abbrev rgF (j : Int) : Nat → Int := fun k => [j, 1].getD k 0
/-- What the rounds keep: a table of n tasks, whose line is of l numbers, all of them of tasks. -/
def FullAt (base : Nat) (w : World) (b n l : Nat) : Prop := ∃ (S : Nat → Prop) (ts : List Tk) (line : List Int), TableAt w S b ts line ∧ ts.length = n ∧ line.length = l ∧ (∀ x ∈ line, x < (n : Int)) ∧ ∀ k, S k → base ≤ k
theorem FullAt.fr0 {base : Nat} {w w' : World} {b n l : Nat} (h : FullAt base w b n l) (hf : Fr Nob w w') : FullAt base w' b n l := by
  obtain ⟨S, ts, line, ⟨ab, lb, SA, SL, h⟩, h2⟩ := h
  exact ⟨S, ts, line, ⟨ab, lb, SA, SL, h.fr0 hf⟩, h2⟩
theorem fmod5 (j : Nat) : 0 ≤ (j : Int).tmod 5 := Int.tmod_nonneg _ (by omega)

set_option maxHeartbeats 4000000 in
theorem taskFull_true (m : Nat) (w : World) (hm : m ≤ 10) :
    Calls Try.prog 4 #[.int .i64 (m : Int), .bool true] w fun e w' => e = .returned (.bool true) ∧ Below w.heap.size w w' := by
  have g3 : ¬ (m : Int) < 0 := by omega
  have g4 : ¬ (10 : Int) < m := by omega
  have hsum : IntKind.i64.wrap (64 + (m : Int)) = ((64 + m : Nat) : Int) := by rw [IntWalk.i64_in _ (by omega)]; omega
  obtain ⟨p, hp⟩ : ∃ p, p = 64 + m := ⟨_, rfl⟩
  rw [← hp] at hsum
  have Hp := Lib.hid hp
  have hp74 : p ≤ 74 := by omega
  clear hp
  go_enter Try.func4, Try.ntmps4
  go_wp2_with fail
  refine (task_new w).mono ?_
  rintro e w1 ⟨b, S0, rfl, hf1, ht1, hs1⟩
  have F1 := Lib.hid (hf1.none (S := From w.heap.size))
  have HT1 : Hid (FullAt w.heap.size w1 b 0 0) := Lib.hid ⟨S0, [], [], ht1, rfl, rfl, by simp, hs1⟩
  clear hf1 ht1 hs1
  go_wp2_with fail
  go_loopw [6] (fun i wr => ∃ j : Nat, i = .int .i64 j ∧ j ≤ p ∧ Fr (From w.heap.size) w wr ∧ FullAt w.heap.size wr b (min j 64) 0) (fun i _ => p - (intOf i).toNat)
  case atStart => exact ⟨0, rfl, by omega, F1.out, HT1.out⟩
  case round =>
    obtain ⟨j, rfl, hj, hfr, hr⟩ := hrel
    have Hfr := Lib.hid hfr; have Hr := Lib.hid hr; clear hfr hr
    by_cases hlt : j < p
    · have hlt' : (j : Int) < p := by omega
      by_cases hjm : j < 64
      · have hjm' : (j : Int) < 64 := by omega
        go_wp2_with fail
        obtain ⟨S, ts, line, ht, hn, hl, hmem, hS⟩ := Hr.out
        have hmn : min j 64 = j := by omega
        rw [hmn] at hn hmem
        try rw [hmn] at hl
        clear hmn
        have hni : ((j : Int)) ∉ line := fun q => by have := hmem _ q; omega
        have hll : line.length < 100000 := by omega
        have HS := Lib.hid hS; have Hn := Lib.hid hn; have Hl := Lib.hid hl; have Hmem := Lib.hid hmem
        clear hn hl hmem hS
        refine (task_start ht ((j : Int) % 5) (by omega) (rgF j) j Hn.out hjm hni hll).mono ?_
        rintro e w2 ⟨S2, rfl, hf2, ht2, hs2⟩
        have hz := Hfr.out.size
        have HS2 : Hid (∀ k, S2 k → w.heap.size ≤ k) := Lib.hid fun k q => by rcases hs2 k q with q | q; exact HS.out k q; omega
        have F2 := Lib.hid (Hfr.out.trans0 (hf2.mono fun k _ q => HS.out k q))
        have HT2 := Lib.hid ht2
        have Hi2 : Hid ((ts ++ [(newT ((j : Int) % 5) (rgF j), false)])[j]? = some (newT ((j : Int) % 5) (rgF j), false)) := Lib.hid (by rw [List.getElem?_append_right (by have := Hn.out; omega), Hn.out]; simp)
        clear hf2 ht2 hs2 hni hll ht Hr hz
        go_wp2_with fail
        refine (task_get HT2.out j _ false Hi2.out).mono ?_
        rintro e w3 ⟨rfl, hf3⟩
        have F3 := Lib.hid (F2.out.trans0 hf3.none)
        have HT3 : Hid (TableAt w3 S2 b (ts ++ [(newT ((j : Int) % 5) (rgF j), false)]) (line ++ [(j : Int)])) := Lib.hid (by obtain ⟨ab, lb, SA, SL, h⟩ := HT2.out; exact ⟨ab, lb, SA, SL, h.fr0 hf3⟩)
        clear hf3 HT2
        have hzn : (w3.alloc (.cells tkZ.toArray 44)).heap[w3.heap.size]? = some (.cells tkZ.toArray 44 (0, 0)) := heap_alloc_new _ _
        unfold tkZ at hzn
        dsimp only [tkL] at hzn
        have heq : ∀ W : World, (Op.equalIn 10000 30 (.agg #[.int .i64 (j : Int), .int .i64 1, .int .i64 0, .int .i64 0, .int .i64 0, .int .i64 0, .int .i64 0, .int .i64 0]) (.agg #[.int .i64 (j : Int), .int .i64 1, .int .i64 0, .int .i64 0, .int .i64 0, .int .i64 0, .int .i64 0, .int .i64 0])).run Try.prog W = .ok true W := fun W => run_equalIn_arr (P := Try.prog) W 9998 30 3 8 [(j : Int), 1, 0, 0, 0, 0, 0, 0] Try.underlying30 Try.underlying3 (by kernel_rfl) rfl
        go_wp2_with (refine wpList_store_row _ rfl 44 (.tmp 9) (.tmp 69) rfl w3.heap.size (tkD (newT ((j : Int) % 5) (rgF j)) false).toArray _ 44 rfl rfl hzn rfl (info18 _ false) (tkD_all _ false) ?_; intro w4 hb4 hf4; have x0 : w4.cell? ⟨w3.heap.size, 0, none⟩ = some (.int .i64 ((j : Int) % 5)) := blk_cell hb4 0 rfl; have x1 : w4.cell? ⟨w3.heap.size, 1, none⟩ = some (.int .i64 0) := blk_cell hb4 1 rfl; have x2 : w4.cell? ⟨w3.heap.size, 2, none⟩ = some (.int .i64 0) := blk_cell hb4 2 rfl; have x4 : w4.cell? ⟨w3.heap.size, 4, none⟩ = some (.int .i64 (j : Int)) := blk_cell hb4 4 rfl; have x5 : w4.cell? ⟨w3.heap.size, 5, none⟩ = some (.int .i64 1) := blk_cell hb4 5 rfl; have x6 : w4.cell? ⟨w3.heap.size, 6, none⟩ = some (.int .i64 0) := blk_cell hb4 6 rfl; have x7 : w4.cell? ⟨w3.heap.size, 7, none⟩ = some (.int .i64 0) := blk_cell hb4 7 rfl; have x8 : w4.cell? ⟨w3.heap.size, 8, none⟩ = some (.int .i64 0) := blk_cell hb4 8 rfl; have x9 : w4.cell? ⟨w3.heap.size, 9, none⟩ = some (.int .i64 0) := blk_cell hb4 9 rfl; have x10 : w4.cell? ⟨w3.heap.size, 10, none⟩ = some (.int .i64 0) := blk_cell hb4 10 rfl; have x11 : w4.cell? ⟨w3.heap.size, 11, none⟩ = some (.int .i64 0) := blk_cell hb4 11 rfl; have Hf4 := Lib.hid hf4; clear hb4 hf4)
        clear x0 x1 x2 x4 x5 x6 x7 x8 x9 x10 x11 heq
        have hf34 : Fr Nob w3 w4 := ((Fr.refl Nob w3).alloc _).trans Hf4.out fun k hk e => by omega
        have HT4 : Hid (TableAt w4 S2 b (ts ++ [(newT ((j : Int) % 5) (rgF j), false)]) (line ++ [(j : Int)])) := Lib.hid (by obtain ⟨ab, lb, SA, SL, h⟩ := HT3.out; exact ⟨ab, lb, SA, SL, h.fr0 hf34⟩)
        have F4 := Lib.hid (F3.out.trans0 hf34.none)
        clear hf34 HT3 hzn
        refine (end_ok HT4.out j _ false Hi2.out rfl 0).mono ?_
        rintro e w5 ⟨rfl, hf5, ht5⟩
        have F5 := Lib.hid (F4.out.trans0 (hf5.mono fun k _ q => HS2.out k q))
        have hl0 : line = [] := List.eq_nil_of_length_eq_zero Hl.out
        have HT5 : Hid (FullAt w.heap.size w5 b (min (j + 1) 64) 0) := Lib.hid ⟨S2, _, _, ht5, by rw [List.length_set, List.length_append]; have := Hn.out; simp; omega, by rw [hl0]; simp, by rw [hl0]; simp, HS2.out⟩
        clear hf5 ht5 hl0 HT4
        go_wp2_with fail
        go_roundw
        case rel => exact ⟨j + 1, by go_num, by omega, F5.out, HT5.out⟩
        case measure => simp [intOf]; omega
      · have hjm' : ¬ (j : Int) < 64 := by omega
        go_wp2_with fail
        obtain ⟨S, ts, line, ht, hn, hl, hmem, hS⟩ := Hr.out
        refine (start_full ht ((j : Int) % 5) (by omega) (rgF j) (by omega)).mono ?_
        rintro e w2 ⟨rfl, hf2⟩
        have F2 := Lib.hid (Hfr.out.trans0 hf2.none)
        have HT2 := Lib.hid (Hr.out.fr0 hf2)
        clear hf2 ht hn hl hmem hS
        go_wp2_with fail
        go_roundw
        case rel => exact ⟨j + 1, by go_num, by omega, F2.out, by rw [show min (j + 1) 64 = min j 64 by omega]; exact HT2.out⟩
        case measure => simp [intOf]; omega
    · have hlt' : ¬ (j : Int) < p := by omega
      have hj64 : min j 64 = 64 := by have := Hp.out; omega
      go_wp2_with fail
      obtain ⟨S, ts, line, ht, hn, hl, hmem, hS⟩ := Hr.out
      rw [hj64] at hn
      try rw [hj64] at hl
      have HT := Lib.hid ht; have Hl := Lib.hid hl
      refine (task_len ht 64 hn).mono ?_
      rintro e _ ⟨rfl, rfl⟩
      clear ht hn hl hmem hS Hr
      go_wp2_with fail
      refine (task_ready HT.out 0 Hl.out).mono ?_
      rintro e w2 ⟨A, cp, rfl, hf2, hs2⟩
      have F2 := Lib.hid (Hfr.out.trans0 hf2.none)
      clear hf2 hs2
      go_wp2_with fail
      refine (awake17 w2).mono ?_
      rintro e w3 ⟨rfl, hf3⟩
      go_wp2_with fail
      go_ret
      exact ⟨rfl, (F2.out.trans0 hf3.none).below (Nat.le_refl _) fun _ q => q⟩

set_option maxHeartbeats 4000000 in
theorem taskFull_false (m : Nat) (w : World) (hm : m ≤ 10) :
    Calls Try.prog 4 #[.int .i64 (m : Int), .bool false] w fun e w' => e = .returned (.bool true) ∧ Below w.heap.size w w' := by
  have g3 : ¬ (m : Int) < 0 := by omega
  have g4 : ¬ (10 : Int) < m := by omega
  have hsum : IntKind.i64.wrap (64 + (m : Int)) = ((64 + m : Nat) : Int) := by rw [IntWalk.i64_in _ (by omega)]; omega
  obtain ⟨p, hp⟩ : ∃ p, p = 64 + m := ⟨_, rfl⟩
  rw [← hp] at hsum
  have Hp := Lib.hid hp
  have hp74 : p ≤ 74 := by omega
  clear hp
  go_enter Try.func4, Try.ntmps4
  go_wp2_with fail
  refine (task_new w).mono ?_
  rintro e w1 ⟨b, S0, rfl, hf1, ht1, hs1⟩
  have F1 := Lib.hid (hf1.none (S := From w.heap.size))
  have HT1 : Hid (FullAt w.heap.size w1 b 0 0) := Lib.hid ⟨S0, [], [], ht1, rfl, rfl, by simp, hs1⟩
  clear hf1 ht1 hs1
  go_wp2_with fail
  go_loopw [6] (fun i wr => ∃ j : Nat, i = .int .i64 j ∧ j ≤ p ∧ Fr (From w.heap.size) w wr ∧ FullAt w.heap.size wr b (min j 64) (min j 64)) (fun i _ => p - (intOf i).toNat)
  case atStart => exact ⟨0, rfl, by omega, F1.out, HT1.out⟩
  case round =>
    obtain ⟨j, rfl, hj, hfr, hr⟩ := hrel
    have Hfr := Lib.hid hfr; have Hr := Lib.hid hr; clear hfr hr
    by_cases hlt : j < p
    · have hlt' : (j : Int) < p := by omega
      by_cases hjm : j < 64
      · have hjm' : (j : Int) < 64 := by omega
        go_wp2_with fail
        obtain ⟨S, ts, line, ht, hn, hl, hmem, hS⟩ := Hr.out
        have hmn : min j 64 = j := by omega
        rw [hmn] at hn hmem
        try rw [hmn] at hl
        clear hmn
        have hni : ((j : Int)) ∉ line := fun q => by have := hmem _ q; omega
        have hll : line.length < 100000 := by omega
        have HS := Lib.hid hS; have Hn := Lib.hid hn; have Hl := Lib.hid hl; have Hmem := Lib.hid hmem
        clear hn hl hmem hS
        refine (task_start ht ((j : Int) % 5) (by omega) (rgF j) j Hn.out hjm hni hll).mono ?_
        rintro e w2 ⟨S2, rfl, hf2, ht2, hs2⟩
        have hz := Hfr.out.size
        have HS2 : Hid (∀ k, S2 k → w.heap.size ≤ k) := Lib.hid fun k q => by rcases hs2 k q with q | q; exact HS.out k q; omega
        have F2 := Lib.hid (Hfr.out.trans0 (hf2.mono fun k _ q => HS.out k q))
        have HT2 := Lib.hid ht2
        have Hi2 : Hid ((ts ++ [(newT ((j : Int) % 5) (rgF j), false)])[j]? = some (newT ((j : Int) % 5) (rgF j), false)) := Lib.hid (by rw [List.getElem?_append_right (by have := Hn.out; omega), Hn.out]; simp)
        clear hf2 ht2 hs2 hni hll ht Hr hz
        go_wp2_with fail
        refine (task_get HT2.out j _ false Hi2.out).mono ?_
        rintro e w3 ⟨rfl, hf3⟩
        have F3 := Lib.hid (F2.out.trans0 hf3.none)
        have HT3 : Hid (TableAt w3 S2 b (ts ++ [(newT ((j : Int) % 5) (rgF j), false)]) (line ++ [(j : Int)])) := Lib.hid (by obtain ⟨ab, lb, SA, SL, h⟩ := HT2.out; exact ⟨ab, lb, SA, SL, h.fr0 hf3⟩)
        clear hf3 HT2
        have hzn : (w3.alloc (.cells tkZ.toArray 44)).heap[w3.heap.size]? = some (.cells tkZ.toArray 44 (0, 0)) := heap_alloc_new _ _
        unfold tkZ at hzn
        dsimp only [tkL] at hzn
        have heq : ∀ W : World, (Op.equalIn 10000 30 (.agg #[.int .i64 (j : Int), .int .i64 1, .int .i64 0, .int .i64 0, .int .i64 0, .int .i64 0, .int .i64 0, .int .i64 0]) (.agg #[.int .i64 (j : Int), .int .i64 1, .int .i64 0, .int .i64 0, .int .i64 0, .int .i64 0, .int .i64 0, .int .i64 0])).run Try.prog W = .ok true W := fun W => run_equalIn_arr (P := Try.prog) W 9998 30 3 8 [(j : Int), 1, 0, 0, 0, 0, 0, 0] Try.underlying30 Try.underlying3 (by kernel_rfl) rfl
        go_wp2_with (refine wpList_store_row _ rfl 44 (.tmp 9) (.tmp 69) rfl w3.heap.size (tkD (newT ((j : Int) % 5) (rgF j)) false).toArray _ 44 rfl rfl hzn rfl (info18 _ false) (tkD_all _ false) ?_; intro w4 hb4 hf4; have x0 : w4.cell? ⟨w3.heap.size, 0, none⟩ = some (.int .i64 ((j : Int) % 5)) := blk_cell hb4 0 rfl; have x1 : w4.cell? ⟨w3.heap.size, 1, none⟩ = some (.int .i64 0) := blk_cell hb4 1 rfl; have x2 : w4.cell? ⟨w3.heap.size, 2, none⟩ = some (.int .i64 0) := blk_cell hb4 2 rfl; have x4 : w4.cell? ⟨w3.heap.size, 4, none⟩ = some (.int .i64 (j : Int)) := blk_cell hb4 4 rfl; have x5 : w4.cell? ⟨w3.heap.size, 5, none⟩ = some (.int .i64 1) := blk_cell hb4 5 rfl; have x6 : w4.cell? ⟨w3.heap.size, 6, none⟩ = some (.int .i64 0) := blk_cell hb4 6 rfl; have x7 : w4.cell? ⟨w3.heap.size, 7, none⟩ = some (.int .i64 0) := blk_cell hb4 7 rfl; have x8 : w4.cell? ⟨w3.heap.size, 8, none⟩ = some (.int .i64 0) := blk_cell hb4 8 rfl; have x9 : w4.cell? ⟨w3.heap.size, 9, none⟩ = some (.int .i64 0) := blk_cell hb4 9 rfl; have x10 : w4.cell? ⟨w3.heap.size, 10, none⟩ = some (.int .i64 0) := blk_cell hb4 10 rfl; have x11 : w4.cell? ⟨w3.heap.size, 11, none⟩ = some (.int .i64 0) := blk_cell hb4 11 rfl; have Hf4 := Lib.hid hf4; clear hb4 hf4)
        have hf34 : Fr Nob w3 w4 := ((Fr.refl Nob w3).alloc _).trans Hf4.out fun k hk e => by omega
        have ht4 : TableAt w4 S2 b (ts ++ [(newT ((j : Int) % 5) (rgF j), false)]) (line ++ [(j : Int)]) := by obtain ⟨ab, lb, SA, SL, h⟩ := HT3.out; exact ⟨ab, lb, SA, SL, h.fr0 hf34⟩
        have F4 := Lib.hid (F3.out.trans0 hf34.none)
        have HT5 : Hid (FullAt w.heap.size w4 b (min (j + 1) 64) (min (j + 1) 64)) := Lib.hid ⟨S2, _, _, ht4, by rw [List.length_append]; have := Hn.out; simp; omega, by rw [List.length_append]; have := Hl.out; simp; omega, fun x hx => by
          have hmj : min (j + 1) 64 = j + 1 := by omega
          rw [hmj]
          rcases List.mem_append.1 hx with h | h
          · have := Hmem.out x h; omega
          · simp at h; omega, HS2.out⟩
        go_roundw
        case rel => exact ⟨j + 1, by go_num, by omega, F4.out, HT5.out⟩
        case measure => simp [intOf]; omega
      · have hjm' : ¬ (j : Int) < 64 := by omega
        go_wp2_with fail
        obtain ⟨S, ts, line, ht, hn, hl, hmem, hS⟩ := Hr.out
        refine (start_full ht ((j : Int) % 5) (by omega) (rgF j) (by omega)).mono ?_
        rintro e w2 ⟨rfl, hf2⟩
        have F2 := Lib.hid (Hfr.out.trans0 hf2.none)
        have HT2 := Lib.hid (Hr.out.fr0 hf2)
        clear hf2 ht hn hl hmem hS
        go_wp2_with fail
        go_roundw
        case rel => exact ⟨j + 1, by go_num, by omega, F2.out, by rw [show min (j + 1) 64 = min j 64 by omega]; exact HT2.out⟩
        case measure => simp [intOf]; omega
    · have hlt' : ¬ (j : Int) < p := by omega
      have hj64 : min j 64 = 64 := by have := Hp.out; omega
      go_wp2_with fail
      obtain ⟨S, ts, line, ht, hn, hl, hmem, hS⟩ := Hr.out
      rw [hj64] at hn
      try rw [hj64] at hl
      have HT := Lib.hid ht; have Hl := Lib.hid hl
      refine (task_len ht 64 hn).mono ?_
      rintro e _ ⟨rfl, rfl⟩
      clear ht hn hl hmem hS Hr
      go_wp2_with fail
      refine (task_ready HT.out 64 Hl.out).mono ?_
      rintro e w2 ⟨A, cp, rfl, hf2, hs2⟩
      have F2 := Lib.hid (Hfr.out.trans0 hf2.none)
      clear hf2 hs2
      go_wp2_with fail
      refine (awake17 w2).mono ?_
      rintro e w3 ⟨rfl, hf3⟩
      go_wp2_with fail
      go_ret
      exact ⟨rfl, (F2.out.trans0 hf3.none).below (Nat.le_refl _) fun _ q => q⟩

theorem taskFull_walk (more : Int) (end' : Bool) (w : World) (w0 : (Lit.int .i64 more).wf = true) :
    Calls Try.prog 4 #[.int .i64 more, .bool end'] w fun e w' => e = .returned (.bool true) ∧ Below w.heap.size w w' := by
  by_cases hb : more < 0 ∨ 10 < more
  · exact taskFull_bad more end' w hb
  · obtain ⟨m, rfl⟩ := Int.eq_ofNat_of_zero_le (show 0 ≤ more by omega)
    cases end' with
    | true => exact taskFull_true m w (by omega)
    | false => exact taskFull_false m w (by omega)

/-! The row: out of the walk above. -/
namespace taskFull
open Go.ChangeShapes Go.WideShapes Go.ChangeAt Go.RowKit
open Go.ChangeMaps (open_string shut_string)
theorem own : ownKnob Try.prog.godebug = none := by kernel_rfl
theorem laidOut : laidOutB Try.prog = true := by kernel_rfl
set_option maxRecDepth 100000 in
theorem lifted (os : Os) (started : os.Started) (H : Type) (enc : TypeId × Value → H) :
    ReturnsInHanded {} Try.checked os 4 .any (Rows.taskFullSpec.pre6 enc Try.prog Try.f4 Rows.taskFullRow.domain false) (Rows.taskFullSpec.post enc Try.prog Try.f4 false true false false) := by
  refine returnsInHanded_of_change (C := Try.checked) own started (by kernel_rfl) Try.func4
    (ChangeSpec.witness6 (enc := enc) (C := Try.checked) false ⟨#[], #[.int .i64 0, .bool false], []⟩ 8 (by kernel_rfl) (by kernel_rfl) (by kernel_rfl) (by kernel_rfl)) ?_
  intro W base args ds gs before hval0 hW hcnd _
  have hval : ∀ (j : Nat) t v, Try.f4.params[j]? = some t → args[j]? = some v → Value.okWide Try.prog W .any base t v := hval0
  have hW' := hW
  obtain ⟨p, q, hA0, hV, rfl, hfz, hnd⟩ := hW
  have hA : DataW.TrodAll enc Try.prog W 0 (fun _ => true) true Try.f4.params.toList args.toList ds p := hA0
  rw [Try.params4] at hA hval
  obtain ⟨v0, vs0, d0, ds0, p0, q0, hargs, rfl, rfl, h0, r0⟩ := trodAll_cons hA
  obtain ⟨v1, vs1, d1, ds1, p1, q1, rfl, rfl, rfl, h1, r1⟩ := trodAll_cons r0
  obtain ⟨rfl, rfl, rfl⟩ := trodAll_nil r1
  obtain rfl : args = #[v0, v1] := by cases args; simp_all
  obtain ⟨rfl, rfl⟩ := trodVars_none hV
  obtain ⟨a0, rfl, rfl, rfl, w0⟩ := open_int Try.underlying3 (hval 0 3 v0 rfl rfl) h0
  obtain ⟨a1, rfl, rfl, rfl⟩ := open_bool Try.underlying4 (hval 1 4 v1 rfl rfl) h1
  clear hA0 hval0
  refine (taskFull_walk a0 a1 W w0).mono fun e W' ⟨he, bel⟩ => ?_
  subst he
  exact ⟨_, rfl, _, _, _, [], _, [], hW', trodAll_mk1 (shut_bool Try.underlying4 _), (trodAll_cons_mk (shut_int Try.underlying3 w0) (trodAll_cons_mk (shut_bool Try.underlying4 _) trodAll_mk0)), rfl, bel.frame _, fun h => by cases h⟩
theorem over : Rows.taskFullRow.holds Try.pinned (OpenSpec.ofChange Rows.taskFullSpec) :=
  OpenClaim.holds_of_wide 4 Try.f4 rfl rfl rfl rfl rfl rfl rfl ⟨rfl, rfl, rfl, rfl, rfl⟩ rfl rfl rfl rfl rfl (by kernel_rfl) Try.func4 (by kernel_rfl)
    (of_decide_eq_true (by kernel_rfl)) (by unfold Func.isWrapper; first | (rw [if_pos (by decide +kernel)]; kernel_rfl) | (rw [if_neg (by decide +kernel)]; exact ⟨rfl, rfl⟩))
    (fun os started H enc _ => lifted os started H enc)
end taskFull
/-- THE STATEMENT. -/
theorem taskFull_holds : Rows.TaskFullSaid := taskFull.over
#print axioms taskFull_holds
end Go.Proofs.Yteabiaoklpfbdaa
