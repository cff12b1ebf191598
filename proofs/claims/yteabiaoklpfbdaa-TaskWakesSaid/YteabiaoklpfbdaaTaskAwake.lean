/- The closed part of task's statements: awake answers true, in whatever memory. -/
import Derived.Test.YteabiaoklpfbdaaTaskPut
import Derived.Test.YteabiaoklpfbdaaAlike
set_option linter.unusedVariables false
set_option linter.unusedSimpArgs false
namespace Go.Proofs.Yteabiaoklpfbdaa
open Go.RowKit
set_option maxRecDepth 100000
abbrev rg1 : Nat → Int := fun j => [1].getD j 0
abbrev rg0 : Nat → Int := fun _ => 0
def aT1 : Nat → Int := newT 2 rg1
def aB1 : Nat → Int := newT 0 rg0
def aT2 : Nat → Int := parkT aT1 11 0 1 2
def aT2' : Nat → Int := updT (updT (updT aT2 5 9) 6 0) 6 1
def aT3 : Nat → Int := wakeT aT2'
def aB2 : Nat → Int := endT aB1 3
theorem tell2 : ToldP aT2 false 0 0 9 true aT2' := fun W tb hb => told_recv W tb aT2 false hb rfl rfl rfl 0 0 9 false
set_option maxHeartbeats 4000000 in
theorem awake17 (w : World) : Calls Try.prog 8 #[] w fun e w' => e = .returned (.bool true) ∧ Fr Nob w w' := by
  go_enter Try.func8, Try.ntmps8
  go_wp2_with fail
  refine (task_new w).mono ?_
  rintro e w1 ⟨b, S0, rfl, hf1, ht1, hs1⟩
  have F1 := Lib.hid (hf1.none (S := From w.heap.size))
  have HT1 := Lib.hid ht1; have HS1 := Lib.hid hs1
  clear hf1 ht1 hs1
  go_wp2_with fail
  refine (task_start HT1.out 2 (by omega) rg1 0 rfl (by omega) (by simp) (by simp)).mono ?_
  rintro e w2 ⟨S2, rfl, hf2, ht2, hs2⟩
  have F2 := Lib.hid (F1.out.trans0 (hf2.mono fun k _ q => HS1.out k q))
  have HT2 : Hid (TableAt w2 S2 b [(aT1, false)] [0]) := Lib.hid ht2
  have HS2 : Hid (∀ k, S2 k → w.heap.size ≤ k) := Lib.hid fun k q => by have := F1.out.size; rcases hs2 k q with q | q; exact HS1.out k q; omega
  clear hf2 ht2 hs2 HT1
  go_wp2_with fail
  refine (task_start HT2.out 0 (by omega) rg0 1 rfl (by omega) (by simp) (by simp)).mono ?_
  rintro e w3 ⟨S3, rfl, hf3, ht3, hs3⟩
  have F3 := Lib.hid (F2.out.trans0 (hf3.mono fun k _ q => HS2.out k q))
  have HT3 : Hid (TableAt w3 S3 b [(aT1, false), (aB1, false)] [0, 1]) := Lib.hid ht3
  have HS3 : Hid (∀ k, S3 k → w.heap.size ≤ k) := Lib.hid fun k q => by have := F2.out.size; rcases hs3 k q with q | q; exact HS2.out k q; omega
  clear hf3 ht3 hs3 HT2
  go_wp2_with fail
  obtain ⟨w4, hw4⟩ : ∃ w4, w4 = w3.alloc (.cells #[.int .i64 11, .int .i64 0, .int .i64 1, .int .i64 2, .slice none 0 0, .bool false] 34) := ⟨_, rfl⟩
  rw [← hw4]
  obtain ⟨pb, hpb⟩ : ∃ pb, pb = w3.heap.size := ⟨_, rfl⟩
  rw [← hpb]
  have F4 := Lib.hid (show Fr (From w.heap.size) w w4 by rw [hw4]; exact F3.out.alloc _)
  have HT4 : Hid (TableAt w4 S3 b [(aT1, false), (aB1, false)] [0, 1]) := Lib.hid (by obtain ⟨ab, lb, SA, SL, h⟩ := HT3.out; rw [hw4]; exact ⟨ab, lb, SA, SL, h.fr0 ((Fr.refl Nob w3).alloc _)⟩)
  have Hp4 : Hid (w4.heap[pb]? = some (.cells #[.int .i64 11, .int .i64 0, .int .i64 1, .int .i64 2, .slice none 0 0, .bool false] 34 (0, 0))) := Lib.hid (by rw [hw4, hpb]; exact heap_alloc_new _ _)
  have Hnp : Hid (¬ S3 pb) := Lib.hid fun q => by obtain ⟨ab, lb, SA, SL, h⟩ := HT3.out; have := h.lt _ q; omega
  have hS3 := HS3.out
  clear hw4 hpb HT3
  refine (park_ok HT4.out 0 aT1 false rfl 11 0 1 2 false rfl (.inr (.inl rfl)) rfl).mono ?_
  rintro e w5 ⟨rfl, hf5, ht5⟩
  have F5 := Lib.hid (F4.out.trans0 (hf5.mono fun k _ q => hS3 k q))
  have HT5 : Hid (TableAt w5 S3 b [(aT2, false), (aB1, false)] [1]) := Lib.hid ht5
  have hp5 := hf5.blk Hnp.out Hp4.out
  have p0 := blk_cell hp5 0 rfl; have p1 := blk_cell hp5 1 rfl; have p2 := blk_cell hp5 2 rfl; have p3 := blk_cell hp5 3 rfl; have p4 := blk_cell hp5 4 rfl; have p5 := blk_cell hp5 5 rfl
  clear hf5 ht5 hp5 HT4
  go_wp2_with fail
  refine (park_done HT5.out 0 aT2 false rfl 11 0 1 2 false rfl).mono ?_
  rintro e w6 ⟨rfl, hf6⟩
  have F6 := Lib.hid (F5.out.trans0 hf6.none)
  have HT6 : Hid (TableAt w6 S3 b [(aT2, false), (aB1, false)] [1]) := Lib.hid (by obtain ⟨ab, lb, SA, SL, h⟩ := HT5.out; exact ⟨ab, lb, SA, SL, h.fr0 hf6⟩)
  clear hf6 HT5 p0 p1 p2 p3 p4 p5
  go_wp2_with fail
  refine (wake_ok HT6.out 0 aT2 false rfl 0 9 true rfl aT2' tell2 rfl (by simp) (by simp)).mono ?_
  rintro e w7 ⟨S7, rfl, hf7, ht7, hs7⟩
  have F7 := Lib.hid (F6.out.trans0 (hf7.mono fun k _ q => hS3 k q))
  have HT7 : Hid (TableAt w7 S7 b [(aT3, false), (aB1, false)] [1, 0]) := Lib.hid ht7
  have HS7 : Hid (∀ k, S7 k → w.heap.size ≤ k) := Lib.hid fun k q => by have := F6.out.size; rcases hs7 k q with q | q; exact hS3 k q; omega
  clear hf7 ht7 hs7 HT6 hS3
  go_wp2_with fail
  refine (task_get HT7.out 0 aT3 false rfl).mono ?_
  rintro e w8 ⟨rfl, hf8⟩
  have F8 := Lib.hid (F7.out.trans0 hf8.none)
  have HT8 : Hid (TableAt w8 S7 b [(aT3, false), (aB1, false)] [1, 0]) := Lib.hid (by obtain ⟨ab, lb, SA, SL, h⟩ := HT7.out; exact ⟨ab, lb, SA, SL, h.fr0 hf8⟩)
  clear hf8 HT7
  have hzn : (w8.alloc (.cells tkZ.toArray 44)).heap[w8.heap.size]? = some (.cells tkZ.toArray 44 (0, 0)) := heap_alloc_new _ _
  unfold tkZ at hzn
  dsimp only [tkL] at hzn
  go_wp2_with (refine wpList_store_row _ rfl 44 (.tmp 10) (.tmp 54) rfl w8.heap.size (tkD aT3 false).toArray _ 44 rfl rfl hzn rfl (info18 aT3 false) (tkD_all aT3 false) ?_; intro w9 hb9 hf9; have Hb9 := Lib.hid hb9; have Hf9 := Lib.hid hf9; clear hb9 hf9)
  clear hzn
  obtain ⟨xb, hxb⟩ : ∃ xb, xb = w8.heap.size := ⟨_, rfl⟩
  rw [← hxb] at Hb9 Hf9 ⊢
  have hf89 : Fr Nob w8 w9 := ((Fr.refl Nob w8).alloc _).trans Hf9.out fun k hk e => by omega
  have F9 := Lib.hid (F8.out.trans0 hf89.none)
  have HT9 : Hid (TableAt w9 S7 b [(aT3, false), (aB1, false)] [1, 0]) := Lib.hid (by obtain ⟨ab, lb, SA, SL, h⟩ := HT8.out; exact ⟨ab, lb, SA, SL, h.fr0 hf89⟩)
  have Hnx : Hid (¬ S7 xb) := Lib.hid fun q => by obtain ⟨ab, lb, SA, SL, h⟩ := HT8.out; have := h.lt _ q; omega
  clear hf89 HT8 hxb
  refine (park_bad HT9.out 1 aB1 false rfl 6 0 0 0 false rfl rfl rfl rfl).mono ?_
  rintro e w10 ⟨rfl, hf10⟩
  have F10 := Lib.hid (F9.out.trans0 hf10.none)
  have HT10 : Hid (TableAt w10 S7 b [(aT3, false), (aB1, false)] [1, 0]) := Lib.hid (by obtain ⟨ab, lb, SA, SL, h⟩ := HT9.out; exact ⟨ab, lb, SA, SL, h.fr0 hf10⟩)
  have Hb10 := Lib.hid (hf10.blk id Hb9.out)
  clear hf10 HT9
  go_wp2_with fail
  refine (task_pick HT10.out 1 2 rfl (by omega)).mono ?_
  rintro e w11 ⟨rfl, hf11⟩
  have F11 := Lib.hid (F10.out.trans0 hf11.none)
  have HT11 : Hid (TableAt w11 S7 b [(aT3, false), (aB1, false)] [1, 0]) := Lib.hid (by obtain ⟨ab, lb, SA, SL, h⟩ := HT10.out; exact ⟨ab, lb, SA, SL, h.fr0 hf11⟩)
  have Hb11 := Lib.hid (hf11.blk id Hb10.out)
  clear hf11 HT10
  go_wp2_with fail
  refine (end_ok HT11.out 1 aB1 false rfl rfl 3).mono ?_
  rintro e w12 ⟨rfl, hf12, ht12⟩
  have F12 := Lib.hid (F11.out.trans0 (hf12.mono fun k _ q => HS7.out k q))
  have HT12 : Hid (TableAt w12 S7 b [(aT3, false), (aB2, false)] [0]) := Lib.hid ht12
  have Hb12 := Lib.hid (hf12.blk Hnx.out Hb11.out)
  clear hf12 ht12 HT11
  go_wp2_with fail
  refine (end_done HT12.out 1 aB2 false rfl rfl 0).mono ?_
  rintro e w13 ⟨rfl, hf13⟩
  have F13 := Lib.hid (F12.out.trans0 hf13.none)
  have HT13 : Hid (TableAt w13 S7 b [(aT3, false), (aB2, false)] [0]) := Lib.hid (by obtain ⟨ab, lb, SA, SL, h⟩ := HT12.out; exact ⟨ab, lb, SA, SL, h.fr0 hf13⟩)
  have Hb13 := Lib.hid (hf13.blk id Hb12.out)
  clear hf13 HT12
  go_wp2_with fail
  refine (task_get HT13.out 1 aB2 false rfl).mono ?_
  rintro e w14 ⟨rfl, hf14⟩
  have F14 := Lib.hid (F13.out.trans0 hf14.none)
  have HT14 : Hid (TableAt w14 S7 b [(aT3, false), (aB2, false)] [0]) := Lib.hid (by obtain ⟨ab, lb, SA, SL, h⟩ := HT13.out; exact ⟨ab, lb, SA, SL, h.fr0 hf14⟩)
  have Hb14 := Lib.hid (hf14.blk id Hb13.out)
  clear hf14 HT13
  have hzn : (w14.alloc (.cells tkZ.toArray 44)).heap[w14.heap.size]? = some (.cells tkZ.toArray 44 (0, 0)) := heap_alloc_new _ _
  unfold tkZ at hzn
  dsimp only [tkL] at hzn
  go_wp2_with (refine wpList_store_row _ rfl 44 (.tmp 17) (.tmp 75) rfl w14.heap.size (tkD aB2 false).toArray _ 44 rfl rfl hzn rfl (info18 aB2 false) (tkD_all aB2 false) ?_; intro w15 hb15 hf15; have Hb15 := Lib.hid hb15; have Hf15 := Lib.hid hf15; clear hb15 hf15)
  clear hzn
  obtain ⟨yb, hyb⟩ : ∃ yb, yb = w14.heap.size := ⟨_, rfl⟩
  rw [← hyb] at Hb15 Hf15 ⊢
  have hf145 : Fr Nob w14 w15 := ((Fr.refl Nob w14).alloc _).trans Hf15.out fun k hk e => by omega
  have F15 := Lib.hid (F14.out.trans0 hf145.none)
  have HT15 : Hid (TableAt w15 S7 b [(aT3, false), (aB2, false)] [0]) := Lib.hid (by obtain ⟨ab, lb, SA, SL, h⟩ := HT14.out; exact ⟨ab, lb, SA, SL, h.fr0 hf145⟩)
  have HX15 := Lib.hid (hf145.blk id Hb14.out)
  clear hf145 HT14 hyb
  refine (start_nil w15 0 rg0).mono ?_
  rintro e w16 ⟨rfl, hf16⟩
  have F16 := Lib.hid (F15.out.trans0 hf16.none)
  have HT16 : Hid (TableAt w16 S7 b [(aT3, false), (aB2, false)] [0]) := Lib.hid (by obtain ⟨ab, lb, SA, SL, h⟩ := HT15.out; exact ⟨ab, lb, SA, SL, h.fr0 hf16⟩)
  have hx := hf16.blk id HX15.out
  have hy := hf16.blk id Hb15.out
  clear hf16 HT15
  have x0 : w16.cell? ⟨xb, 0, none⟩ = some (.int .i64 2) := blk_cell hx 0 rfl
  have x1 : w16.cell? ⟨xb, 1, none⟩ = some (.int .i64 1) := blk_cell hx 1 rfl
  have x2 : w16.cell? ⟨xb, 2, none⟩ = some (.int .i64 0) := blk_cell hx 2 rfl
  have x4 : w16.cell? ⟨xb, 4, none⟩ = some (.int .i64 1) := blk_cell hx 4 rfl
  have x5 : w16.cell? ⟨xb, 5, none⟩ = some (.int .i64 9) := blk_cell hx 5 rfl
  have x6 : w16.cell? ⟨xb, 6, none⟩ = some (.int .i64 1) := blk_cell hx 6 rfl
  have x7 : w16.cell? ⟨xb, 7, none⟩ = some (.int .i64 0) := blk_cell hx 7 rfl
  have x8 : w16.cell? ⟨xb, 8, none⟩ = some (.int .i64 0) := blk_cell hx 8 rfl
  have x9 : w16.cell? ⟨xb, 9, none⟩ = some (.int .i64 0) := blk_cell hx 9 rfl
  have x10 : w16.cell? ⟨xb, 10, none⟩ = some (.int .i64 0) := blk_cell hx 10 rfl
  have x11 : w16.cell? ⟨xb, 11, none⟩ = some (.int .i64 0) := blk_cell hx 11 rfl
  have y2 : w16.cell? ⟨yb, 2, none⟩ = some (.int .i64 2) := blk_cell hy 2 rfl
  have y3 : w16.cell? ⟨yb, 3, none⟩ = some (.int .i64 3) := blk_cell hy 3 rfl
  clear hx hy
  have heq : ∀ W : World, (Op.equalIn 10000 30 (.agg #[.int .i64 1, .int .i64 9, .int .i64 1, .int .i64 0, .int .i64 0, .int .i64 0, .int .i64 0, .int .i64 0]) (.agg #[.int .i64 1, .int .i64 9, .int .i64 1, .int .i64 0, .int .i64 0, .int .i64 0, .int .i64 0, .int .i64 0])).run Try.prog W = .ok true W := fun W => run_equalIn_arr (P := Try.prog) W 9998 30 3 8 [1, 9, 1, 0, 0, 0, 0, 0] Try.underlying30 Try.underlying3 (by kernel_rfl) rfl
  go_wp2_with fail
  refine (task_ready HT16.out 1 rfl).mono ?_
  rintro e w17 ⟨A, cp, rfl, hf17, hs17⟩
  have F17 := Lib.hid (F16.out.trans0 hf17.none)
  have HT17 : Hid (TableAt w17 S7 b [(aT3, false), (aB2, false)] [0]) := Lib.hid (by obtain ⟨ab, lb, SA, SL, h⟩ := HT16.out; exact ⟨ab, lb, SA, SL, h.fr0 hf17⟩)
  have Hs17 := Lib.hid hs17
  clear hf17 hs17 HT16 x0 x1 x2 x4 x5 x6 x7 x8 x9 x10 x11 heq
  have y2 := y2; have y3 := y3
  clear y2 y3
  go_wp2_with fail
  have hs8 : Sl (w17.alloc (.cells #[.int .i64 0] 3)) (From w16.heap.size) 3 1 (.slice A 1 cp) 1 (ints [0]) := Hs17.out.alloc _
  have hl8 : Sl (w17.alloc (.cells #[.int .i64 0] 3)) (From 0) 3 1 (.slice (some ⟨w17.heap.size, 0, none⟩) 1 1) 1 (ints [0]) :=
    Sl.lit w17 3 1 #[.int .i64 0] 1 (From 0) (by simp [From]) (by simp [maxLen]) rfl
  refine (alike_ints _ _ _ [0] hs8.rd hl8.rd).mono ?_
  rintro e w18 ⟨rfl, hq⟩
  have hf18 := ((Fr.refl Nob w17).alloc (.cells #[.int .i64 0] 3)).trans0 (Fr.ofDrew hq)
  have F18 := Lib.hid (F17.out.trans0 hf18.none)
  have HT18 : Hid (TableAt w18 S7 b [(aT3, false), (aB2, false)] [0]) := Lib.hid (by obtain ⟨ab, lb, SA, SL, h⟩ := HT17.out; exact ⟨ab, lb, SA, SL, h.fr0 hf18⟩)
  clear hf18 hq HT17 hs8 hl8
  go_wp2_with fail
  refine (task_len HT18.out 2 rfl).mono ?_
  rintro e _ ⟨rfl, rfl⟩
  go_wp2_with fail
  go_ret
  exact ⟨rfl, F18.out.mono fun k hk q => by unfold From at q; omega⟩
end Go.Proofs.Yteabiaoklpfbdaa
