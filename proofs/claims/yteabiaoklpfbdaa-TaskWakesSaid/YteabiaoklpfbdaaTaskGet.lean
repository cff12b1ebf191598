/- What Get of a table does, and is. -/
import Derived.Test.YteabiaoklpfbdaaTaskStart
set_option linter.unusedVariables false
set_option linter.unusedSimpArgs false
namespace Go.Proofs.Yteabiaoklpfbdaa
open Go.RowKit
set_option maxRecDepth 100000
theorem clone_nil (w : World) : Calls Try.prog 29 #[.slice none 0 0] w fun e w' => e = .returned (.slice none 0 0) ∧ w = w' := by
  have hk := fun w : World => Lib.run_eql_slice_nil (P := Try.prog) w 32 53 none 0 0 0 0 Try.underlying32
  go_enter Try.func29, Try.ntmps29
  go_wp2_with fail
  go_ret
  exact ⟨rfl, rfl⟩
theorem tkD_set16 (t : Nat → Int) (d : Bool) : (tkD t d).toArray.setIfInBounds 16 (.slice none 0 0) = (tkD t d).toArray := rfl
theorem tkD_size (t : Nat → Int) (d : Bool) : (tkD t d).toArray.size = 18 := rfl
theorem tkZ_size : tkZ.toArray.size = 18 := rfl
theorem info18 (t : Nat → Int) (d : Bool) : (Try.prog.info? 44).map (fun i => i.size) = some (tkD t d).toArray.size := by rw [tkD_size]; exact info_task18
set_option maxHeartbeats 2000000 in
theorem task_get {w : World} {S : Nat → Prop} {b : Nat} {ts : List Tk} {line : List Int} (h : TableAt w S b ts line) (i : Nat) (t : Nat → Int) (d : Bool) (hi : ts[i]? = some (t, d)) :
    Calls Try.prog 18 #[.pointer (some ⟨b, 0, none⟩), .int .i64 (i : Int)] w fun e w' => e = .returned (.tuple #[.agg (tkD t d).toArray, .bool true]) ∧ Fr Nob w w' := by
  obtain ⟨ab, lb, SA, SL, h⟩ := h
  have hg := fun W (hW : Fr Nob w W) => arena_get W SA ab 64 ts.length (rowsT ts) i t d (h.fr0 hW).arena (List.getElem?_eq_some_iff.1 hi).1 (fun j hj => rowsT_get ts i (t, d) hi j hj)
  have hb := h.blk
  have Hg := Lib.hid hg; have Hb := Lib.hid hb; have Hcl := Lib.hid (fun W => clone_nil W)
  clear hg h hb hi
  go_enter Try.func18, Try.ntmps18
  have c00 := ((Fr.refl Nob w).alloc (.cells tkZ.toArray 44)).cell id (blk_cell Hb.out 0 rfl)
  unfold tkZ at c00
  dsimp only [tkL] at c00
  go_wp2_with fail
  obtain ⟨w1, hw1⟩ : ∃ w1, w1 = w.alloc (.cells tkZ.toArray 44) := ⟨_, rfl⟩
  have hw1' := hw1
  unfold tkZ at hw1'
  dsimp only [tkL] at hw1'
  rw [← hw1']
  clear hw1' c00
  obtain ⟨rb, hrb⟩ : ∃ rb, rb = w.heap.size := ⟨_, rfl⟩
  rw [← hrb]
  have hf1 : Fr Nob w w1 := by rw [hw1]; exact (Fr.refl Nob w).alloc _
  have hb1 : w1.heap[rb]? = some (.cells tkZ.toArray 44 (0, 0)) := by rw [hw1, hrb]; exact heap_alloc_new _ _
  have Hz1 : Hid (w.heap.size = rb ∧ rb < w1.heap.size) := ⟨hrb.symm, lt_of_block hb1⟩
  have Hf1 := Lib.hid hf1; have Hb1 := Lib.hid hb1
  clear hw1 hrb hf1 hb1
  refine (Hg.out w1 Hf1.out).mono ?_
  rintro e w2 ⟨rfl, hf2⟩
  have Hb2 := Lib.hid (hf2.blk id Hb1.out); have Hf2 := Lib.hid (Hf1.out.trans0 hf2); have Hz2 := Lib.hid hf2.size
  clear hf2
  have hzn : (w2.alloc (.cells tkZ.toArray 44)).heap[w2.heap.size]? = some (.cells tkZ.toArray 44 (0, 0)) := heap_alloc_new _ _
  unfold tkZ at hzn
  dsimp only [tkL] at hzn
  go_wp2_with (refine wpList_store_row _ rfl 44 (.tmp 6) (.tmp 18) rfl w2.heap.size (tkD t d).toArray _ 44 rfl rfl hzn rfl (info18 t d) (tkD_all t d) ?_; intro w3 hb3 hf3; have c16 : w3.cell? ⟨w2.heap.size, 16, none⟩ = some (.slice none 0 0) := blk_cell hb3 16 rfl; have f16 := blk_froz hb3 16; have Hb3 := Lib.hid hb3; have Hf3 := Lib.hid hf3; clear hb3 hf3)
  obtain ⟨tb, htb⟩ : ∃ tb, tb = w2.heap.size := ⟨_, rfl⟩
  rw [← htb] at Hb3 Hf3 c16 f16 ⊢
  have Htb : Hid (w2.heap.size = tb) := htb.symm
  refine (Hcl.out w3).mono ?_
  rintro e _ ⟨rfl, rfl⟩
  have hf23 : Fr Nob w2 w3 := ((Fr.refl Nob w2).alloc _).trans Hf3.out fun k hk e => by have := Htb.out; omega
  have hrt : rb ≠ tb := by have := Htb.out; have := Hz1.out; have := Hz2.out; omega
  have hb4 : (w3.setCell ⟨tb, 16, none⟩ (.slice none 0 0)).heap[tb]? = some (.cells (tkD t d).toArray 44 (0, 0)) := blk_set Hb3.out 16 _
  have hr4 : (w3.setCell ⟨tb, 16, none⟩ (.slice none 0 0)).heap[rb]? = some (.cells tkZ.toArray 44 (0, 0)) := (blk_set_ne 16 _ hrt).trans (hf23.blk id Hb2.out)
  have Hb4 := Lib.hid hb4; have Hr4 := Lib.hid hr4; have Hf23 := Lib.hid hf23; have Hrt := Lib.hid hrt
  clear hb4 hr4 hf23 hrt htb
  go_wp2_with (first | (refine wpList_load_row rfl 44 (.tmp 6) rfl tb rfl 44 (tkD t d).toArray (0, 0) _ Hb4.out Try.underlying44 rfl (info18 t d) ?_) | (refine wpList_store_row _ rfl 44 (.tmp 4) (.tmp 26) rfl rb (tkD t d).toArray _ 44 rfl rfl Hr4.out rfl (info18 t d) (tkD_all t d) ?_; intro w5 hb5 hf5; have Hb5 := Lib.hid hb5; have Hf5 := Lib.hid hf5; clear hb5 hf5))
  refine bodyPost_ret (res_row2 Try.results18 _ _ rb 44 (tkD t d).toArray (0, 0) _ (.bool true) rfl rfl Hb5.out Try.underlying44 rfl (info18 t d)) rfl ⟨rfl, ?_⟩
  have e1 : Fr Nob w2 (w3.setCell ⟨tb, 16, none⟩ (.slice none 0 0)) := Hf23.out.trans (((Fr.refl (fun k => k = tb) w3)).setT 16 _) fun k hk e => by have := Htb.out; omega
  exact (Hf2.out.trans0 e1).trans Hf5.out fun k hk e => by have := Hz1.out; omega
set_option maxHeartbeats 2000000 in
theorem is_runs {w : World} {S : Nat → Prop} {b : Nat} {ts : List Tk} {line : List Int} (h : TableAt w S b ts line) (i : Nat) (t : Nat → Int) (d : Bool) (hi : ts[i]? = some (t, d)) (p : Bool) (hF : ∀ W, Calls Try.prog 27 #[.int .i64 (t 2)] W fun e w' => e = .returned (.bool p) ∧ W = w') (er : Int) (her : er = if p then 0 else 8) :
    Calls Try.prog 26 #[.pointer (some ⟨b, 0, none⟩), .int .i64 (i : Int), .func (.func 27) #[] #[]] w fun e w' => e = .returned (.tuple #[.agg (tkD t d).toArray, .int .i64 er]) ∧ Fr Nob w w' := by
  have hg := fun W (hW : Fr Nob w W) => task_get (w := W) (S := S) (b := b) (ts := ts) (line := line) (by obtain ⟨ab, lb, SA, SL, h⟩ := h; exact ⟨ab, lb, SA, SL, h.fr0 hW⟩) i t d hi
  have Hg := Lib.hid hg; have HF := Lib.hid hF
  clear hg h hi hF
  go_enter Try.func26, Try.ntmps26
  go_wp2_with fail
  obtain ⟨w1, hw1⟩ : ∃ w1, w1 = w.alloc (.cells tkZ.toArray 44) := ⟨_, rfl⟩
  have hw1' := hw1
  unfold tkZ at hw1'
  dsimp only [tkL] at hw1'
  rw [← hw1']
  clear hw1'
  obtain ⟨rb, hrb⟩ : ∃ rb, rb = w.heap.size := ⟨_, rfl⟩
  rw [← hrb]
  have hf1 : Fr Nob w w1 := by rw [hw1]; exact (Fr.refl Nob w).alloc _
  have hb1 : w1.heap[rb]? = some (.cells tkZ.toArray 44 (0, 0)) := by rw [hw1, hrb]; exact heap_alloc_new _ _
  have Hz1 : Hid (w.heap.size = rb ∧ rb < w1.heap.size) := ⟨hrb.symm, lt_of_block hb1⟩
  have Hf1 := Lib.hid hf1; have Hb1 := Lib.hid hb1
  clear hw1 hrb hf1 hb1
  refine (Hg.out w1 Hf1.out).mono ?_
  rintro e w2 ⟨rfl, hf2⟩
  have Hb2 := Lib.hid (hf2.blk id Hb1.out); have Hf2 := Lib.hid (Hf1.out.trans0 hf2); have Hz2 := Lib.hid hf2.size
  clear hf2
  have hzn : (w2.alloc (.cells tkZ.toArray 44)).heap[w2.heap.size]? = some (.cells tkZ.toArray 44 (0, 0)) := heap_alloc_new _ _
  unfold tkZ at hzn
  dsimp only [tkL] at hzn
  go_wp2_with (refine wpList_store_row _ rfl 44 (.tmp 8) (.tmp 14) rfl w2.heap.size (tkD t d).toArray _ 44 rfl rfl hzn rfl (info18 t d) (tkD_all t d) ?_; intro w3 hb3 hf3; have c2 : w3.cell? ⟨w2.heap.size, 2, none⟩ = some (.int .i64 (t 2)) := blk_cell hb3 2 rfl; have Hb3 := Lib.hid hb3; have Hf3 := Lib.hid hf3; clear hb3 hf3)
  clear hzn
  obtain ⟨tb, htb⟩ : ∃ tb, tb = w2.heap.size := ⟨_, rfl⟩
  rw [← htb] at Hb3 Hf3 c2 ⊢
  have Htb : Hid (w2.heap.size = tb) := htb.symm
  have hf23 : Fr Nob w2 w3 := ((Fr.refl Nob w2).alloc _).trans Hf3.out fun k hk e => by have := Htb.out; omega
  have Hr3 := Lib.hid (hf23.blk id Hb2.out)
  have Hf23 := Lib.hid hf23
  clear hf23 htb
  refine (HF.out w3).mono ?_
  rintro e _ ⟨rfl, rfl⟩
  clear c2
  cases p with
  | true =>
    obtain rfl : er = 0 := by rw [her]; rfl
    clear her
    go_wp2_with (first | (refine wpList_load_row rfl 44 (.tmp 8) rfl tb rfl 44 (tkD t d).toArray (0, 0) _ Hb3.out Try.underlying44 rfl (info18 t d) ?_) | (refine wpList_store_row _ rfl 44 (.tmp 6) (.tmp 27) rfl rb (tkD t d).toArray _ 44 rfl rfl Hr3.out rfl (info18 t d) (tkD_all t d) ?_; intro w5 hb5 hf5; have Hb5 := Lib.hid hb5; have Hf5 := Lib.hid hf5; clear hb5 hf5))
    refine bodyPost_ret (res_row2 Try.results26 _ _ rb 44 (tkD t d).toArray (0, 0) _ (.int .i64 0) rfl rfl Hb5.out Try.underlying44 rfl (info18 t d)) rfl ⟨rfl, ?_⟩
    exact (Hf2.out.trans0 Hf23.out).trans Hf5.out fun k hk e => by have := Hz1.out; omega
  | false =>
    obtain rfl : er = 8 := by rw [her]; rfl
    clear her
    go_wp2_with (first | (refine wpList_load_row rfl 44 (.tmp 8) rfl tb rfl 44 (tkD t d).toArray (0, 0) _ Hb3.out Try.underlying44 rfl (info18 t d) ?_) | (refine wpList_store_row _ rfl 44 (.tmp 6) (.tmp 26) rfl rb (tkD t d).toArray _ 44 rfl rfl Hr3.out rfl (info18 t d) (tkD_all t d) ?_; intro w5 hb5 hf5; have Hb5 := Lib.hid hb5; have Hf5 := Lib.hid hf5; clear hb5 hf5))
    refine bodyPost_ret (res_row2 Try.results26 _ _ rb 44 (tkD t d).toArray (0, 0) _ (.int .i64 8) rfl rfl Hb5.out Try.underlying44 rfl (info18 t d)) rfl ⟨rfl, ?_⟩
    exact (Hf2.out.trans0 Hf23.out).trans Hf5.out fun k hk e => by have := Hz1.out; omega
set_option maxHeartbeats 2000000 in
theorem is_wakes {w : World} {S : Nat → Prop} {b : Nat} {ts : List Tk} {line : List Int} (h : TableAt w S b ts line) (i : Nat) (t : Nat → Int) (d : Bool) (hi : ts[i]? = some (t, d)) (p : Bool) (hF : ∀ W, Calls Try.prog 32 #[.int .i64 (t 2)] W fun e w' => e = .returned (.bool p) ∧ W = w') (er : Int) (her : er = if p then 0 else 8) :
    Calls Try.prog 26 #[.pointer (some ⟨b, 0, none⟩), .int .i64 (i : Int), .func (.func 32) #[] #[]] w fun e w' => e = .returned (.tuple #[.agg (tkD t d).toArray, .int .i64 er]) ∧ Fr Nob w w' := by
  have hg := fun W (hW : Fr Nob w W) => task_get (w := W) (S := S) (b := b) (ts := ts) (line := line) (by obtain ⟨ab, lb, SA, SL, h⟩ := h; exact ⟨ab, lb, SA, SL, h.fr0 hW⟩) i t d hi
  have Hg := Lib.hid hg; have HF := Lib.hid hF
  clear hg h hi hF
  go_enter Try.func26, Try.ntmps26
  go_wp2_with fail
  obtain ⟨w1, hw1⟩ : ∃ w1, w1 = w.alloc (.cells tkZ.toArray 44) := ⟨_, rfl⟩
  have hw1' := hw1
  unfold tkZ at hw1'
  dsimp only [tkL] at hw1'
  rw [← hw1']
  clear hw1'
  obtain ⟨rb, hrb⟩ : ∃ rb, rb = w.heap.size := ⟨_, rfl⟩
  rw [← hrb]
  have hf1 : Fr Nob w w1 := by rw [hw1]; exact (Fr.refl Nob w).alloc _
  have hb1 : w1.heap[rb]? = some (.cells tkZ.toArray 44 (0, 0)) := by rw [hw1, hrb]; exact heap_alloc_new _ _
  have Hz1 : Hid (w.heap.size = rb ∧ rb < w1.heap.size) := ⟨hrb.symm, lt_of_block hb1⟩
  have Hf1 := Lib.hid hf1; have Hb1 := Lib.hid hb1
  clear hw1 hrb hf1 hb1
  refine (Hg.out w1 Hf1.out).mono ?_
  rintro e w2 ⟨rfl, hf2⟩
  have Hb2 := Lib.hid (hf2.blk id Hb1.out); have Hf2 := Lib.hid (Hf1.out.trans0 hf2); have Hz2 := Lib.hid hf2.size
  clear hf2
  have hzn : (w2.alloc (.cells tkZ.toArray 44)).heap[w2.heap.size]? = some (.cells tkZ.toArray 44 (0, 0)) := heap_alloc_new _ _
  unfold tkZ at hzn
  dsimp only [tkL] at hzn
  go_wp2_with (refine wpList_store_row _ rfl 44 (.tmp 8) (.tmp 14) rfl w2.heap.size (tkD t d).toArray _ 44 rfl rfl hzn rfl (info18 t d) (tkD_all t d) ?_; intro w3 hb3 hf3; have c2 : w3.cell? ⟨w2.heap.size, 2, none⟩ = some (.int .i64 (t 2)) := blk_cell hb3 2 rfl; have Hb3 := Lib.hid hb3; have Hf3 := Lib.hid hf3; clear hb3 hf3)
  clear hzn
  obtain ⟨tb, htb⟩ : ∃ tb, tb = w2.heap.size := ⟨_, rfl⟩
  rw [← htb] at Hb3 Hf3 c2 ⊢
  have Htb : Hid (w2.heap.size = tb) := htb.symm
  have hf23 : Fr Nob w2 w3 := ((Fr.refl Nob w2).alloc _).trans Hf3.out fun k hk e => by have := Htb.out; omega
  have Hr3 := Lib.hid (hf23.blk id Hb2.out)
  have Hf23 := Lib.hid hf23
  clear hf23 htb
  refine (HF.out w3).mono ?_
  rintro e _ ⟨rfl, rfl⟩
  clear c2
  cases p with
  | true =>
    obtain rfl : er = 0 := by rw [her]; rfl
    clear her
    go_wp2_with (first | (refine wpList_load_row rfl 44 (.tmp 8) rfl tb rfl 44 (tkD t d).toArray (0, 0) _ Hb3.out Try.underlying44 rfl (info18 t d) ?_) | (refine wpList_store_row _ rfl 44 (.tmp 6) (.tmp 27) rfl rb (tkD t d).toArray _ 44 rfl rfl Hr3.out rfl (info18 t d) (tkD_all t d) ?_; intro w5 hb5 hf5; have Hb5 := Lib.hid hb5; have Hf5 := Lib.hid hf5; clear hb5 hf5))
    refine bodyPost_ret (res_row2 Try.results26 _ _ rb 44 (tkD t d).toArray (0, 0) _ (.int .i64 0) rfl rfl Hb5.out Try.underlying44 rfl (info18 t d)) rfl ⟨rfl, ?_⟩
    exact (Hf2.out.trans0 Hf23.out).trans Hf5.out fun k hk e => by have := Hz1.out; omega
  | false =>
    obtain rfl : er = 8 := by rw [her]; rfl
    clear her
    go_wp2_with (first | (refine wpList_load_row rfl 44 (.tmp 8) rfl tb rfl 44 (tkD t d).toArray (0, 0) _ Hb3.out Try.underlying44 rfl (info18 t d) ?_) | (refine wpList_store_row _ rfl 44 (.tmp 6) (.tmp 26) rfl rb (tkD t d).toArray _ 44 rfl rfl Hr3.out rfl (info18 t d) (tkD_all t d) ?_; intro w5 hb5 hf5; have Hb5 := Lib.hid hb5; have Hf5 := Lib.hid hf5; clear hb5 hf5))
    refine bodyPost_ret (res_row2 Try.results26 _ _ rb 44 (tkD t d).toArray (0, 0) _ (.int .i64 8) rfl rfl Hb5.out Try.underlying44 rfl (info18 t d)) rfl ⟨rfl, ?_⟩
    exact (Hf2.out.trans0 Hf23.out).trans Hf5.out fun k hk e => by have := Hz1.out; omega
set_option maxHeartbeats 2000000 in
theorem is_ends {w : World} {S : Nat → Prop} {b : Nat} {ts : List Tk} {line : List Int} (h : TableAt w S b ts line) (i : Nat) (t : Nat → Int) (d : Bool) (hi : ts[i]? = some (t, d)) (p : Bool) (hF : ∀ W, Calls Try.prog 34 #[.int .i64 (t 2)] W fun e w' => e = .returned (.bool p) ∧ W = w') (er : Int) (her : er = if p then 0 else 8) :
    Calls Try.prog 26 #[.pointer (some ⟨b, 0, none⟩), .int .i64 (i : Int), .func (.func 34) #[] #[]] w fun e w' => e = .returned (.tuple #[.agg (tkD t d).toArray, .int .i64 er]) ∧ Fr Nob w w' := by
  have hg := fun W (hW : Fr Nob w W) => task_get (w := W) (S := S) (b := b) (ts := ts) (line := line) (by obtain ⟨ab, lb, SA, SL, h⟩ := h; exact ⟨ab, lb, SA, SL, h.fr0 hW⟩) i t d hi
  have Hg := Lib.hid hg; have HF := Lib.hid hF
  clear hg h hi hF
  go_enter Try.func26, Try.ntmps26
  go_wp2_with fail
  obtain ⟨w1, hw1⟩ : ∃ w1, w1 = w.alloc (.cells tkZ.toArray 44) := ⟨_, rfl⟩
  have hw1' := hw1
  unfold tkZ at hw1'
  dsimp only [tkL] at hw1'
  rw [← hw1']
  clear hw1'
  obtain ⟨rb, hrb⟩ : ∃ rb, rb = w.heap.size := ⟨_, rfl⟩
  rw [← hrb]
  have hf1 : Fr Nob w w1 := by rw [hw1]; exact (Fr.refl Nob w).alloc _
  have hb1 : w1.heap[rb]? = some (.cells tkZ.toArray 44 (0, 0)) := by rw [hw1, hrb]; exact heap_alloc_new _ _
  have Hz1 : Hid (w.heap.size = rb ∧ rb < w1.heap.size) := ⟨hrb.symm, lt_of_block hb1⟩
  have Hf1 := Lib.hid hf1; have Hb1 := Lib.hid hb1
  clear hw1 hrb hf1 hb1
  refine (Hg.out w1 Hf1.out).mono ?_
  rintro e w2 ⟨rfl, hf2⟩
  have Hb2 := Lib.hid (hf2.blk id Hb1.out); have Hf2 := Lib.hid (Hf1.out.trans0 hf2); have Hz2 := Lib.hid hf2.size
  clear hf2
  have hzn : (w2.alloc (.cells tkZ.toArray 44)).heap[w2.heap.size]? = some (.cells tkZ.toArray 44 (0, 0)) := heap_alloc_new _ _
  unfold tkZ at hzn
  dsimp only [tkL] at hzn
  go_wp2_with (refine wpList_store_row _ rfl 44 (.tmp 8) (.tmp 14) rfl w2.heap.size (tkD t d).toArray _ 44 rfl rfl hzn rfl (info18 t d) (tkD_all t d) ?_; intro w3 hb3 hf3; have c2 : w3.cell? ⟨w2.heap.size, 2, none⟩ = some (.int .i64 (t 2)) := blk_cell hb3 2 rfl; have Hb3 := Lib.hid hb3; have Hf3 := Lib.hid hf3; clear hb3 hf3)
  clear hzn
  obtain ⟨tb, htb⟩ : ∃ tb, tb = w2.heap.size := ⟨_, rfl⟩
  rw [← htb] at Hb3 Hf3 c2 ⊢
  have Htb : Hid (w2.heap.size = tb) := htb.symm
  have hf23 : Fr Nob w2 w3 := ((Fr.refl Nob w2).alloc _).trans Hf3.out fun k hk e => by have := Htb.out; omega
  have Hr3 := Lib.hid (hf23.blk id Hb2.out)
  have Hf23 := Lib.hid hf23
  clear hf23 htb
  refine (HF.out w3).mono ?_
  rintro e _ ⟨rfl, rfl⟩
  clear c2
  cases p with
  | true =>
    obtain rfl : er = 0 := by rw [her]; rfl
    clear her
    go_wp2_with (first | (refine wpList_load_row rfl 44 (.tmp 8) rfl tb rfl 44 (tkD t d).toArray (0, 0) _ Hb3.out Try.underlying44 rfl (info18 t d) ?_) | (refine wpList_store_row _ rfl 44 (.tmp 6) (.tmp 27) rfl rb (tkD t d).toArray _ 44 rfl rfl Hr3.out rfl (info18 t d) (tkD_all t d) ?_; intro w5 hb5 hf5; have Hb5 := Lib.hid hb5; have Hf5 := Lib.hid hf5; clear hb5 hf5))
    refine bodyPost_ret (res_row2 Try.results26 _ _ rb 44 (tkD t d).toArray (0, 0) _ (.int .i64 0) rfl rfl Hb5.out Try.underlying44 rfl (info18 t d)) rfl ⟨rfl, ?_⟩
    exact (Hf2.out.trans0 Hf23.out).trans Hf5.out fun k hk e => by have := Hz1.out; omega
  | false =>
    obtain rfl : er = 8 := by rw [her]; rfl
    clear her
    go_wp2_with (first | (refine wpList_load_row rfl 44 (.tmp 8) rfl tb rfl 44 (tkD t d).toArray (0, 0) _ Hb3.out Try.underlying44 rfl (info18 t d) ?_) | (refine wpList_store_row _ rfl 44 (.tmp 6) (.tmp 26) rfl rb (tkD t d).toArray _ 44 rfl rfl Hr3.out rfl (info18 t d) (tkD_all t d) ?_; intro w5 hb5 hf5; have Hb5 := Lib.hid hb5; have Hf5 := Lib.hid hf5; clear hb5 hf5))
    refine bodyPost_ret (res_row2 Try.results26 _ _ rb 44 (tkD t d).toArray (0, 0) _ (.int .i64 8) rfl rfl Hb5.out Try.underlying44 rfl (info18 t d)) rfl ⟨rfl, ?_⟩
    exact (Hf2.out.trans0 Hf23.out).trans Hf5.out fun k hk e => by have := Hz1.out; omega
end Go.Proofs.Yteabiaoklpfbdaa
