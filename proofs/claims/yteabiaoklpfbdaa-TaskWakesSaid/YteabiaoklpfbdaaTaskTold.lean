/- What told does: of a select without cases whose register is 0, and of a receive into the registers 1 and 2. -/
import Derived.Test.YteabiaoklpfbdaaTaskPark
set_option linter.unusedVariables false
set_option linter.unusedSimpArgs false
namespace Go.Proofs.Yteabiaoklpfbdaa
open Go.RowKit
set_option maxRecDepth 100000
theorem receives_no (w : World) (op a b c k : Int) (d : Bool) : Calls Try.prog 46 #[.agg #[.int .i64 op, .int .i64 a, .int .i64 b, .int .i64 c, .slice none 0 0, .bool d], .int .i64 k] w fun e w' => e = .returned (.bool false) ∧ Fr Nob w w' := by
  by_cases h : 0 ≤ k
  · have h1 : decide ((0 : Int) ≤ k) = true := decide_eq_true h
    have h2 : decide (k < (0 : Int)) = false := decide_eq_false (by omega)
    go_enter Try.func46, Try.ntmps46
    go_wp2_with fail
    go_ret
    exact ⟨rfl, (Fr.refl _ _).alloc _⟩
  · have h1 : decide ((0 : Int) ≤ k) = false := decide_eq_false h
    go_enter Try.func46, Try.ntmps46
    go_wp2_with fail
    go_ret
    exact ⟨rfl, (Fr.refl _ _).alloc _⟩
set_option maxHeartbeats 2000000 in
theorem told_sel (w : World) (tb : Nat) (t : Nat → Int) (d : Bool) (hb : w.heap[tb]? = some (.cells (tkD t d).toArray 44 (0, 0))) (h12 : t 12 = 15) (h13 : t 13 = 0) (x k v : Int) (ok pn : Bool) :
    Calls Try.prog 33 #[.pointer (some ⟨tb, 0, none⟩), .agg #[.int .i64 x, .int .i64 k, .int .i64 v, .bool ok, .bool pn]] w fun e w' => e = .returned (.tuple #[]) ∧ Fr (fun q => q = tb) w w' ∧ w'.heap[tb]? = some (.cells (tkD (updT t 4 k) d).toArray 44 (0, 0)) := by
  have hbl := lt_of_block hb
  have c12 := tkc12 hb; have c13 := tkc13 hb; have c14 := tkc14 hb; have c15 := tkc15 hb; have c16 := tkc16 hb; have c17 := tkc17 hb
  rw [h12] at c12; rw [h13] at c13
  have Hb := Lib.hid hb; have Hrc := Lib.hid (fun W op a b c k d => receives_no W op a b c k d)
  generalize t 14 = t14 at *
  generalize t 15 = t15 at *
  have key : ∀ W, Fr Nob w W → W.cell? ⟨tb, 12, none⟩ = some (.int .i64 15) ∧ W.cell? ⟨tb, 13, none⟩ = some (.int .i64 0) ∧ W.cell? ⟨tb, 14, none⟩ = some (.int .i64 t14) ∧ W.cell? ⟨tb, 15, none⟩ = some (.int .i64 t15) ∧ W.cell? ⟨tb, 16, none⟩ = some (.slice none 0 0) ∧ W.cell? ⟨tb, 17, none⟩ = some (.bool d) := fun W hW => ⟨hW.cell id c12, hW.cell id c13, hW.cell id c14, hW.cell id c15, hW.cell id c16, hW.cell id c17⟩
  obtain ⟨e12, e13, e14, e15, e16, e17⟩ := key _ ((Fr.refl Nob w).alloc (.cells #[.int .i64 x, .int .i64 k, .int .i64 v, .bool ok, .bool pn] 38))
  clear hb key c12 c13 c14 c15 c16 c17 h12 h13
  go_enter Try.func33, Try.ntmps33
  go_wp2_with fail
  obtain ⟨w2, hw2⟩ : ∃ w2, w2 = (w.alloc (.cells #[.int .i64 x, .int .i64 k, .int .i64 v, .bool ok, .bool pn] 38)).alloc (.cells #[.int .i64 15, .int .i64 0, .int .i64 t14, .int .i64 t15, .slice none 0 0, .bool d] 34) := ⟨_, rfl⟩
  rw [← hw2]
  have hf2 : Fr Nob w w2 := by rw [hw2]; exact ((Fr.refl Nob w).alloc _).alloc _
  have hk2 : w2.heap[w.heap.size]? = some (.cells #[.int .i64 x, .int .i64 k, .int .i64 v, .bool ok, .bool pn] 38 (0, 0)) := by rw [hw2]; exact ((Fr.refl Nob _).alloc _).blk id (heap_alloc_new w _)
  have hi2 : w2.heap[w.heap.size + 1]? = some (.cells #[.int .i64 15, .int .i64 0, .int .i64 t14, .int .i64 t15, .slice none 0 0, .bool d] 34 (0, 0)) := by rw [hw2]; exact blk_alloc_eq _ (by simp)
  have Hf2 := Lib.hid hf2; have Hk2 := Lib.hid hk2; have Hi2 := Lib.hid hi2
  have hb2 := hf2.blk id Hb.out
  have Hb2 := Lib.hid hb2
  clear hw2 hf2 hk2 hi2 e12 e13 e14 e15 e16 e17
  have k1 := blk_cell Hk2.out 1 rfl
  have i1 := blk_cell Hi2.out 1 rfl
  have c4 := tkc4 hb2
  have f4 := tkf hb2 4
  clear hb2
  go_region
  obtain ⟨w3, hw3⟩ : ∃ w3, w3 = (w2.setCell ⟨tb, 4, none⟩ (.int .i64 k)).drew := ⟨_, rfl⟩
  rw [← hw3]
  have hf3 : Fr (fun q => q = tb) w2 w3 := by rw [hw3]; exact ((Fr.refl (fun q => q = tb) w2).setT 4 _).drew
  have Hb3 : Hid (w3.heap[tb]? = some (.cells (tkD (updT t 4 k) d).toArray 44 (0, 0))) := Lib.hid (by rw [hw3, blk_drew]; exact tkp4 Hb2.out _)
  have hk3 := hf3.blk (k := w.heap.size) (by omega) Hk2.out
  have hi3 := hf3.blk (k := w.heap.size + 1) (by omega) Hi2.out
  have j0 := blk_cell hi3 0 rfl
  have j1 := blk_cell hi3 1 rfl
  have j2 := blk_cell hi3 2 rfl
  have j3 := blk_cell hi3 3 rfl
  have j4 := blk_cell hi3 4 rfl
  have j5 := blk_cell hi3 5 rfl
  have m1 := blk_cell hk3 1 rfl
  have Hf3 := Lib.hid hf3
  clear hw3 hf3 hk3 hi3 k1 i1 c4 f4
  go_wp2_with fail
  refine (Hrc.out w3 _ _ _ _ _ _).mono ?_
  rintro e w4 ⟨rfl, hf4⟩
  have Hf4 := Lib.hid hf4
  clear hf4 j0 j1 j2 j3 j4 j5 m1
  go_wp2_with fail
  exact bodyPost_ret (v := .tuple #[]) (by simp [results, Try.results33, go_sem]) rfl ⟨rfl, (Hf2.out.none.trans0 Hf3.out).trans0 Hf4.out.none, Hf4.out.blk id Hb3.out⟩
set_option maxHeartbeats 2000000 in
theorem told_recv (w : World) (tb : Nat) (t : Nat → Int) (d : Bool) (hb : w.heap[tb]? = some (.cells (tkD t d).toArray 44 (0, 0))) (h12 : t 12 = 11) (h14 : t 14 = 1) (h15 : t 15 = 2) (x k v : Int) (pn : Bool) :
    Calls Try.prog 33 #[.pointer (some ⟨tb, 0, none⟩), .agg #[.int .i64 x, .int .i64 k, .int .i64 v, .bool true, .bool pn]] w fun e w' => e = .returned (.tuple #[]) ∧ Fr (fun q => q = tb) w w' ∧ w'.heap[tb]? = some (.cells (tkD (updT (updT (updT t 5 v) 6 0) 6 1) d).toArray 44 (0, 0)) := by
  have hbl := lt_of_block hb
  have c12 := tkc12 hb; have c13 := tkc13 hb; have c14 := tkc14 hb; have c15 := tkc15 hb; have c16 := tkc16 hb; have c17 := tkc17 hb
  rw [h12] at c12; rw [h14] at c14; rw [h15] at c15
  have Hb := Lib.hid hb; have Hrc := Lib.hid (fun W op a b c k d => receives_no W op a b c k d)
  generalize t 13 = t13 at *
  have key : ∀ W, Fr Nob w W → W.cell? ⟨tb, 12, none⟩ = some (.int .i64 11) ∧ W.cell? ⟨tb, 13, none⟩ = some (.int .i64 t13) ∧ W.cell? ⟨tb, 14, none⟩ = some (.int .i64 1) ∧ W.cell? ⟨tb, 15, none⟩ = some (.int .i64 2) ∧ W.cell? ⟨tb, 16, none⟩ = some (.slice none 0 0) ∧ W.cell? ⟨tb, 17, none⟩ = some (.bool d) := fun W hW => ⟨hW.cell id c12, hW.cell id c13, hW.cell id c14, hW.cell id c15, hW.cell id c16, hW.cell id c17⟩
  obtain ⟨e12, e13, e14, e15, e16, e17⟩ := key _ ((Fr.refl Nob w).alloc (.cells #[.int .i64 x, .int .i64 k, .int .i64 v, .bool true, .bool pn] 38))
  clear hb key c12 c13 c14 c15 c16 c17 h12 h14 h15
  go_enter Try.func33, Try.ntmps33
  go_wp2_with fail
  obtain ⟨w2, hw2⟩ : ∃ w2, w2 = (w.alloc (.cells #[.int .i64 x, .int .i64 k, .int .i64 v, .bool true, .bool pn] 38)).alloc (.cells #[.int .i64 11, .int .i64 t13, .int .i64 1, .int .i64 2, .slice none 0 0, .bool d] 34) := ⟨_, rfl⟩
  rw [← hw2]
  have hf2 : Fr Nob w w2 := by rw [hw2]; exact ((Fr.refl Nob w).alloc _).alloc _
  have hk2 : w2.heap[w.heap.size]? = some (.cells #[.int .i64 x, .int .i64 k, .int .i64 v, .bool true, .bool pn] 38 (0, 0)) := by rw [hw2]; exact ((Fr.refl Nob _).alloc _).blk id (heap_alloc_new w _)
  have hi2 : w2.heap[w.heap.size + 1]? = some (.cells #[.int .i64 11, .int .i64 t13, .int .i64 1, .int .i64 2, .slice none 0 0, .bool d] 34 (0, 0)) := by rw [hw2]; exact blk_alloc_eq _ (by simp)
  have Hf2 := Lib.hid hf2; have Hk2 := Lib.hid hk2; have Hi2 := Lib.hid hi2
  have hb2 := hf2.blk id Hb.out
  have Hb2 := Lib.hid hb2
  clear hw2 hf2 hk2 hi2 e12 e13 e14 e15 e16 e17
  have k2 := blk_cell Hk2.out 2 rfl
  have i2 := blk_cell Hi2.out 2 rfl
  have i3 := blk_cell Hi2.out 3 rfl
  have c5 := tkc5 hb2
  have f5 := tkf hb2 5
  have c6 := tkc6 hb2
  have f6 := tkf hb2 6
  clear hb2
  go_region
  all_goals (
    first
    | (obtain ⟨w3, hw3⟩ : ∃ w3, w3 = ((w2.setCell ⟨tb, 5, none⟩ (.int .i64 v)).setCell ⟨tb, 6, none⟩ (.int .i64 0)).drew := ⟨_, rfl⟩
       rw [← hw3])
    have hf3 : Fr (fun q => q = tb) w2 w3 := by rw [hw3]; exact (((Fr.refl (fun q => q = tb) w2).setT 5 _).setT 6 _).drew
    have hb3 : w3.heap[tb]? = some (.cells (tkD (updT (updT t 5 v) 6 0) d).toArray 44 (0, 0)) := by rw [hw3, blk_drew]; exact tkp6 (tkp5 Hb2.out _) _
    have hk3 := hf3.blk (k := w.heap.size) (by omega) Hk2.out
    have hi3 := hf3.blk (k := w.heap.size + 1) (by omega) Hi2.out
    have Hb3 := Lib.hid hb3
    have d6 := tkc6 hb3
    have g6 := tkf hb3 6
    have j3 := blk_cell hi3 3 rfl
    have m3 := blk_cell hk3 3 rfl
    have Hf3 := Lib.hid hf3
    clear hw3 hf3 hk3 hi3 k2 i2 i3 c5 f5 c6 f6 hb3
    go_wp2_with fail
    try go_region
    all_goals (
      obtain ⟨w4, hw4⟩ : ∃ w4, w4 = (w3.setCell ⟨tb, 6, none⟩ (.int .i64 1)).drew := ⟨_, rfl⟩
      rw [← hw4]
      have Hf4 : Hid (Fr (fun q => q = tb) w3 w4) := Lib.hid (by rw [hw4]; exact ((Fr.refl (fun q => q = tb) w3).setT 6 _).drew)
      have Hb4 : Hid (w4.heap[tb]? = some (.cells (tkD (updT (updT (updT t 5 v) 6 0) 6 1) d).toArray 44 (0, 0))) := Lib.hid (by rw [hw4, blk_drew]; exact tkp6 Hb3.out _)
      clear hw4 d6 g6 j3 m3
      go_wp2_with fail
      go_end0
      exact ⟨rfl, (Hf2.out.none.trans0 Hf3.out).trans0 Hf4.out, Hb4.out⟩))
end Go.Proofs.Yteabiaoklpfbdaa
