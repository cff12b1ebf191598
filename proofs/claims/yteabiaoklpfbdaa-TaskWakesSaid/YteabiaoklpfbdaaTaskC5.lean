/- What Put of a table does: of a task that can run. -/
import Derived.Test.YteabiaoklpfbdaaTaskPut
set_option linter.unusedVariables false
set_option linter.unusedSimpArgs false
namespace Go.Proofs.Yteabiaoklpfbdaa
open Go.RowKit
set_option maxRecDepth 100000
def putT (t : Nat → Int) (pc : Int) (r : Nat → Int) : Nat → Int := fun j => if j = 1 then pc else if 4 ≤ j ∧ j < 12 then r (j - 4) else t j
set_option maxHeartbeats 4000000 in
theorem put_ok {w : World} {S : Nat → Prop} {b : Nat} {ts : List Tk} {line : List Int} (h : TableAt w S b ts line) (i : Nat) (t : Nat → Int) (d : Bool) (hi : ts[i]? = some (t, d)) (pc : Int) (r : Nat → Int) (h2 : (t 2 == 0) = true) :
    Calls Try.prog 21 #[.pointer (some ⟨b, 0, none⟩), .int .i64 (i : Int), .int .i64 pc, .agg (regR r)] w fun e w' => e = .returned (.int .i64 0) ∧ Fr S w w' ∧ TableAt w' S b (ts.set i (putT t pc r, d)) line := by
  have His := Lib.hid (fun W (hW : Fr Nob w W) => is_runs (w := W) (S := S) (b := b) (ts := ts) (line := line) (by obtain ⟨ab, lb, SA, SL, h⟩ := h; exact ⟨ab, lb, SA, SL, h.fr0 hW⟩) i t d hi true (fun W => by have := so_runs W (t 2); rw [h2] at this; exact this) 0 rfl)
  obtain ⟨ab, lb, SA, SL, h⟩ := h
  have hset := fun W (hW : Fr Nob w W) => (h.fr0 hW).set i (List.getElem?_eq_some_iff.1 hi).1 (putT t pc r, d)
  have hb := h.blk
  have Hset := Lib.hid hset; have Hb := Lib.hid hb; have H := Lib.hid h
  clear hset hb h hi h2
  go_enter Try.func21, Try.ntmps21
  go_wp2_with fail
  obtain ⟨w1, hw1⟩ : ∃ w1, w1 = w.alloc (.cells (regR r) 30) := ⟨_, rfl⟩
  rw [← hw1]
  obtain ⟨pb, hpb⟩ : ∃ pb, pb = w.heap.size := ⟨_, rfl⟩
  rw [← hpb]
  have hf1 : Fr Nob w w1 := by rw [hw1]; exact (Fr.refl Nob w).alloc _
  have hp1 : w1.heap[pb]? = some (.cells (regR r) 30 (0, 0)) := by rw [hw1, hpb]; exact heap_alloc_new _ _
  have Hpb : Hid (w.heap.size = pb) := hpb.symm
  clear hw1 hpb
  refine (His.out w1 hf1).mono ?_
  rintro e w2 ⟨rfl, hf2⟩
  have hp2 := hf2.blk id hp1
  have Hp2 := Lib.hid hp2
  have Hf2 := Lib.hid (hf1.trans0 hf2)
  have hpz := lt_of_block hp2
  clear hf2 hp1 hf1 hp2
  have hzn : (w2.alloc (.cells tkZ.toArray 44)).heap[w2.heap.size]? = some (.cells tkZ.toArray 44 (0, 0)) := heap_alloc_new _ _
  unfold tkZ at hzn
  dsimp only [tkL] at hzn
  go_wp2_with (refine wpList_store_row _ rfl 44 (.tmp 9) (.tmp 15) rfl w2.heap.size (tkD t d).toArray _ 44 rfl rfl hzn rfl (info18 t d) (tkD_all t d) ?_; intro w3 hb3 hf3; have hp3 := hf3.blk (k := pb) (fun e => by omega) (((Fr.refl Nob w2).alloc _).blk id Hp2.out); have Hb3 := Lib.hid hb3; have Hf3 := Lib.hid hf3; have Hp3 := Lib.hid hp3; clear hb3 hf3 hp3)
  clear hzn
  have q0 := blk_cell Hp3.out 0 rfl
  have q1 := blk_cell Hp3.out 1 rfl
  have q2 := blk_cell Hp3.out 2 rfl
  have q3 := blk_cell Hp3.out 3 rfl
  have q4 := blk_cell Hp3.out 4 rfl
  have q5 := blk_cell Hp3.out 5 rfl
  have q6 := blk_cell Hp3.out 6 rfl
  have q7 := blk_cell Hp3.out 7 rfl
  have c1 := tkc1 Hb3.out
  have f1 := tkf Hb3.out 1
  have c4 := tkc4 Hb3.out
  have f4 := tkf Hb3.out 4
  have c5 := tkc5 Hb3.out
  have f5 := tkf Hb3.out 5
  have c6 := tkc6 Hb3.out
  have f6 := tkf Hb3.out 6
  have c7 := tkc7 Hb3.out
  have f7 := tkf Hb3.out 7
  have c8 := tkc8 Hb3.out
  have f8 := tkf Hb3.out 8
  have c9 := tkc9 Hb3.out
  have f9 := tkf Hb3.out 9
  have c10 := tkc10 Hb3.out
  have f10 := tkf Hb3.out 10
  have c11 := tkc11 Hb3.out
  have f11 := tkf Hb3.out 11
  go_region
  obtain ⟨w7, hw7⟩ : ∃ w7, w7 = (((((((((w3.setCell ⟨w2.heap.size, 1, none⟩ (.int .i64 pc)).setCell ⟨w2.heap.size, 4, none⟩ (.int .i64 (r 0))).setCell ⟨w2.heap.size, 5, none⟩ (.int .i64 (r 1))).setCell ⟨w2.heap.size, 6, none⟩ (.int .i64 (r 2))).setCell ⟨w2.heap.size, 7, none⟩ (.int .i64 (r 3))).setCell ⟨w2.heap.size, 8, none⟩ (.int .i64 (r 4))).setCell ⟨w2.heap.size, 9, none⟩ (.int .i64 (r 5))).setCell ⟨w2.heap.size, 10, none⟩ (.int .i64 (r 6))).setCell ⟨w2.heap.size, 11, none⟩ (.int .i64 (r 7))).drew := ⟨_, rfl⟩
  rw [← hw7]
  have hb7 : w7.heap[w2.heap.size]? = some (.cells (tkD (putT t pc r) d).toArray 44 (0, 0)) := by rw [hw7, blk_drew]; exact (tkp11 (tkp10 (tkp9 (tkp8 (tkp7 (tkp6 (tkp5 (tkp4 (tkp1 Hb3.out _) _) _) _) _) _) _) _) _)
  have hf23 : Fr Nob w2 w3 := ((Fr.refl Nob w2).alloc _).trans Hf3.out fun k hk e => by omega
  have Hf7 : Hid (Fr Nob w w7) := Lib.hid (by rw [hw7]; exact ((Hf2.out.trans0 hf23).trans ((((((((((Fr.refl (fun k => k = w2.heap.size) w3).setT 1 _).setT 4 _).setT 5 _).setT 6 _).setT 7 _).setT 8 _).setT 9 _).setT 10 _).setT 11 _) fun k hk e => by have := Hf2.out.size; omega).drew)
  have Hb7 := Lib.hid hb7
  have Hz7 := Lib.hid Hf2.out.size
  clear hw7 hb7 hf23 q0 q1 q2 q3 q4 q5 q6 q7 c1 f1 c4 f4 c5 f5 c6 f6 c7 f7 c8 f8 c9 f9 c10 f10 c11 f11
  have HS0 : Hid (w7.rangeAt w2.heap.size 0 (tkD (putT t pc r) d) ∧ w7.cell? ⟨b, 0, none⟩ = some (.pointer (some ⟨ab, 0, none⟩))) := ⟨rangeRow Hb7.out, blk_cell (Hf7.out.blk id Hb.out) 0 rfl⟩
  have hns : ¬ SA w2.heap.size := fun q => by have := H.out.lt _ (H.out.subA _ q).1; have := Hz7.out; omega
  have hu44 := Try.underlying44
  have hi44 : (Try.prog.info? 44).map (·.size) = some (tkD (putT t pc r) d).length := info_task18
  go_wp2_with fail
  refine wp_region_held_drew (S := fun W => W.rangeAt w2.heap.size 0 (tkD (putT t pc r) d) ∧ W.cell? ⟨b, 0, none⟩ = some (.pointer (some ⟨ab, 0, none⟩))) (by kernel_rfl) (by simpa using HS0.out) (fun hHeld => ?_)
  refine wpAnyH_take (i := 0) (v := ?_) rfl (by kernel_rfl) (by kernel_rfl) (by kernel_rfl) (fun _ _ _ h => h) (Or.inl ⟨by rfl, ?_⟩) (by assumption) ?_
  rotate_left
  · intro w hSw; (try dsimp only at hSw); go_simp; try with_reducible rfl
  try simp only [List.getElem_toArray, List.getElem_cons_zero, List.getElem_cons_succ, Act.put, List.setIfInBounds_toArray, List.set_cons_zero, List.set_cons_succ]
  refine wpAnyH_take (i := 1) (v := ?_) rfl (by kernel_rfl) (by kernel_rfl) (by kernel_rfl) (fun _ _ _ h => h) (Or.inl ⟨by rfl, ?_⟩) (by assumption) ?_
  rotate_left
  · intro w hSw; (try dsimp only at hSw); go_simp; try with_reducible rfl
  try simp only [List.getElem_toArray, List.getElem_cons_zero, List.getElem_cons_succ, Act.put, List.setIfInBounds_toArray, List.set_cons_zero, List.set_cons_succ]
  refine wpAnyH_take (i := 2) (v := ?_) rfl (by kernel_rfl) (by kernel_rfl) (by kernel_rfl) (fun _ _ _ h => h) (Or.inl ⟨by rfl, ?_⟩) (by assumption) ?_
  rotate_left
  · intro w hSw; (try dsimp only at hSw); go_simp; try with_reducible rfl
  try simp only [List.getElem_toArray, List.getElem_cons_zero, List.getElem_cons_succ, Act.put, List.setIfInBounds_toArray, List.set_cons_zero, List.set_cons_succ]
  refine wpAnyH_take (i := 3) (v := ?_) rfl (by kernel_rfl) (by kernel_rfl) (by kernel_rfl) (fun _ _ _ h => h) (Or.inl ⟨by rfl, ?_⟩) (by assumption) ?_
  rotate_left
  · intro w hSw; (try dsimp only at hSw); go_simp; try with_reducible rfl
  try simp only [List.getElem_toArray, List.getElem_cons_zero, List.getElem_cons_succ, Act.put, List.setIfInBounds_toArray, List.set_cons_zero, List.set_cons_succ]
  refine wpAnyH_take (i := 4) (v := ?_) rfl (by kernel_rfl) (by kernel_rfl) (by kernel_rfl) (fun _ _ _ h => h) (Or.inl ⟨by rfl, ?_⟩) (by assumption) ?_
  rotate_left
  · intro w hSw; (try dsimp only at hSw); go_simp; try with_reducible rfl
  try simp only [List.getElem_toArray, List.getElem_cons_zero, List.getElem_cons_succ, Act.put, List.setIfInBounds_toArray, List.set_cons_zero, List.set_cons_succ]
  refine wpAnyH_take (i := 5) (v := _) rfl (by kernel_rfl) (by kernel_rfl) (by kernel_rfl) (fun _ _ _ h => h) (yieldsIf_load_mid (by rfl) _ _ rfl (w2.heap.size) 0 rfl (tkD (putT t pc r) d) _ (fun w hw => hw.1) hu44 rfl hi44) (by assumption) ?_
  try simp only [List.getElem_toArray, List.getElem_cons_zero, List.getElem_cons_succ, Act.put, List.setIfInBounds_toArray, List.set_cons_zero, List.set_cons_succ]
  refine wpAnyH_ready (rs := [6]) (by kernel_rfl) (by simp) ?_
  refine AllReadyH.cons rfl (fun K hK => ?_) AllReadyH.nil
  simp only [List.getElem_toArray, List.getElem_cons_zero, List.getElem_cons_succ]
  go_simp
  refine (Hset.out w7.drew Hf7.out.drew).mono ?_
  rintro e w8 ⟨rfl, hf8, ht8⟩
  refine hK.out _ _ ⟨fun j v hj => hf8.cell (p := ⟨w2.heap.size, 0 + j, none⟩) hns (hHeld.1 j v hj), hf8.cell (p := ⟨b, 0, none⟩) (fun q => (H.out.subA _ q).2 rfl) hHeld.2⟩ (fun hHeld2 => ?_)
  refine wpAnyH_done (by kernel_rfl) ?_ _
  try simp only [List.getElem_toArray, List.getElem_cons_zero, List.getElem_cons_succ, Act.put, List.setIfInBounds_toArray, List.set_cons_zero, List.set_cons_succ]
  have Hf8 := Lib.hid (show Fr SA w7 w8 from ((Fr.refl SA w7).drew).trans0 hf8); have Ht8 := Lib.hid ht8
  clear hf8 ht8 hHeld hHeld2 hK K
  go_wp2_with fail
  go_ret
  exact ⟨rfl, Hf7.out.none.trans Hf8.out fun k hk q => (H.out.subA k q).1, ab, lb, SA, SL, Ht8.out⟩
end Go.Proofs.Yteabiaoklpfbdaa
