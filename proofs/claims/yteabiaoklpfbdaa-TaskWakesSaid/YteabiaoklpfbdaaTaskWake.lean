/- What Wake of a table does. -/
import Derived.Test.YteabiaoklpfbdaaTaskTold
set_option linter.unusedVariables false
set_option linter.unusedSimpArgs false
namespace Go.Proofs.Yteabiaoklpfbdaa
open Go.RowKit
set_option maxRecDepth 100000
/-- A task that is woken. -/
def wakeT (t : Nat → Int) : Nat → Int := updT (updT (updT (updT (updT (updT t 1 (t 1 + 1)) 2 0) 12 0) 13 0) 14 0) 15 0
section
variable {w : World} {S : Nat → Prop} {b : Nat} {ts : List Tk} {line : List Int} (h : TableAt w S b ts line) (i : Nat) (t : Nat → Int) (d : Bool) (hi : ts[i]? = some (t, d)) (k v : Int) (ok : Bool)
include h hi
set_option maxHeartbeats 2000000 in
theorem wake_done (pn : Bool) (h2 : (t 2 == 1) = false) :
    Calls Try.prog 14 #[.pointer (some ⟨b, 0, none⟩), .agg #[.int .i64 (i : Int), .int .i64 k, .int .i64 v, .bool ok, .bool pn]] w fun e w' => e = .returned (.int .i64 8) ∧ Fr Nob w w' := by
  have His := Lib.hid (fun W (hW : Fr Nob w W) => is_wakes (w := W) (S := S) (b := b) (ts := ts) (line := line) (by obtain ⟨ab, lb, SA, SL, h⟩ := h; exact ⟨ab, lb, SA, SL, h.fr0 hW⟩) i t d hi false (fun W => by have := so_wakes W (t 2); rw [h2] at this; exact this) 8 rfl)
  clear h hi h2
  go_enter Try.func14, Try.ntmps14
  go_wp2_with fail
  obtain ⟨w1, hw1⟩ : ∃ w1, w1 = w.alloc (.cells #[.int .i64 (i : Int), .int .i64 k, .int .i64 v, .bool ok, .bool pn] 38) := ⟨_, rfl⟩
  rw [← hw1]
  obtain ⟨pb, hpb⟩ : ∃ pb, pb = w.heap.size := ⟨_, rfl⟩
  rw [← hpb]
  have hf1 : Fr Nob w w1 := by rw [hw1]; exact (Fr.refl Nob w).alloc _
  have hp1 : w1.heap[pb]? = some (.cells #[.int .i64 (i : Int), .int .i64 k, .int .i64 v, .bool ok, .bool pn] 38 (0, 0)) := by rw [hw1, hpb]; exact heap_alloc_new _ _
  have Hpb : Hid (w.heap.size = pb) := hpb.symm
  clear hw1 hpb
  refine (His.out w1 hf1).mono ?_
  rintro e w2 ⟨rfl, hf2⟩
  have hp2 := hf2.blk id hp1
  have Hp2 := Lib.hid hp2
  have Hf2 := Lib.hid (hf1.trans0 hf2)
  have hpz := lt_of_block hp2
  clear hf2 hp1 hf1 hp2
  have hzn : (w2.alloc (.cells tkZ.toArray 44)).heap[w2.heap.size]? = some (.cells tkZ.toArray 44 (0, 0)) := heap_alloc_new _ _
  unfold tkZ at hzn
  dsimp only [tkL] at hzn
  go_wp2_with (refine wpList_store_row _ rfl 44 (.tmp 5) (.tmp 12) rfl w2.heap.size (tkD t d).toArray _ 44 rfl rfl hzn rfl (info18 t d) (tkD_all t d) ?_; intro w3 hb3 hf3; have hp3 := hf3.blk (k := pb) (fun e => by omega) (((Fr.refl Nob w2).alloc _).blk id Hp2.out); have Hf3 := Lib.hid hf3; clear hb3 hf3 hp3)
  go_ret
  exact ⟨rfl, Hf2.out.trans0 (((Fr.refl Nob w2).alloc _).trans Hf3.out fun k hk e => by omega)⟩
set_option maxHeartbeats 2000000 in
theorem wake_panic (h2 : (t 2 == 1) = true) :
    Calls Try.prog 14 #[.pointer (some ⟨b, 0, none⟩), .agg #[.int .i64 (i : Int), .int .i64 k, .int .i64 v, .bool ok, .bool true]] w fun e w' => e = .returned (.int .i64 0) ∧ Fr S w w' ∧ TableAt w' S b (ts.set i (endT t 1, false)) line := by
  have His := Lib.hid (fun W (hW : Fr Nob w W) => is_wakes (w := W) (S := S) (b := b) (ts := ts) (line := line) (by obtain ⟨ab, lb, SA, SL, h⟩ := h; exact ⟨ab, lb, SA, SL, h.fr0 hW⟩) i t d hi true (fun W => by have := so_wakes W (t 2); rw [h2] at this; exact this) 0 rfl)
  obtain ⟨ab, lb, SA, SL, h⟩ := h
  have hset := fun W (hW : Fr Nob w W) => (h.fr0 hW).set i (List.getElem?_eq_some_iff.1 hi).1 (endT t 1, false)
  have hb := h.blk
  have Hset := Lib.hid hset; have Hb := Lib.hid hb; have H := Lib.hid h
  clear hset hb h hi h2
  go_enter Try.func14, Try.ntmps14
  go_wp2_with fail
  obtain ⟨w1, hw1⟩ : ∃ w1, w1 = w.alloc (.cells #[.int .i64 (i : Int), .int .i64 k, .int .i64 v, .bool ok, .bool true] 38) := ⟨_, rfl⟩
  rw [← hw1]
  obtain ⟨pb, hpb⟩ : ∃ pb, pb = w.heap.size := ⟨_, rfl⟩
  rw [← hpb]
  have hf1 : Fr Nob w w1 := by rw [hw1]; exact (Fr.refl Nob w).alloc _
  have hp1 : w1.heap[pb]? = some (.cells #[.int .i64 (i : Int), .int .i64 k, .int .i64 v, .bool ok, .bool true] 38 (0, 0)) := by rw [hw1, hpb]; exact heap_alloc_new _ _
  have Hpb : Hid (w.heap.size = pb) := hpb.symm
  clear hw1 hpb
  refine (His.out w1 hf1).mono ?_
  rintro e w2 ⟨rfl, hf2⟩
  have hp2 := hf2.blk id hp1
  have Hp2 := Lib.hid hp2
  have Hf2 := Lib.hid (hf1.trans0 hf2)
  have hpz := lt_of_block hp2
  clear hf2 hp1 hf1 hp2
  have hzn : (w2.alloc (.cells tkZ.toArray 44)).heap[w2.heap.size]? = some (.cells tkZ.toArray 44 (0, 0)) := heap_alloc_new _ _
  unfold tkZ at hzn
  dsimp only [tkL] at hzn
  go_wp2_with (refine wpList_store_row _ rfl 44 (.tmp 5) (.tmp 12) rfl w2.heap.size (tkD t d).toArray _ 44 rfl rfl hzn rfl (info18 t d) (tkD_all t d) ?_; intro w3 hb3 hf3; have hp3 := hf3.blk (k := pb) (fun e => by omega) (((Fr.refl Nob w2).alloc _).blk id Hp2.out); have q0 := blk_cell hp3 0 rfl; have q1 := blk_cell hp3 1 rfl; have q2 := blk_cell hp3 2 rfl; have q3 := blk_cell hp3 3 rfl; have q4 := blk_cell hp3 4 rfl; have c2 := tkc2 hb3; have f2 := tkf hb3 2; have c3 := tkc3 hb3; have f3 := tkf hb3 3; have c12 := tkc12 hb3; have f12 := tkf hb3 12; have c13 := tkc13 hb3; have f13 := tkf hb3 13; have c14 := tkc14 hb3; have f14 := tkf hb3 14; have c15 := tkc15 hb3; have f15 := tkf hb3 15; have c16 := tkc16 hb3; have f16 := tkf hb3 16; have c17 := tkc17 hb3; have f17 := tkf hb3 17; have Hb3 := Lib.hid hb3; have Hf3 := Lib.hid hf3; have Hp3 := Lib.hid hp3; clear hb3 hf3 hp3)
  obtain ⟨w4, hw4⟩ : ∃ w4, w4 = ((((((((w3.setCell ⟨w2.heap.size, 2, none⟩ (.int .i64 2)).setCell ⟨w2.heap.size, 3, none⟩ (.int .i64 1)).setCell ⟨w2.heap.size, 12, none⟩ (.int .i64 0)).setCell ⟨w2.heap.size, 13, none⟩ (.int .i64 0)).setCell ⟨w2.heap.size, 14, none⟩ (.int .i64 0)).setCell ⟨w2.heap.size, 15, none⟩ (.int .i64 0)).setCell ⟨w2.heap.size, 16, none⟩ (.slice none 0 0)).setCell ⟨w2.heap.size, 17, none⟩ (.bool false)) := ⟨_, rfl⟩
  rw [← hw4]
  have hb4 : w4.heap[w2.heap.size]? = some (.cells (tkD (endT t 1) false).toArray 44 (0, 0)) := by rw [hw4]; exact (tkp17 (tkp16 (tkp15 (tkp14 (tkp13 (tkp12 (tkp3 (tkp2 Hb3.out _) _) _) _) _) _)) _)
  have hf34 : Fr (fun k => k = w2.heap.size) w3 w4 := by rw [hw4]; exact (((((((((Fr.refl (fun k => k = w2.heap.size) w3).setT 2 _).setT 3 _).setT 12 _).setT 13 _).setT 14 _).setT 15 _).setT 16 _).setT 17 _)
  have hp4 := hf34.blk (k := pb) (by omega) Hp3.out
  have hf24 : Fr Nob w2 w4 := (((Fr.refl Nob w2).alloc _).trans Hf3.out fun k hk e => by omega).trans hf34 fun k hk e => by omega
  have Hf4 := Lib.hid (Hf2.out.trans0 hf24)
  have Hb4 := Lib.hid hb4
  have Hp4 := Lib.hid hp4
  have Hz4 := Lib.hid Hf2.out.size
  have HS0 : Hid (w4.rangeAt w2.heap.size 0 (tkD (endT t 1) false) ∧ w4.cell? ⟨b, 0, none⟩ = some (.pointer (some ⟨ab, 0, none⟩)) ∧ w4.cell? ⟨pb, 0, none⟩ = some (.int .i64 (i : Int))) := ⟨rangeRow hb4, blk_cell (Hf4.out.blk id Hb.out) 0 rfl, blk_cell hp4 0 rfl⟩
  clear hw4 hb4 hf34 hf24 hp4 c2 c3 c12 c13 c14 c15 c16 c17 f2 f3 f12 f13 f14 f15 f16 f17 hzn q0 q1 q2 q3 q4
  have hns : ¬ SA w2.heap.size := fun q => by have := H.out.lt _ (H.out.subA _ q).1; have := Hz4.out; omega
  have hnp : ¬ SA pb := fun q => by have := H.out.lt _ (H.out.subA _ q).1; have := Hpb.out; omega
  have hnb : ¬ SA b := fun q => (H.out.subA _ q).2 rfl
  have hu44 := Try.underlying44
  have hi44 : (Try.prog.info? 44).map (·.size) = some (tkD (endT t 1) false).length := info_task18
  refine wp_region_held_drew (S := fun W => W.rangeAt w2.heap.size 0 (tkD (endT t 1) false) ∧ W.cell? ⟨b, 0, none⟩ = some (.pointer (some ⟨ab, 0, none⟩)) ∧ W.cell? ⟨pb, 0, none⟩ = some (.int .i64 (i : Int))) (by kernel_rfl) (by simpa using HS0.out) (fun hHeld => ?_)
  refine wpAnyH_take (i := 0) (v := ?_) rfl (by kernel_rfl) (by kernel_rfl) (by kernel_rfl) (fun _ _ _ h => h) (Or.inl ⟨by rfl, ?_⟩) (by assumption) ?_
  rotate_left
  · intro w hSw; (try dsimp only at hSw); go_simp; try with_reducible rfl
  try simp only [List.getElem_toArray, List.getElem_cons_zero, List.getElem_cons_succ, Act.put, List.setIfInBounds_toArray, List.set_cons_zero, List.set_cons_succ]
  refine wpAnyH_take (i := 1) (v := ?_) rfl (by kernel_rfl) (by kernel_rfl) (by kernel_rfl) (fun _ _ _ h => h) (Or.inl ⟨by rfl, ?_⟩) (by assumption) ?_
  rotate_left
  · intro w hSw; (try dsimp only at hSw); go_simp; try with_reducible rfl
  try simp only [List.getElem_toArray, List.getElem_cons_zero, List.getElem_cons_succ, Act.put, List.setIfInBounds_toArray, List.set_cons_zero, List.set_cons_succ]
  refine wpAnyH_take (i := 2) (v := ?_) rfl (by kernel_rfl) (by kernel_rfl) (by kernel_rfl) (fun _ _ _ h => h) (Or.inl ⟨by rfl, ?_⟩) (by assumption) ?_
  rotate_left
  · intro w hSw; (try dsimp only at hSw); go_simp; try with_reducible rfl
  try simp only [List.getElem_toArray, List.getElem_cons_zero, List.getElem_cons_succ, Act.put, List.setIfInBounds_toArray, List.set_cons_zero, List.set_cons_succ]
  refine wpAnyH_take (i := 3) (v := ?_) rfl (by kernel_rfl) (by kernel_rfl) (by kernel_rfl) (fun _ _ _ h => h) (Or.inl ⟨by rfl, ?_⟩) (by assumption) ?_
  rotate_left
  · intro w hSw; (try dsimp only at hSw); go_simp; try with_reducible rfl
  try simp only [List.getElem_toArray, List.getElem_cons_zero, List.getElem_cons_succ, Act.put, List.setIfInBounds_toArray, List.set_cons_zero, List.set_cons_succ]
  refine wpAnyH_take (i := 4) (v := ?_) rfl (by kernel_rfl) (by kernel_rfl) (by kernel_rfl) (fun _ _ _ h => h) (Or.inl ⟨by rfl, ?_⟩) (by assumption) ?_
  rotate_left
  · intro w hSw; (try dsimp only at hSw); go_simp; try with_reducible rfl
  try simp only [List.getElem_toArray, List.getElem_cons_zero, List.getElem_cons_succ, Act.put, List.setIfInBounds_toArray, List.set_cons_zero, List.set_cons_succ]
  refine wpAnyH_take (i := 5) (v := ?_) rfl (by kernel_rfl) (by kernel_rfl) (by kernel_rfl) (fun _ _ _ h => h) (Or.inl ⟨by rfl, ?_⟩) (by assumption) ?_
  rotate_left
  · intro w hSw; (try dsimp only at hSw); go_simp; try with_reducible rfl
  try simp only [List.getElem_toArray, List.getElem_cons_zero, List.getElem_cons_succ, Act.put, List.setIfInBounds_toArray, List.set_cons_zero, List.set_cons_succ]
  refine wpAnyH_take (i := 6) (v := _) rfl (by kernel_rfl) (by kernel_rfl) (by kernel_rfl) (fun _ _ _ h => h) (yieldsIf_load_mid (by rfl) _ _ rfl (w2.heap.size) 0 rfl (tkD (endT t 1) false) _ (fun w hw => hw.1) hu44 rfl hi44) (by assumption) ?_
  try simp only [List.getElem_toArray, List.getElem_cons_zero, List.getElem_cons_succ, Act.put, List.setIfInBounds_toArray, List.set_cons_zero, List.set_cons_succ]
  refine wpAnyH_ready (rs := [7]) (by kernel_rfl) (by simp) ?_
  refine AllReadyH.cons rfl (fun K hK => ?_) AllReadyH.nil
  simp only [List.getElem_toArray, List.getElem_cons_zero, List.getElem_cons_succ]
  go_simp
  refine (Hset.out w4.drew Hf4.out.drew).mono ?_
  rintro e w8 ⟨rfl, hf8, ht8⟩
  refine hK.out _ _ ⟨fun j v hj => hf8.cell (p := ⟨w2.heap.size, 0 + j, none⟩) hns (hHeld.1 j v hj), hf8.cell (p := ⟨b, 0, none⟩) hnb hHeld.2.1, hf8.cell (p := ⟨pb, 0, none⟩) hnp hHeld.2.2⟩ (fun hHeld2 => ?_)
  refine wpAnyH_done (by kernel_rfl) ?_ _
  try simp only [List.getElem_toArray, List.getElem_cons_zero, List.getElem_cons_succ, Act.put, List.setIfInBounds_toArray, List.set_cons_zero, List.set_cons_succ]
  have Hf8 := Lib.hid (show Fr SA w4 w8 from ((Fr.refl SA w4).drew).trans0 hf8); have Ht8 := Lib.hid ht8
  clear hf8 ht8 hHeld hHeld2 hK K
  go_wp2_with fail
  go_ret
  exact ⟨rfl, Hf4.out.none.trans Hf8.out fun k hk q => (H.out.subA k q).1, ab, lb, SA, SL, Ht8.out⟩
end
end Go.Proofs.Yteabiaoklpfbdaa
