/- What End of a table does. -/
import Derived.Test.YteabiaoklpfbdaaTaskGet
set_option linter.unusedVariables false
set_option linter.unusedSimpArgs false
namespace Go.Proofs.Yteabiaoklpfbdaa
open Go.RowKit
set_option maxRecDepth 100000
def updT (t : Nat → Int) (k : Nat) (x : Int) : Nat → Int := fun j => if j = k then x else t j
section
variable {w : World} {b : Nat} {t : Nat → Int} {d : Bool} (h : w.heap[b]? = some (.cells (tkD t d).toArray 44 (0, 0)))
include h
theorem tkp0 (x : Int) : (w.setCell ⟨b, 0, none⟩ (.int .i64 x)).heap[b]? = some (.cells (tkD (updT t 0 x) d).toArray 44 (0, 0)) := blk_set h 0 _
theorem tkp1 (x : Int) : (w.setCell ⟨b, 1, none⟩ (.int .i64 x)).heap[b]? = some (.cells (tkD (updT t 1 x) d).toArray 44 (0, 0)) := blk_set h 1 _
theorem tkp2 (x : Int) : (w.setCell ⟨b, 2, none⟩ (.int .i64 x)).heap[b]? = some (.cells (tkD (updT t 2 x) d).toArray 44 (0, 0)) := blk_set h 2 _
theorem tkp3 (x : Int) : (w.setCell ⟨b, 3, none⟩ (.int .i64 x)).heap[b]? = some (.cells (tkD (updT t 3 x) d).toArray 44 (0, 0)) := blk_set h 3 _
theorem tkp4 (x : Int) : (w.setCell ⟨b, 4, none⟩ (.int .i64 x)).heap[b]? = some (.cells (tkD (updT t 4 x) d).toArray 44 (0, 0)) := blk_set h 4 _
theorem tkp5 (x : Int) : (w.setCell ⟨b, 5, none⟩ (.int .i64 x)).heap[b]? = some (.cells (tkD (updT t 5 x) d).toArray 44 (0, 0)) := blk_set h 5 _
theorem tkp6 (x : Int) : (w.setCell ⟨b, 6, none⟩ (.int .i64 x)).heap[b]? = some (.cells (tkD (updT t 6 x) d).toArray 44 (0, 0)) := blk_set h 6 _
theorem tkp7 (x : Int) : (w.setCell ⟨b, 7, none⟩ (.int .i64 x)).heap[b]? = some (.cells (tkD (updT t 7 x) d).toArray 44 (0, 0)) := blk_set h 7 _
theorem tkp8 (x : Int) : (w.setCell ⟨b, 8, none⟩ (.int .i64 x)).heap[b]? = some (.cells (tkD (updT t 8 x) d).toArray 44 (0, 0)) := blk_set h 8 _
theorem tkp9 (x : Int) : (w.setCell ⟨b, 9, none⟩ (.int .i64 x)).heap[b]? = some (.cells (tkD (updT t 9 x) d).toArray 44 (0, 0)) := blk_set h 9 _
theorem tkp10 (x : Int) : (w.setCell ⟨b, 10, none⟩ (.int .i64 x)).heap[b]? = some (.cells (tkD (updT t 10 x) d).toArray 44 (0, 0)) := blk_set h 10 _
theorem tkp11 (x : Int) : (w.setCell ⟨b, 11, none⟩ (.int .i64 x)).heap[b]? = some (.cells (tkD (updT t 11 x) d).toArray 44 (0, 0)) := blk_set h 11 _
theorem tkp12 (x : Int) : (w.setCell ⟨b, 12, none⟩ (.int .i64 x)).heap[b]? = some (.cells (tkD (updT t 12 x) d).toArray 44 (0, 0)) := blk_set h 12 _
theorem tkp13 (x : Int) : (w.setCell ⟨b, 13, none⟩ (.int .i64 x)).heap[b]? = some (.cells (tkD (updT t 13 x) d).toArray 44 (0, 0)) := blk_set h 13 _
theorem tkp14 (x : Int) : (w.setCell ⟨b, 14, none⟩ (.int .i64 x)).heap[b]? = some (.cells (tkD (updT t 14 x) d).toArray 44 (0, 0)) := blk_set h 14 _
theorem tkp15 (x : Int) : (w.setCell ⟨b, 15, none⟩ (.int .i64 x)).heap[b]? = some (.cells (tkD (updT t 15 x) d).toArray 44 (0, 0)) := blk_set h 15 _
theorem tkp16 : (w.setCell ⟨b, 16, none⟩ (.slice none 0 0)).heap[b]? = some (.cells (tkD t d).toArray 44 (0, 0)) := blk_set h 16 _
theorem tkp17 (x : Bool) : (w.setCell ⟨b, 17, none⟩ (.bool x)).heap[b]? = some (.cells (tkD t x).toArray 44 (0, 0)) := blk_set h 17 _
theorem tkc0 : w.cell? ⟨b, 0, none⟩ = some (.int .i64 (t 0)) := blk_cell h 0 rfl
theorem tkc1 : w.cell? ⟨b, 1, none⟩ = some (.int .i64 (t 1)) := blk_cell h 1 rfl
theorem tkc2 : w.cell? ⟨b, 2, none⟩ = some (.int .i64 (t 2)) := blk_cell h 2 rfl
theorem tkc3 : w.cell? ⟨b, 3, none⟩ = some (.int .i64 (t 3)) := blk_cell h 3 rfl
theorem tkc4 : w.cell? ⟨b, 4, none⟩ = some (.int .i64 (t 4)) := blk_cell h 4 rfl
theorem tkc5 : w.cell? ⟨b, 5, none⟩ = some (.int .i64 (t 5)) := blk_cell h 5 rfl
theorem tkc6 : w.cell? ⟨b, 6, none⟩ = some (.int .i64 (t 6)) := blk_cell h 6 rfl
theorem tkc7 : w.cell? ⟨b, 7, none⟩ = some (.int .i64 (t 7)) := blk_cell h 7 rfl
theorem tkc8 : w.cell? ⟨b, 8, none⟩ = some (.int .i64 (t 8)) := blk_cell h 8 rfl
theorem tkc9 : w.cell? ⟨b, 9, none⟩ = some (.int .i64 (t 9)) := blk_cell h 9 rfl
theorem tkc10 : w.cell? ⟨b, 10, none⟩ = some (.int .i64 (t 10)) := blk_cell h 10 rfl
theorem tkc11 : w.cell? ⟨b, 11, none⟩ = some (.int .i64 (t 11)) := blk_cell h 11 rfl
theorem tkc12 : w.cell? ⟨b, 12, none⟩ = some (.int .i64 (t 12)) := blk_cell h 12 rfl
theorem tkc13 : w.cell? ⟨b, 13, none⟩ = some (.int .i64 (t 13)) := blk_cell h 13 rfl
theorem tkc14 : w.cell? ⟨b, 14, none⟩ = some (.int .i64 (t 14)) := blk_cell h 14 rfl
theorem tkc15 : w.cell? ⟨b, 15, none⟩ = some (.int .i64 (t 15)) := blk_cell h 15 rfl
theorem tkc16 : w.cell? ⟨b, 16, none⟩ = some (.slice none 0 0) := blk_cell h 16 rfl
theorem tkc17 : w.cell? ⟨b, 17, none⟩ = some (.bool d) := blk_cell h 17 rfl
theorem tkf (o : Nat) : w.frozen? ⟨b, o, none⟩ = false := blk_froz h o
end
theorem so_runs (W : World) (x : Int) : Calls Try.prog 27 #[.int .i64 x] W fun e w' => e = .returned (.bool (x == 0)) ∧ W = w' := by
  go_enter Try.func27, Try.ntmps27
  go_wp2_with fail
  go_ret
  exact ⟨rfl, rfl⟩
theorem so_wakes (W : World) (x : Int) : Calls Try.prog 32 #[.int .i64 x] W fun e w' => e = .returned (.bool (x == 1)) ∧ W = w' := by
  go_enter Try.func32, Try.ntmps32
  go_wp2_with fail
  go_ret
  exact ⟨rfl, rfl⟩
theorem so_ends (W : World) (x : Int) : Calls Try.prog 34 #[.int .i64 x] W fun e w' => e = .returned (.bool (x != 2)) ∧ W = w' := by
  go_enter Try.func34, Try.ntmps34
  go_wp2_with fail
  go_ret
  exact ⟨rfl, rfl⟩
/-- A task that has ended. -/
def endT (t : Nat → Int) (how : Int) : Nat → Int := updT (updT (updT (updT (updT (updT t 2 2) 3 how) 12 0) 13 0) 14 0) 15 0
theorem TabAt.set {w : World} {S : Nat → Prop} {b ab lb : Nat} {SA SL : Nat → Prop} {ts : List Tk} {line : List Int} (h : TabAt w S b ab lb SA SL ts line) (i : Nat) (hi : i < ts.length) (x : Tk) : Calls Try.prog 30 #[.pointer (some ⟨ab, 0, none⟩), .int .i64 (i : Int), .agg (tkE x).toArray] w fun e w' => e = .returned (.bool true) ∧ Fr SA w w' ∧ TabAt w' S b ab lb SA SL (ts.set i x) line := by
  refine (arena_set w SA ab 64 ts.length (rowsT ts) i (tkE x) (tkD_len _ _) (tkD_one _ _) h.arena hi).mono ?_
  rintro e w' ⟨he, hf, ha⟩
  refine ⟨he, hf, h.setA hf ?_⟩
  rw [rowsT_set ts i x hi] at ha
  rw [List.length_set]; exact ha
set_option maxHeartbeats 2000000 in
theorem end_done {w : World} {S : Nat → Prop} {b : Nat} {ts : List Tk} {line : List Int} (h : TableAt w S b ts line) (i : Nat) (t : Nat → Int) (d : Bool) (hi : ts[i]? = some (t, d)) (h2 : t 2 = 2) (how : Int) :
    Calls Try.prog 15 #[.pointer (some ⟨b, 0, none⟩), .int .i64 (i : Int), .int .i64 how] w fun e w' => e = .returned (.int .i64 8) ∧ Fr Nob w w' := by
  have His := Lib.hid (is_ends h i t d hi false (fun W => by have := so_ends W (t 2); rw [h2] at this; rw [h2]; exact this) 8 rfl)
  clear h hi h2
  go_enter Try.func15, Try.ntmps15
  go_wp2_with fail
  refine His.out.mono ?_
  rintro e w2 ⟨rfl, hf2⟩
  have Hf2 := Lib.hid hf2
  clear hf2
  have hzn : (w2.alloc (.cells tkZ.toArray 44)).heap[w2.heap.size]? = some (.cells tkZ.toArray 44 (0, 0)) := heap_alloc_new _ _
  unfold tkZ at hzn
  dsimp only [tkL] at hzn
  go_wp2_with (refine wpList_store_row _ rfl 44 (.tmp 7) (.tmp 13) rfl w2.heap.size (tkD t d).toArray _ 44 rfl rfl hzn rfl (info18 t d) (tkD_all t d) ?_; intro w3 hb3 hf3; have Hb3 := Lib.hid hb3; have Hf3 := Lib.hid hf3; clear hb3 hf3)
  go_ret
  exact ⟨rfl, Hf2.out.trans0 (((Fr.refl Nob w2).alloc _).trans Hf3.out fun k hk e => by omega)⟩
set_option maxHeartbeats 2000000 in
theorem end_ok {w : World} {S : Nat → Prop} {b : Nat} {ts : List Tk} {line : List Int} (h : TableAt w S b ts line) (i : Nat) (t : Nat → Int) (d : Bool) (hi : ts[i]? = some (t, d)) (h2 : (t 2 != 2) = true) (how : Int) :
    Calls Try.prog 15 #[.pointer (some ⟨b, 0, none⟩), .int .i64 (i : Int), .int .i64 how] w fun e w' => e = .returned (.int .i64 0) ∧ Fr S w w' ∧ TableAt w' S b (ts.set i (endT t how, false)) (line.erase (i : Int)) := by
  have His := Lib.hid (is_ends h i t d hi true (fun W => by have := so_ends W (t 2); rw [h2] at this; exact this) 0 rfl)
  obtain ⟨ab, lb, SA, SL, h⟩ := h
  have hset := fun W (hW : Fr Nob w W) => (h.fr0 hW).set i (List.getElem?_eq_some_iff.1 hi).1 (endT t how, false)
  have hrem : ∀ W ts', TabAt W S b ab lb SA SL ts' line → Calls Try.prog 31 #[.pointer (some ⟨lb, 0, none⟩), .int .i64 (i : Int)] W fun e w' => (∃ r, e = .returned (.bool r)) ∧ Fr SL W w' ∧ TabAt w' S b ab lb SA SL ts' (line.erase (i : Int)) := fun W ts' hW => by
    by_cases hm : (i : Int) ∈ line
    · exact (ready_remove W SL lb line i hW.ready hm).mono fun e w' ⟨he, hf, hr⟩ => ⟨⟨_, he⟩, hf, hW.setL hf hr⟩
    · rw [List.erase_of_not_mem hm]
      exact (ready_remove_no W SL lb line i hW.ready hm).mono fun e w' ⟨he, hf⟩ => ⟨⟨_, he⟩, hf.none, hW.fr0 hf⟩
  have hb := h.blk
  have Hset := Lib.hid hset; have Hrem := Lib.hid hrem; have Hb := Lib.hid hb; have H := Lib.hid h
  clear hset hrem hb h hi h2
  go_enter Try.func15, Try.ntmps15
  go_wp2_with fail
  refine His.out.mono ?_
  rintro e w2 ⟨rfl, hf2⟩
  have Hf2 := Lib.hid hf2
  clear hf2
  have hzn : (w2.alloc (.cells tkZ.toArray 44)).heap[w2.heap.size]? = some (.cells tkZ.toArray 44 (0, 0)) := heap_alloc_new _ _
  unfold tkZ at hzn
  dsimp only [tkL] at hzn
  go_wp2_with (refine wpList_store_row _ rfl 44 (.tmp 7) (.tmp 13) rfl w2.heap.size (tkD t d).toArray _ 44 rfl rfl hzn rfl (info18 t d) (tkD_all t d) ?_; intro w3 hb3 hf3; have c2 := tkc2 hb3; have c3 := tkc3 hb3; have c12 := tkc12 hb3; have c13 := tkc13 hb3; have c14 := tkc14 hb3; have c15 := tkc15 hb3; have c16 := tkc16 hb3; have c17 := tkc17 hb3; have f2 := tkf hb3 2; have f3 := tkf hb3 3; have f12 := tkf hb3 12; have f13 := tkf hb3 13; have f14 := tkf hb3 14; have f15 := tkf hb3 15; have f16 := tkf hb3 16; have f17 := tkf hb3 17; have Hb3 := Lib.hid hb3; have Hf3 := Lib.hid hf3; clear hb3 hf3)
  obtain ⟨w4, hw4⟩ : ∃ w4, w4 = ((((((((w3.setCell ⟨w2.heap.size, 2, none⟩ (.int .i64 2)).setCell ⟨w2.heap.size, 3, none⟩ (.int .i64 how)).setCell ⟨w2.heap.size, 12, none⟩ (.int .i64 0)).setCell ⟨w2.heap.size, 13, none⟩ (.int .i64 0)).setCell ⟨w2.heap.size, 14, none⟩ (.int .i64 0)).setCell ⟨w2.heap.size, 15, none⟩ (.int .i64 0)).setCell ⟨w2.heap.size, 16, none⟩ (.slice none 0 0)).setCell ⟨w2.heap.size, 17, none⟩ (.bool false)) := ⟨_, rfl⟩
  rw [← hw4]
  have hb4 : w4.heap[w2.heap.size]? = some (.cells (tkD (endT t how) false).toArray 44 (0, 0)) := by rw [hw4]; exact (tkp17 (tkp16 (tkp15 (tkp14 (tkp13 (tkp12 (tkp3 (tkp2 Hb3.out _) _) _) _) _) _)) _)
  have hf34 : Fr (fun k => k = w2.heap.size) w3 w4 := by rw [hw4]; exact (((((((((Fr.refl (fun k => k = w2.heap.size) w3).setT 2 _).setT 3 _).setT 12 _).setT 13 _).setT 14 _).setT 15 _).setT 16 _).setT 17 _)
  have hf23 : Fr Nob w2 w3 := ((Fr.refl Nob w2).alloc _).trans Hf3.out fun k hk e => by omega
  have hf24 : Fr Nob w2 w4 := hf23.trans hf34 fun k hk e => by omega
  have Hf4 := Lib.hid (Hf2.out.trans0 hf24)
  have Hb4 := Lib.hid hb4
  have Hz4 := Lib.hid Hf2.out.size
  clear hw4 hb4 hf34 hf23 hf24 c2 c3 c12 c13 c14 c15 c16 c17 f2 f3 f12 f13 f14 f15 f16 f17 hzn
  have HS0 : Hid (w4.rangeAt w2.heap.size 0 (tkD (endT t how) false) ∧ w4.cell? ⟨b, 0, none⟩ = some (.pointer (some ⟨ab, 0, none⟩))) := ⟨rangeRow Hb4.out, blk_cell (Hf4.out.blk id Hb.out) 0 rfl⟩
  have hns : ¬ SA w2.heap.size := fun q => by have := H.out.lt _ (H.out.subA _ q).1; have := Hz4.out; omega
  have hu44 := Try.underlying44
  have hi44 : (Try.prog.info? 44).map (·.size) = some (tkD (endT t how) false).length := info_task18
  refine wp_region_held_drew (S := fun W => W.rangeAt w2.heap.size 0 (tkD (endT t how) false) ∧ W.cell? ⟨b, 0, none⟩ = some (.pointer (some ⟨ab, 0, none⟩))) (by kernel_rfl) (by simpa using HS0.out) (fun hHeld => ?_)
  refine wpAnyH_take (i := 0) (v := ?_) rfl (by kernel_rfl) (by kernel_rfl) (by kernel_rfl) (fun _ _ _ h => h) (Or.inl ⟨by rfl, ?_⟩) (by assumption) ?_
  rotate_left
  · intro w hSw; (try dsimp only at hSw); go_simp; try with_reducible rfl
  try simp only [List.getElem_toArray, List.getElem_cons_zero, List.getElem_cons_succ, Act.put, List.setIfInBounds_toArray, List.set_cons_zero, List.set_cons_succ]
  refine wpAnyH_take (i := 1) (v := ?_) rfl (by kernel_rfl) (by kernel_rfl) (by kernel_rfl) (fun _ _ _ h => h) (Or.inl ⟨by rfl, ?_⟩) (by assumption) ?_
  rotate_left
  · intro w hSw; (try dsimp only at hSw); go_simp; try with_reducible rfl
  try simp only [List.getElem_toArray, List.getElem_cons_zero, List.getElem_cons_succ, Act.put, List.setIfInBounds_toArray, List.set_cons_zero, List.set_cons_succ]
  refine wpAnyH_take (i := 2) (v := ?_) rfl (by kernel_rfl) (by kernel_rfl) (by kernel_rfl) (fun _ _ _ h => h) (Or.inl ⟨by rfl, ?_⟩) (by assumption) ?_
  rotate_left
  · intro w hSw; (try dsimp only at hSw); go_simp; try with_reducible rfl
  try simp only [List.getElem_toArray, List.getElem_cons_zero, List.getElem_cons_succ, Act.put, List.setIfInBounds_toArray, List.set_cons_zero, List.set_cons_succ]
  refine wpAnyH_take (i := 3) (v := ?_) rfl (by kernel_rfl) (by kernel_rfl) (by kernel_rfl) (fun _ _ _ h => h) (Or.inl ⟨by rfl, ?_⟩) (by assumption) ?_
  rotate_left
  · intro w hSw; (try dsimp only at hSw); go_simp; try with_reducible rfl
  try simp only [List.getElem_toArray, List.getElem_cons_zero, List.getElem_cons_succ, Act.put, List.setIfInBounds_toArray, List.set_cons_zero, List.set_cons_succ]
  refine wpAnyH_take (i := 4) (v := ?_) rfl (by kernel_rfl) (by kernel_rfl) (by kernel_rfl) (fun _ _ _ h => h) (Or.inl ⟨by rfl, ?_⟩) (by assumption) ?_
  rotate_left
  · intro w hSw; (try dsimp only at hSw); go_simp; try with_reducible rfl
  try simp only [List.getElem_toArray, List.getElem_cons_zero, List.getElem_cons_succ, Act.put, List.setIfInBounds_toArray, List.set_cons_zero, List.set_cons_succ]
  refine wpAnyH_take (i := 5) (v := _) rfl (by kernel_rfl) (by kernel_rfl) (by kernel_rfl) (fun _ _ _ h => h) (yieldsIf_load_mid (by rfl) _ _ rfl (w2.heap.size) 0 rfl (tkD (endT t how) false) _ (fun w hw => hw.1) hu44 rfl hi44) (by assumption) ?_
  try simp only [List.getElem_toArray, List.getElem_cons_zero, List.getElem_cons_succ, Act.put, List.setIfInBounds_toArray, List.set_cons_zero, List.set_cons_succ]
  refine wpAnyH_ready (rs := [6]) (by kernel_rfl) (by simp) ?_
  refine AllReadyH.cons rfl (fun K hK => ?_) AllReadyH.nil
  simp only [List.getElem_toArray, List.getElem_cons_zero, List.getElem_cons_succ]
  go_simp
  refine (Hset.out w4.drew Hf4.out.drew).mono ?_
  rintro e w5 ⟨rfl, hf5, ht5⟩
  refine hK.out _ _ ⟨fun j v hj => hf5.cell (p := ⟨w2.heap.size, 0 + j, none⟩) hns (hHeld.1 j v hj), hf5.cell (p := ⟨b, 0, none⟩) (fun q => (H.out.subA _ q).2 rfl) hHeld.2⟩ (fun hHeld2 => ?_)
  refine wpAnyH_done (by kernel_rfl) ?_ _
  try simp only [List.getElem_toArray, List.getElem_cons_zero, List.getElem_cons_succ, Act.put, List.setIfInBounds_toArray, List.set_cons_zero, List.set_cons_succ]
  have Hf5 := Lib.hid (show Fr SA w4 w5 from ((Fr.refl SA w4).drew).trans0 hf5); have Ht5 := Lib.hid ht5
  have c1 := blk_cell ht5.blk 1 rfl
  clear hf5 ht5 hHeld hHeld2 hK K
  go_wp2_with fail
  refine (Hrem.out w5 _ Ht5.out).mono ?_
  rintro e w6 ⟨⟨r, rfl⟩, hf6, ht6⟩
  have Hf6 := Lib.hid hf6; have Ht6 := Lib.hid ht6
  clear hf6 ht6 c1
  go_wp2_with fail
  go_ret
  exact ⟨rfl, (Hf4.out.none.trans Hf5.out fun k hk q => (H.out.subA k q).1).trans Hf6.out fun k hk q => (H.out.subL k q).1, ab, lb, SA, SL, Ht6.out⟩
end Go.Proofs.Yteabiaoklpfbdaa
