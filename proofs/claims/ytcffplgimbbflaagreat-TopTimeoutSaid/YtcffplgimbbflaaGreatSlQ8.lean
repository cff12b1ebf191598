/- Who waits on a channel, from outside; what two laws need. -/
import Derived.Test.YtcffplgimbbflaaGreatSlQ7
set_option linter.unusedVariables false
set_option linter.unusedSimpArgs false
namespace Go.Proofs.YtcffplgimbbflaaGreat
open Go.RowKit
set_option maxRecDepth 100000
def updT (t : Nat → Int) (k : Nat) (x : Int) : Nat → Int := fun j => if j = k then x else t j
section
variable {w : World} {b : Nat} {t : Nat → Int} {d : Bool} (h : w.heap[b]? = some (.cells (tkD t d).toArray 98 (0, 0)))
include h
theorem tkp1 (x : Int) : (w.setCell ⟨b, 1, none⟩ (.int .i64 x)).heap[b]? = some (.cells (tkD (updT t 1 x) d).toArray 98 (0, 0)) := blk_set h 1 _
theorem tkp2 (x : Int) : (w.setCell ⟨b, 2, none⟩ (.int .i64 x)).heap[b]? = some (.cells (tkD (updT t 2 x) d).toArray 98 (0, 0)) := blk_set h 2 _
theorem tkp3 (x : Int) : (w.setCell ⟨b, 3, none⟩ (.int .i64 x)).heap[b]? = some (.cells (tkD (updT t 3 x) d).toArray 98 (0, 0)) := blk_set h 3 _
theorem tkp4 (x : Int) : (w.setCell ⟨b, 4, none⟩ (.int .i64 x)).heap[b]? = some (.cells (tkD (updT t 4 x) d).toArray 98 (0, 0)) := blk_set h 4 _
theorem tkp5 (x : Int) : (w.setCell ⟨b, 5, none⟩ (.int .i64 x)).heap[b]? = some (.cells (tkD (updT t 5 x) d).toArray 98 (0, 0)) := blk_set h 5 _
theorem tkp6 (x : Int) : (w.setCell ⟨b, 6, none⟩ (.int .i64 x)).heap[b]? = some (.cells (tkD (updT t 6 x) d).toArray 98 (0, 0)) := blk_set h 6 _
theorem tkp7 (x : Int) : (w.setCell ⟨b, 7, none⟩ (.int .i64 x)).heap[b]? = some (.cells (tkD (updT t 7 x) d).toArray 98 (0, 0)) := blk_set h 7 _
theorem tkp8 (x : Int) : (w.setCell ⟨b, 8, none⟩ (.int .i64 x)).heap[b]? = some (.cells (tkD (updT t 8 x) d).toArray 98 (0, 0)) := blk_set h 8 _
theorem tkp9 (x : Int) : (w.setCell ⟨b, 9, none⟩ (.int .i64 x)).heap[b]? = some (.cells (tkD (updT t 9 x) d).toArray 98 (0, 0)) := blk_set h 9 _
theorem tkp10 (x : Int) : (w.setCell ⟨b, 10, none⟩ (.int .i64 x)).heap[b]? = some (.cells (tkD (updT t 10 x) d).toArray 98 (0, 0)) := blk_set h 10 _
theorem tkp11 (x : Int) : (w.setCell ⟨b, 11, none⟩ (.int .i64 x)).heap[b]? = some (.cells (tkD (updT t 11 x) d).toArray 98 (0, 0)) := blk_set h 11 _
theorem tkp12 (x : Int) : (w.setCell ⟨b, 12, none⟩ (.int .i64 x)).heap[b]? = some (.cells (tkD (updT t 12 x) d).toArray 98 (0, 0)) := blk_set h 12 _
theorem tkp13 (x : Int) : (w.setCell ⟨b, 13, none⟩ (.int .i64 x)).heap[b]? = some (.cells (tkD (updT t 13 x) d).toArray 98 (0, 0)) := blk_set h 13 _
theorem tkp14 (x : Int) : (w.setCell ⟨b, 14, none⟩ (.int .i64 x)).heap[b]? = some (.cells (tkD (updT t 14 x) d).toArray 98 (0, 0)) := blk_set h 14 _
theorem tkp15 (x : Int) : (w.setCell ⟨b, 15, none⟩ (.int .i64 x)).heap[b]? = some (.cells (tkD (updT t 15 x) d).toArray 98 (0, 0)) := blk_set h 15 _
theorem tkp16 : (w.setCell ⟨b, 16, none⟩ (.slice none 0 0)).heap[b]? = some (.cells (tkD t d).toArray 98 (0, 0)) := blk_set h 16 _
theorem tkp17 (x : Bool) : (w.setCell ⟨b, 17, none⟩ (.bool x)).heap[b]? = some (.cells (tkD t x).toArray 98 (0, 0)) := blk_set h 17 _
theorem tkc0 : w.cell? ⟨b, 0, none⟩ = some (.int .i64 (t 0)) := blk_cell h 0 rfl
theorem tkc1 : w.cell? ⟨b, 1, none⟩ = some (.int .i64 (t 1)) := blk_cell h 1 rfl
theorem tkc2 : w.cell? ⟨b, 2, none⟩ = some (.int .i64 (t 2)) := blk_cell h 2 rfl
theorem tkc3 : w.cell? ⟨b, 3, none⟩ = some (.int .i64 (t 3)) := blk_cell h 3 rfl
theorem tkc4 : w.cell? ⟨b, 4, none⟩ = some (.int .i64 (t 4)) := blk_cell h 4 rfl
theorem tkc5 : w.cell? ⟨b, 5, none⟩ = some (.int .i64 (t 5)) := blk_cell h 5 rfl
theorem tkc6 : w.cell? ⟨b, 6, none⟩ = some (.int .i64 (t 6)) := blk_cell h 6 rfl
theorem tkc7 : w.cell? ⟨b, 7, none⟩ = some (.int .i64 (t 7)) := blk_cell h 7 rfl
theorem tkc8 : w.cell? ⟨b, 8, none⟩ = some (.int .i64 (t 8)) := blk_cell h 8 rfl
theorem tkc9 : w.cell? ⟨b, 9, none⟩ = some (.int .i64 (t 9)) := blk_cell h 9 rfl
theorem tkc10 : w.cell? ⟨b, 10, none⟩ = some (.int .i64 (t 10)) := blk_cell h 10 rfl
theorem tkc11 : w.cell? ⟨b, 11, none⟩ = some (.int .i64 (t 11)) := blk_cell h 11 rfl
theorem tkc12 : w.cell? ⟨b, 12, none⟩ = some (.int .i64 (t 12)) := blk_cell h 12 rfl
theorem tkc13 : w.cell? ⟨b, 13, none⟩ = some (.int .i64 (t 13)) := blk_cell h 13 rfl
theorem tkc14 : w.cell? ⟨b, 14, none⟩ = some (.int .i64 (t 14)) := blk_cell h 14 rfl
theorem tkc15 : w.cell? ⟨b, 15, none⟩ = some (.int .i64 (t 15)) := blk_cell h 15 rfl
theorem tkc16 : w.cell? ⟨b, 16, none⟩ = some (.slice none 0 0) := blk_cell h 16 rfl
theorem tkc17 : w.cell? ⟨b, 17, none⟩ = some (.bool d) := blk_cell h 17 rfl
theorem tkf (o : Nat) : w.frozen? ⟨b, o, none⟩ = false := blk_froz h o
end
theorem so_runs (W : World) (x : Int) : Calls Tryz.prog 102 #[.int .i64 x] W fun e w' => e = .returned (.bool (x == 0)) ∧ W = w' := by
  go_enter Tryz.func102, Tryz.ntmps102
  go_wp2_with fail
  go_ret
  exact ⟨rfl, rfl⟩
theorem so_wakes (W : World) (x : Int) : Calls Tryz.prog 166 #[.int .i64 x] W fun e w' => e = .returned (.bool (x == 1)) ∧ W = w' := by
  go_enter Tryz.func166, Tryz.ntmps166
  go_wp2_with fail
  go_ret
  exact ⟨rfl, rfl⟩
theorem so_ends (W : World) (x : Int) : Calls Tryz.prog 99 #[.int .i64 x] W fun e w' => e = .returned (.bool (x != 2)) ∧ W = w' := by
  go_enter Tryz.func99, Tryz.ntmps99
  go_wp2_with fail
  go_ret
  exact ⟨rfl, rfl⟩
/-- A task that has ended. -/
def endT (t : Nat → Int) (how : Int) : Nat → Int := updT (updT (updT (updT (updT (updT t 2 2) 3 how) 12 0) 13 0) 14 0) 15 0
theorem TabAt.set {w : World} {S : Nat → Prop} {b ab lb : Nat} {SA SL : Nat → Prop} {ts : List Tk} {line : List Int} (h : TabAt w S b ab lb SA SL ts line) (i : Nat) (hi : i < ts.length) (x : Tk) (hx : ∀ v ∈ tkE x, v.oneCell' = true) : Calls Tryz.prog 100 #[.pointer (some ⟨ab, 0, none⟩), .int .i64 (i : Int), .agg (tkE x).toArray] w fun e w' => e = .returned (.bool true) ∧ Fr SA w w' ∧ TabAt w' S b ab lb SA SL (ts.set i x) line := by
  refine (arena_set w SA ab 64 ts.length (rowsT ts) i (tkE x) (tkC_len _ _ _) hx h.arena hi).mono ?_
  rintro e w' ⟨he, hf, ha⟩
  refine ⟨he, hf, h.setA hf ?_⟩
  rw [rowsT_set ts i x hi] at ha
  rw [List.length_set]; exact ha
set_option maxHeartbeats 2000000 in
theorem end_ok {w : World} {S : Nat → Prop} {b : Nat} {ts : List Tk} {line : List Int} (h : TableAt w S b ts line) (i : Nat) (t : Nat → Int) (d : Bool) (hi : ts[i]? = some (t, d, .slice none 0 0)) (h2 : (t 2 != 2) = true) (how : Int) :
    Calls Tryz.prog 60 #[.pointer (some ⟨b, 0, none⟩), .int .i64 (i : Int), .int .i64 how] w fun e w' => e = .returned (.int .i64 0) ∧ Fr S w w' ∧ TableAt w' S b (ts.set i (endT t how, false, .slice none 0 0)) (line.erase (i : Int)) := by
  have His := Lib.hid (is_ends h i t d hi true (fun W => by have := so_ends W (t 2); rw [h2] at this; exact this) 0 rfl)
  obtain ⟨ab, lb, SA, SL, h⟩ := h
  have hset := fun W (hW : Fr Nob w W) => (h.fr0 hW).set i (List.getElem?_eq_some_iff.1 hi).1 (endT t how, false, .slice none 0 0) (tkD_one _ _)
  have hrem : ∀ W ts', TabAt W S b ab lb SA SL ts' line → Calls Tryz.prog 101 #[.pointer (some ⟨lb, 0, none⟩), .int .i64 (i : Int)] W fun e w' => (∃ r, e = .returned (.bool r)) ∧ Fr SL W w' ∧ TabAt w' S b ab lb SA SL ts' (line.erase (i : Int)) := fun W ts' hW => by
    by_cases hm : (i : Int) ∈ line
    · exact (ready_remove W SL lb line i hW.ready hm).mono fun e w' ⟨he, hf, hr⟩ => ⟨⟨_, he⟩, hf, hW.setL hf hr⟩
    · rw [List.erase_of_not_mem hm]
      exact (ready_remove_no W SL lb line i hW.ready hm).mono fun e w' ⟨he, hf⟩ => ⟨⟨_, he⟩, hf.none, hW.fr0 hf⟩
  have hb := h.blk
  have Hset := Lib.hid hset; have Hrem := Lib.hid hrem; have Hb := Lib.hid hb; have H := Lib.hid h
  clear hset hrem hb h hi h2
  go_enter Tryz.func60, Tryz.ntmps60
  go_wp2_with fail
  refine His.out.mono ?_
  rintro e w2 ⟨rfl, hf2⟩
  have Hf2 := Lib.hid hf2
  clear hf2
  have hzn : (w2.alloc (.cells tkZ.toArray 98)).heap[w2.heap.size]? = some (.cells tkZ.toArray 98 (0, 0)) := heap_alloc_new _ _
  unfold tkZ at hzn
  dsimp only [tkL] at hzn
  go_wp2_with (refine wpList_store_row _ rfl 98 (.tmp 7) (.tmp 13) rfl w2.heap.size (tkD t d).toArray _ 98 rfl rfl hzn rfl (info18 t d) (tkD_all t d) ?_; intro w3 hb3 hf3; have c2 := tkc2 hb3; have c3 := tkc3 hb3; have c12 := tkc12 hb3; have c13 := tkc13 hb3; have c14 := tkc14 hb3; have c15 := tkc15 hb3; have c16 := tkc16 hb3; have c17 := tkc17 hb3; have f2 := tkf hb3 2; have f3 := tkf hb3 3; have f12 := tkf hb3 12; have f13 := tkf hb3 13; have f14 := tkf hb3 14; have f15 := tkf hb3 15; have f16 := tkf hb3 16; have f17 := tkf hb3 17; have Hb3 := Lib.hid hb3; have Hf3 := Lib.hid hf3; clear hb3 hf3)
  obtain ⟨w4, hw4⟩ : ∃ w4, w4 = ((((((((w3.setCell ⟨w2.heap.size, 2, none⟩ (.int .i64 2)).setCell ⟨w2.heap.size, 3, none⟩ (.int .i64 how)).setCell ⟨w2.heap.size, 12, none⟩ (.int .i64 0)).setCell ⟨w2.heap.size, 13, none⟩ (.int .i64 0)).setCell ⟨w2.heap.size, 14, none⟩ (.int .i64 0)).setCell ⟨w2.heap.size, 15, none⟩ (.int .i64 0)).setCell ⟨w2.heap.size, 16, none⟩ (.slice none 0 0)).setCell ⟨w2.heap.size, 17, none⟩ (.bool false)) := ⟨_, rfl⟩
  rw [← hw4]
  have hb4 : w4.heap[w2.heap.size]? = some (.cells (tkD (endT t how) false).toArray 98 (0, 0)) := by rw [hw4]; exact (tkp17 (tkp16 (tkp15 (tkp14 (tkp13 (tkp12 (tkp3 (tkp2 Hb3.out _) _) _) _) _) _)) _)
  have hf34 : Fr (fun k => k = w2.heap.size) w3 w4 := by rw [hw4]; exact (((((((((Fr.refl (fun k => k = w2.heap.size) w3).setT 2 _).setT 3 _).setT 12 _).setT 13 _).setT 14 _).setT 15 _).setT 16 _).setT 17 _)
  have hf23 : Fr Nob w2 w3 := ((Fr.refl Nob w2).alloc _).trans Hf3.out fun k hk e => by omega
  have hf24 : Fr Nob w2 w4 := hf23.trans hf34 fun k hk e => by omega
  have Hf4 := Lib.hid (Hf2.out.trans0 hf24)
  have Hb4 := Lib.hid hb4
  have Hz4 := Lib.hid Hf2.out.size
  clear hw4 hb4 hf34 hf23 hf24 c2 c3 c12 c13 c14 c15 c16 c17 f2 f3 f12 f13 f14 f15 f16 f17 hzn
  have HS0 : Hid (w4.rangeAt w2.heap.size 0 (tkD (endT t how) false) ∧ w4.cell? ⟨b, 0, none⟩ = some (.pointer (some ⟨ab, 0, none⟩))) := ⟨rangeRow Hb4.out, blk_cell (Hf4.out.blk id Hb.out) 0 rfl⟩
  have hns : ¬ SA w2.heap.size := fun q => by have := H.out.lt _ (H.out.subA _ q).1; have := Hz4.out; omega
  have hu44 := Tryz.underlying98
  have hi44 : (Tryz.prog.info? 98).map (·.size) = some (tkD (endT t how) false).length := info_task18
  refine wp_region_held_drew (S := fun W => W.rangeAt w2.heap.size 0 (tkD (endT t how) false) ∧ W.cell? ⟨b, 0, none⟩ = some (.pointer (some ⟨ab, 0, none⟩))) (by kernel_rfl) (by simpa using HS0.out) (fun hHeld => ?_)
  refine wpAnyH_take (i := 0) (v := ?_) rfl (by kernel_rfl) (by kernel_rfl) (by kernel_rfl) (fun _ _ _ h => h) (Or.inl ⟨by rfl, ?_⟩) (by assumption) ?_
  rotate_left
  · intro w hSw; (try dsimp only at hSw); go_simp; try with_reducible rfl
  try simp only [List.getElem_toArray, List.getElem_cons_zero, List.getElem_cons_succ, Act.put, List.setIfInBounds_toArray, List.set_cons_zero, List.set_cons_succ]
  refine wpAnyH_take (i := 1) (v := ?_) rfl (by kernel_rfl) (by kernel_rfl) (by kernel_rfl) (fun _ _ _ h => h) (Or.inl ⟨by rfl, ?_⟩) (by assumption) ?_
  rotate_left
  · intro w hSw; (try dsimp only at hSw); go_simp; try with_reducible rfl
  try simp only [List.getElem_toArray, List.getElem_cons_zero, List.getElem_cons_succ, Act.put, List.setIfInBounds_toArray, List.set_cons_zero, List.set_cons_succ]
  refine wpAnyH_take (i := 2) (v := ?_) rfl (by kernel_rfl) (by kernel_rfl) (by kernel_rfl) (fun _ _ _ h => h) (Or.inl ⟨by rfl, ?_⟩) (by assumption) ?_
  rotate_left
  · intro w hSw; (try dsimp only at hSw); go_simp; try with_reducible rfl
  try simp only [List.getElem_toArray, List.getElem_cons_zero, List.getElem_cons_succ, Act.put, List.setIfInBounds_toArray, List.set_cons_zero, List.set_cons_succ]
  refine wpAnyH_take (i := 3) (v := ?_) rfl (by kernel_rfl) (by kernel_rfl) (by kernel_rfl) (fun _ _ _ h => h) (Or.inl ⟨by rfl, ?_⟩) (by assumption) ?_
  rotate_left
  · intro w hSw; (try dsimp only at hSw); go_simp; try with_reducible rfl
  try simp only [List.getElem_toArray, List.getElem_cons_zero, List.getElem_cons_succ, Act.put, List.setIfInBounds_toArray, List.set_cons_zero, List.set_cons_succ]
  refine wpAnyH_take (i := 4) (v := ?_) rfl (by kernel_rfl) (by kernel_rfl) (by kernel_rfl) (fun _ _ _ h => h) (Or.inl ⟨by rfl, ?_⟩) (by assumption) ?_
  rotate_left
  · intro w hSw; (try dsimp only at hSw); go_simp; try with_reducible rfl
  try simp only [List.getElem_toArray, List.getElem_cons_zero, List.getElem_cons_succ, Act.put, List.setIfInBounds_toArray, List.set_cons_zero, List.set_cons_succ]
  refine wpAnyH_take (i := 5) (v := _) rfl (by kernel_rfl) (by kernel_rfl) (by kernel_rfl) (fun _ _ _ h => h) (yieldsIf_load_mid (by rfl) _ _ rfl (w2.heap.size) 0 rfl (tkD (endT t how) false) _ (fun w hw => hw.1) hu44 rfl hi44) (by assumption) ?_
  try simp only [List.getElem_toArray, List.getElem_cons_zero, List.getElem_cons_succ, Act.put, List.setIfInBounds_toArray, List.set_cons_zero, List.set_cons_succ]
  refine wpAnyH_ready (rs := [6]) (by kernel_rfl) (by simp) ?_
  refine AllReadyH.cons rfl (fun K hK => ?_) AllReadyH.nil
  simp only [List.getElem_toArray, List.getElem_cons_zero, List.getElem_cons_succ]
  go_simp
  refine (Hset.out w4.drew Hf4.out.drew).mono ?_
  rintro e w5 ⟨rfl, hf5, ht5⟩
  refine hK.out _ _ ⟨fun j v hj => hf5.cell (p := ⟨w2.heap.size, 0 + j, none⟩) hns (hHeld.1 j v hj), hf5.cell (p := ⟨b, 0, none⟩) (fun q => (H.out.subA _ q).2 rfl) hHeld.2⟩ (fun hHeld2 => ?_)
  refine wpAnyH_done (by kernel_rfl) ?_ _
  try simp only [List.getElem_toArray, List.getElem_cons_zero, List.getElem_cons_succ, Act.put, List.setIfInBounds_toArray, List.set_cons_zero, List.set_cons_succ]
  have Hf5 := Lib.hid (show Fr SA w4 w5 from ((Fr.refl SA w4).drew).trans0 hf5); have Ht5 := Lib.hid ht5
  have c1 := blk_cell ht5.blk 1 rfl
  clear hf5 ht5 hHeld hHeld2 hK K
  go_wp2_with fail
  refine (Hrem.out w5 _ Ht5.out).mono ?_
  rintro e w6 ⟨⟨r, rfl⟩, hf6, ht6⟩
  have Hf6 := Lib.hid hf6; have Ht6 := Lib.hid ht6
  clear hf6 ht6 c1
  go_wp2_with fail
  go_ret
  exact ⟨rfl, (Hf4.out.none.trans Hf5.out fun k hk q => (H.out.subA k q).1).trans Hf6.out fun k hk q => (H.out.subL k q).1, ab, lb, SA, SL, Ht6.out⟩
theorem rd_lit6 {w : World} {b : Nat} {x0 x1 x2 x3 x4 x5 : Value} {T : TypeId} (h : w.heap[b]? = some (.cells #[x0, x1, x2, x3, x4, x5] T (0, 0))) : Rd w 6 (.slice (some ⟨b, 0, none⟩) 1 1) 1 [x0, x1, x2, x3, x4, x5] :=
  ⟨rfl, by simp [maxLen], _, _, rfl, Nat.le_refl _, by simp [maxLen], fun _ => ⟨b, 0, rfl, lt_of_block h, fun j u hj => by rw [Nat.zero_add]; exact blk_cell h j (by simpa using hj)⟩⟩
theorem check_one (w : World) (b : Nat) (op a c e : Int) (d : Bool) (h : w.heap[b]? = some (.cells #[.int .i64 op, .int .i64 a, .int .i64 c, .int .i64 e, .slice none 0 0, .bool d] 25 (0, 0))) (hg : goodB ((op, a, c, e), .slice none 0 0, [], d) 1 = true) :
    Calls Tryz.prog 37 #[.slice (some ⟨b, 0, none⟩) 1 1] w fun e' w' => e' = .returned (.int .i64 0) ∧ Fr Nob w w' := by
  have := check_any w (.slice (some ⟨b, 0, none⟩) 1 1) [((op, a, c, e), .slice none 0 0, [], d)] 1 rfl (rd_lit6 h) (fun i hi => by simp at hi; subst hi; exact ⟨rfl, by simp [maxLen], none, 0, rfl, by simp, by simp [maxLen], fun h => absurd h (by simp)⟩)
  rw [show progB [((op, a, c, e), .slice none 0 0, [], d)] = true by simp only [progB, List.length_singleton, List.all_cons, List.all_nil, Bool.and_true]; rw [show ((1 : Nat) : Int) = 1 from rfl, hg]; rfl] at this
  exact this
def parkT (t : Nat → Int) (op a b c : Int) : Nat → Int := updT (updT (updT (updT (updT t 2 1) 12 op) 13 a) 14 b) 15 c
section
variable {w : World} {S : Nat → Prop} {b : Nat} {ts : List Tk} {line : List Int} (h : TableAt w S b ts line) (i : Nat) (t : Nat → Int) (d : Bool) (hi : ts[i]? = some (t, d, .slice none 0 0)) (op x y z : Int) (df : Bool)
include h hi
set_option maxHeartbeats 4000000 in
theorem park_ok (h2 : (t 2 == 0) = true) (hop : op = 10 ∨ op = 11 ∨ op = 15) (hg : goodB ((op, x, y, z), .slice none 0 0, [], df) 1 = true) :
    Calls Tryz.prog 61 #[.pointer (some ⟨b, 0, none⟩), .int .i64 (i : Int), .agg #[.int .i64 op, .int .i64 x, .int .i64 y, .int .i64 z, .slice none 0 0, .bool df]] w fun e w' => e = .returned (.int .i64 0) ∧ Fr S w w' ∧ TableAt w' S b (ts.set i (parkT t op x y z, df, .slice none 0 0)) (line.erase (i : Int)) := by
  have His := Lib.hid (fun W (hW : Fr Nob w W) => is_runs (w := W) (S := S) (b := b) (ts := ts) (line := line) (by obtain ⟨ab, lb, SA, SL, h⟩ := h; exact ⟨ab, lb, SA, SL, h.fr0 hW⟩) i t d hi true (fun W => by have := so_runs W (t 2); rw [h2] at this; exact this) 0 rfl)
  obtain ⟨ab, lb, SA, SL, h⟩ := h
  have hset := fun W (hW : Fr Nob w W) => (h.fr0 hW).set i (List.getElem?_eq_some_iff.1 hi).1 (parkT t op x y z, df, .slice none 0 0) (tkD_one _ _)
  have hrem : ∀ W ts', TabAt W S b ab lb SA SL ts' line → Calls Tryz.prog 101 #[.pointer (some ⟨lb, 0, none⟩), .int .i64 (i : Int)] W fun e w' => (∃ r, e = .returned (.bool r)) ∧ Fr SL W w' ∧ TabAt w' S b ab lb SA SL ts' (line.erase (i : Int)) := fun W ts' hW => by
    by_cases hm : (i : Int) ∈ line
    · exact (ready_remove W SL lb line i hW.ready hm).mono fun e w' ⟨he, hf, hr⟩ => ⟨⟨_, he⟩, hf, hW.setL hf hr⟩
    · rw [List.erase_of_not_mem hm]
      exact (ready_remove_no W SL lb line i hW.ready hm).mono fun e w' ⟨he, hf⟩ => ⟨⟨_, he⟩, hf.none, hW.fr0 hf⟩
  have hb := h.blk
  have hck := fun W b' hb' => check_one W b' op x y z df hb' hg
  have Hset := Lib.hid hset; have Hrem := Lib.hid hrem; have Hb := Lib.hid hb; have H := Lib.hid h; have Hck := Lib.hid hck; have Hcl := Lib.hid (fun W => clone_nil W)
  clear hset hrem hb h hi h2 hck hg
  have hops : (op != 10) = false ∨ (op != 10) = true ∧ (op != 11) = false ∨ (op != 10) = true ∧ (op != 11) = true ∧ (op != 15) = false := by
    rcases hop with rfl | rfl | rfl
    · left; rfl
    · right; left; exact ⟨rfl, rfl⟩
    · right; right; exact ⟨rfl, rfl, rfl⟩
  clear hop
  go_enter Tryz.func61, Tryz.ntmps61
  go_wp2_with fail
  obtain ⟨w1, hw1⟩ : ∃ w1, w1 = w.alloc (.cells #[.int .i64 op, .int .i64 x, .int .i64 y, .int .i64 z, .slice none 0 0, .bool df] 25) := ⟨_, rfl⟩
  rw [← hw1]
  obtain ⟨pb, hpb⟩ : ∃ pb, pb = w.heap.size := ⟨_, rfl⟩
  rw [← hpb]
  have hf1 : Fr Nob w w1 := by rw [hw1]; exact (Fr.refl Nob w).alloc _
  have hp1 : w1.heap[pb]? = some (.cells #[.int .i64 op, .int .i64 x, .int .i64 y, .int .i64 z, .slice none 0 0, .bool df] 25 (0, 0)) := by rw [hw1, hpb]; exact heap_alloc_new _ _
  have Hpb : Hid (w.heap.size = pb) := hpb.symm
  clear hw1 hpb
  refine (His.out w1 hf1).mono ?_
  rintro e w2 ⟨rfl, hf2⟩
  have hp2 := hf2.blk id hp1
  have Hp2 := Lib.hid hp2
  have Hf2 := Lib.hid (hf1.trans0 hf2)
  have hpz := lt_of_block hp2
  clear hf2 hp1 hf1 hp2
  have hzn : (w2.alloc (.cells tkZ.toArray 98)).heap[w2.heap.size]? = some (.cells tkZ.toArray 98 (0, 0)) := heap_alloc_new _ _
  unfold tkZ at hzn
  dsimp only [tkL] at hzn
  rcases hops with h10 | ⟨h10, h11⟩ | ⟨h10, h11, h15⟩
  all_goals (
    go_wp2_with (refine wpList_store_row _ rfl 98 (.tmp 7) (.tmp 13) rfl w2.heap.size (tkD t d).toArray _ 98 rfl rfl hzn rfl (info18 t d) (tkD_all t d) ?_; intro w3 hb3 hf3; have hp3 := hf3.blk (k := pb) (fun e => by omega) (((Fr.refl Nob w2).alloc _).blk id Hp2.out); have q0 := blk_cell hp3 0 rfl; have q1 := blk_cell hp3 1 rfl; have q2 := blk_cell hp3 2 rfl; have q3 := blk_cell hp3 3 rfl; have q4 := blk_cell hp3 4 rfl; have q5 := blk_cell hp3 5 rfl; have Hb3 := Lib.hid hb3; have Hf3 := Lib.hid hf3; have Hp3 := Lib.hid hp3; clear hb3 hf3 hp3)
    obtain ⟨w4, hw4⟩ : ∃ w4, w4 = w3.alloc (.cells #[.int .i64 op, .int .i64 x, .int .i64 y, .int .i64 z, .slice none 0 0, .bool df] 25) := ⟨_, rfl⟩
    rw [← hw4]
    have hf34 : Fr Nob w3 w4 := by rw [hw4]; exact (Fr.refl Nob w3).alloc _
    have hi4 : w4.heap[w3.heap.size]? = some (.cells #[.int .i64 op, .int .i64 x, .int .i64 y, .int .i64 z, .slice none 0 0, .bool df] 25 (0, 0)) := by rw [hw4]; exact heap_alloc_new _ _
    refine (Hck.out w4 _ hi4).mono ?_
    rintro e w5 ⟨rfl, hf5⟩
    have hf35 : Fr Nob w3 w5 := hf34.trans0 hf5
    have Hb5 := Lib.hid (hf35.blk id Hb3.out); have Hp5 := Lib.hid (hf35.blk id Hp3.out)
    have hf23 : Fr Nob w2 w3 := ((Fr.refl Nob w2).alloc _).trans Hf3.out fun k hk e => by omega
    have Hf5 := Lib.hid (Hf2.out.trans0 (hf23.trans0 hf35))
    have r4 := blk_cell Hp5.out 4 rfl
    have g4 := blk_froz Hp5.out 4
    clear hw4 hf34 hi4 hf5 hf35 hf23 q0 q1 q2 q3 q4 q5 hzn
    go_wp2_with fail
    refine (Hcl.out w5).mono ?_
    rintro e _ ⟨rfl, rfl⟩
    go_wp2_with fail
    obtain ⟨w6, hw6⟩ : ∃ w6, w6 = w5.setCell ⟨pb, 4, none⟩ (.slice none 0 0) := ⟨_, rfl⟩
    rw [← hw6]
    have hp6 : w6.heap[pb]? = some (.cells #[.int .i64 op, .int .i64 x, .int .i64 y, .int .i64 z, .slice none 0 0, .bool df] 25 (0, 0)) := by rw [hw6]; exact blk_set Hp5.out 4 _
    have hb6 : w6.heap[w2.heap.size]? = some (.cells (tkD t d).toArray 98 (0, 0)) := by rw [hw6]; exact (blk_set_ne 4 _ (by omega)).trans Hb5.out
    have Hf6 : Hid (Fr Nob w w6) := Lib.hid (by rw [hw6]; exact Hf5.out.trans ((Fr.refl (fun k => k = pb) w5).setT 4 _) fun k hk e => by have := Hpb.out; omega)
    have q0 := blk_cell hp6 0 rfl
    have q1 := blk_cell hp6 1 rfl
    have q2 := blk_cell hp6 2 rfl
    have q3 := blk_cell hp6 3 rfl
    have q4 := blk_cell hp6 4 rfl
    have q5 := blk_cell hp6 5 rfl
    have c2 := tkc2 hb6; have c12 := tkc12 hb6; have c13 := tkc13 hb6; have c14 := tkc14 hb6; have c15 := tkc15 hb6; have c16 := tkc16 hb6; have c17 := tkc17 hb6
    have f2 := tkf hb6 2; have f12 := tkf hb6 12; have f13 := tkf hb6 13; have f14 := tkf hb6 14; have f15 := tkf hb6 15; have f16 := tkf hb6 16; have f17 := tkf hb6 17
    have Hb6 := Lib.hid hb6
    clear hw6 hp6 hb6 r4 g4
    go_region
    obtain ⟨w7, hw7⟩ : ∃ w7, w7 = (((((((w6.setCell ⟨w2.heap.size, 2, none⟩ (.int .i64 1)).setCell ⟨w2.heap.size, 12, none⟩ (.int .i64 op)).setCell ⟨w2.heap.size, 13, none⟩ (.int .i64 x)).setCell ⟨w2.heap.size, 14, none⟩ (.int .i64 y)).setCell ⟨w2.heap.size, 15, none⟩ (.int .i64 z)).setCell ⟨w2.heap.size, 16, none⟩ (.slice none 0 0)).setCell ⟨w2.heap.size, 17, none⟩ (.bool df)).drew := ⟨_, rfl⟩
    rw [← hw7]
    have hb7 : w7.heap[w2.heap.size]? = some (.cells (tkD (parkT t op x y z) df).toArray 98 (0, 0)) := by rw [hw7, blk_drew]; exact (tkp17 (tkp16 (tkp15 (tkp14 (tkp13 (tkp12 (tkp2 Hb6.out _) _) _) _) _)) _)
    have Hf7 : Hid (Fr Nob w w7) := Lib.hid (by rw [hw7]; exact (Hf6.out.trans ((((((((Fr.refl (fun k => k = w2.heap.size) w6).setT 2 _).setT 12 _).setT 13 _).setT 14 _).setT 15 _).setT 16 _).setT 17 _) fun k hk e => by have := Hf2.out.size; omega).drew)
    have Hb7 := Lib.hid hb7
    have Hz7 := Lib.hid Hf2.out.size
    clear hw7 hb7 q0 q1 q2 q3 q4 q5 c2 c12 c13 c14 c15 c16 c17 f2 f12 f13 f14 f15 f16 f17
    have HS0 : Hid (w7.rangeAt w2.heap.size 0 (tkD (parkT t op x y z) df) ∧ w7.cell? ⟨b, 0, none⟩ = some (.pointer (some ⟨ab, 0, none⟩))) := ⟨rangeRow Hb7.out, blk_cell (Hf7.out.blk id Hb.out) 0 rfl⟩
    have hns : ¬ SA w2.heap.size := fun q => by have := H.out.lt _ (H.out.subA _ q).1; have := Hz7.out; omega
    have hu44 := Tryz.underlying98
    have hi44 : (Tryz.prog.info? 98).map (·.size) = some (tkD (parkT t op x y z) df).length := info_task18
    go_wp2_with fail
    refine wp_region_held_drew (S := fun W => W.rangeAt w2.heap.size 0 (tkD (parkT t op x y z) df) ∧ W.cell? ⟨b, 0, none⟩ = some (.pointer (some ⟨ab, 0, none⟩))) (by kernel_rfl) (by simpa using HS0.out) (fun hHeld => ?_)
    refine wpAnyH_take (i := 0) (v := ?_) rfl (by kernel_rfl) (by kernel_rfl) (by kernel_rfl) (fun _ _ _ h => h) (Or.inl ⟨by rfl, ?_⟩) (by assumption) ?_
    rotate_left
    · intro w hSw; (try dsimp only at hSw); go_simp; try with_reducible rfl
    try simp only [List.getElem_toArray, List.getElem_cons_zero, List.getElem_cons_succ, Act.put, List.setIfInBounds_toArray, List.set_cons_zero, List.set_cons_succ]
    refine wpAnyH_take (i := 1) (v := ?_) rfl (by kernel_rfl) (by kernel_rfl) (by kernel_rfl) (fun _ _ _ h => h) (Or.inl ⟨by rfl, ?_⟩) (by assumption) ?_
    rotate_left
    · intro w hSw; (try dsimp only at hSw); go_simp; try with_reducible rfl
    try simp only [List.getElem_toArray, List.getElem_cons_zero, List.getElem_cons_succ, Act.put, List.setIfInBounds_toArray, List.set_cons_zero, List.set_cons_succ]
    refine wpAnyH_take (i := 2) (v := ?_) rfl (by kernel_rfl) (by kernel_rfl) (by kernel_rfl) (fun _ _ _ h => h) (Or.inl ⟨by rfl, ?_⟩) (by assumption) ?_
    rotate_left
    · intro w hSw; (try dsimp only at hSw); go_simp; try with_reducible rfl
    try simp only [List.getElem_toArray, List.getElem_cons_zero, List.getElem_cons_succ, Act.put, List.setIfInBounds_toArray, List.set_cons_zero, List.set_cons_succ]
    refine wpAnyH_take (i := 3) (v := ?_) rfl (by kernel_rfl) (by kernel_rfl) (by kernel_rfl) (fun _ _ _ h => h) (Or.inl ⟨by rfl, ?_⟩) (by assumption) ?_
    rotate_left
    · intro w hSw; (try dsimp only at hSw); go_simp; try with_reducible rfl
    try simp only [List.getElem_toArray, List.getElem_cons_zero, List.getElem_cons_succ, Act.put, List.setIfInBounds_toArray, List.set_cons_zero, List.set_cons_succ]
    refine wpAnyH_take (i := 4) (v := ?_) rfl (by kernel_rfl) (by kernel_rfl) (by kernel_rfl) (fun _ _ _ h => h) (Or.inl ⟨by rfl, ?_⟩) (by assumption) ?_
    rotate_left
    · intro w hSw; (try dsimp only at hSw); go_simp; try with_reducible rfl
    try simp only [List.getElem_toArray, List.getElem_cons_zero, List.getElem_cons_succ, Act.put, List.setIfInBounds_toArray, List.set_cons_zero, List.set_cons_succ]
    refine wpAnyH_take (i := 5) (v := _) rfl (by kernel_rfl) (by kernel_rfl) (by kernel_rfl) (fun _ _ _ h => h) (yieldsIf_load_mid (by rfl) _ _ rfl (w2.heap.size) 0 rfl (tkD (parkT t op x y z) df) _ (fun w hw => hw.1) hu44 rfl hi44) (by assumption) ?_
    try simp only [List.getElem_toArray, List.getElem_cons_zero, List.getElem_cons_succ, Act.put, List.setIfInBounds_toArray, List.set_cons_zero, List.set_cons_succ]
    refine wpAnyH_ready (rs := [6]) (by kernel_rfl) (by simp) ?_
    refine AllReadyH.cons rfl (fun K hK => ?_) AllReadyH.nil
    simp only [List.getElem_toArray, List.getElem_cons_zero, List.getElem_cons_succ]
    go_simp
    refine (Hset.out w7.drew Hf7.out.drew).mono ?_
    rintro e w8 ⟨rfl, hf8, ht8⟩
    refine hK.out _ _ ⟨fun j v hj => hf8.cell (p := ⟨w2.heap.size, 0 + j, none⟩) hns (hHeld.1 j v hj), hf8.cell (p := ⟨b, 0, none⟩) (fun q => (H.out.subA _ q).2 rfl) hHeld.2⟩ (fun hHeld2 => ?_)
    refine wpAnyH_done (by kernel_rfl) ?_ _
    try simp only [List.getElem_toArray, List.getElem_cons_zero, List.getElem_cons_succ, Act.put, List.setIfInBounds_toArray, List.set_cons_zero, List.set_cons_succ]
    have Hf8 := Lib.hid (show Fr SA w7 w8 from ((Fr.refl SA w7).drew).trans0 hf8); have Ht8 := Lib.hid ht8
    have c1 := blk_cell ht8.blk 1 rfl
    clear hf8 ht8 hHeld hHeld2 hK K
    go_wp2_with fail
    refine (Hrem.out w8 _ Ht8.out).mono ?_
    rintro e w9 ⟨⟨r, rfl⟩, hf9, ht9⟩
    have Hf9 := Lib.hid hf9; have Ht9 := Lib.hid ht9
    clear hf9 ht9 c1
    go_wp2_with fail
    go_ret
    exact ⟨rfl, (Hf7.out.none.trans Hf8.out fun k hk q => (H.out.subA k q).1).trans Hf9.out fun k hk q => (H.out.subL k q).1, ab, lb, SA, SL, Ht9.out⟩)
end
/-- A task that waits no more. -/
def wakeT (t : Nat → Int) : Nat → Int := updT (updT (updT (updT (updT (updT t 1 (t 1 + 1)) 2 0) 12 0) 13 0) 14 0) 15 0
open Go.RowKit Go.Maps
theorem ikey : Keyed Tryz.prog 3 := int_keyed Tryz.underlying3
theorem izero (w : World) : (zeroValue 3).run Tryz.prog w = .ok (.int .i64 0) w := by kernel_rfl
theorem run_makeMap {P : Program} (t : TypeId) (w : World) : (Go.Instr.makeMap t none).run P w = .ok (.map (some w.heap.size)) (w.alloc (.map #[] 0)) := rfl
theorem wf_small {k : Int} (h : -9223372036854775808 ≤ k) (h2 : k ≤ 9223372036854775807) : (Lit.int .i64 k).wf = true := by
  simp only [Lit.wf, Bool.and_eq_true, decide_eq_true_eq]
  exact ⟨h, h2⟩
abbrev ikl (k : Int) : Lit := .int .i64 k
theorem ikeyOf {k : Int} (h : (Lit.int .i64 k).wf = true) : keyOf Tryz.prog 3 (.int .i64 k) = some (ikl k) := keyOf_int_mk Tryz.underlying3 h
/-- Block b is a map of at most n entries that reads as the function f. -/
def MapAt (w : World) (b n : Nat) (f : Int → Option Int) : Prop := ∃ D : DataW Unit, w.ownsMap Tryz.prog 3 (plainElem Tryz.prog 3) b n D ∧ ∀ k, Maps.has D (ikl k) = (f k).isSome ∧ D.atKey (ikl k) (.lit (.int .i64 0)) = .lit (.int .i64 ((f k).getD 0))
def fup (f : Int → Option Int) (k : Int) (v : Option Int) : Int → Option Int := fun j => if j = k then v else f j
theorem fup_same (f : Int → Option Int) (k : Int) (v : Option Int) : fup f k v k = v := if_pos rfl
theorem fup_ne (f : Int → Option Int) {k j : Int} (v : Option Int) (h : j ≠ k) : fup f k v j = f j := if_neg h
section
variable {w w' : World} {b n : Nat} {f : Int → Option Int}
theorem MapAt.lt (h : MapAt w b n f) : b < w.heap.size := by obtain ⟨D, h, _⟩ := h; exact h.lt
theorem MapAt.mono (h : MapAt w b n f) {m : Nat} (hm : n ≤ m) : MapAt w b m f := by obtain ⟨D, h, r⟩ := h; exact ⟨D, h.mono hm, r⟩
theorem MapAt.congr (h : MapAt w b n f) {g : Int → Option Int} (e : ∀ k, g k = f k) : MapAt w b n g := by
  obtain ⟨D, h, r⟩ := h
  exact ⟨D, h, fun k => by rw [e k]; exact r k⟩
theorem MapAt.made (w : World) : MapAt (w.alloc (.map #[] 0)) w.heap.size 0 (fun _ => none) :=
  ⟨_, World.ownsMap_made w _ _ _, fun k => ⟨rfl, rfl⟩⟩
theorem MapAt.fr (h : MapAt w b n f) {S : Nat → Prop} (hf : Fr S w w') (hb : ¬ S b) : MapAt w' b n f := by
  obtain ⟨D, ⟨es, clock, h1, h2⟩, r⟩ := h
  exact ⟨D, ⟨es, clock, hf.blk hb h1, h2⟩, r⟩
theorem MapAt.fr0 (h : MapAt w b n f) (hf : Fr Nob w w') : MapAt w' b n f := h.fr hf id
end
theorem ikl_ne {k j : Int} (h : j ≠ k) : ikl j ≠ ikl k := fun e => h (by simpa [ikl] using e)
section
variable {w : World} {ops : Array Oper} {rest : List Oper} {o : Oper} {a : Act} {Q : Exit → Act → World → Prop}
theorem map_look2 (hg : o.guard = none) (m x : Operand) (hop : o.op = Op.lookup 113 m x true) (b n : Nat) (f : Int → Option Int) (hm : a.eval m = .map (some b)) (h : MapAt w b n f) (k : Int) (hx : a.eval x = .int .i64 k) (hk : (Lit.int .i64 k).wf = true)
    (hK : wpList Tryz.prog ops Q rest (a.put o.dst (.tuple #[.int .i64 ((f k).getD 0), .bool (f k).isSome])) w) : wpList Tryz.prog ops Q (o :: rest) a w := by
  obtain ⟨D, hown, r⟩ := h
  refine wpList_lookup_own_ok_int w hg m x _ hop _ _ .i64 ikey Tryz.underlying113 Tryz.underlying3 (izero _) b n D hm hown _ _ hx (ikeyOf hk) fun c hat hwc => ?_
  rw [(r k).2] at hat
  rw [(r k).1]
  have : (f k).getD 0 = c := by simpa using hat
  rw [← this]
  exact hK
theorem map_put (hg : o.guard = none) (m x v : Operand) (hop : o.op = Op.mapUpdate 113 m x v) (b n : Nat) (f : Int → Option Int) (hm : a.eval m = .map (some b)) (h : MapAt w b n f) (hn : n < 1000000) (k y : Int) (hx : a.eval x = .int .i64 k) (hv : a.eval v = .int .i64 y) (hk : (Lit.int .i64 k).wf = true) (hy : (Lit.int .i64 y).wf = true)
    (hK : ∀ w', MapAt w' b (n + 1) (fup f k (some y)) → Fr (fun j => j = b) w w' → wpList Tryz.prog ops Q rest (a.put o.dst undef) w') : wpList Tryz.prog ops Q (o :: rest) a w := by
  obtain ⟨D, hown, r⟩ := h
  have hD := hown.isMap
  refine wpList_mapUpdate_own w hg m x v _ hop _ _ ikey Tryz.underlying113 _ b n D hm hown (by unfold maxLen; omega) _ _ _ hx hv (ikeyOf hk) _ [] (plainElem_int Tryz.underlying3 hy) fun w' hown' hgr => ?_
  refine hK w' ⟨_, hown', fun j => ?_⟩ ((Fr.refl _ w).grown hgr fun q e => .inl (by cases e; rfl))
  by_cases e : j = k
  · subst e
    rw [fup_same]
    exact ⟨Maps.has_put_same hD (ikey.key (ikeyOf hk)) _, Maps.atKey_put_same hD (ikey.key (ikeyOf hk)) _ _⟩
  · rw [fup_ne _ _ e, Maps.has_put_other (ikl_ne e), Maps.atKey_put_other (ikl_ne e)]
    exact r j
theorem map_del (hg : o.guard = none) (m x : Operand) (hop : o.op = Op.call { callee := Callee.builtin Builtin.delete, args := #[m, x], argTypes := #[113, 3] }) (b n : Nat) (f : Int → Option Int) (hm : a.eval m = .map (some b)) (h : MapAt w b n f) (k : Int) (hx : a.eval x = .int .i64 k) (hk : (Lit.int .i64 k).wf = true)
    (hK : ∀ w', MapAt w' b n (fup f k none) → Fr (fun j => j = b) w w' → wpList Tryz.prog ops Q rest (a.put o.dst (.tuple #[])) w') : wpList Tryz.prog ops Q (o :: rest) a w := by
  obtain ⟨D, hown, r⟩ := h
  refine wpList_delete_own w hg m x _ _ hop _ ikey Tryz.underlying113 _ b n D hm hown _ _ hx (ikeyOf hk) fun w' hown' htu => ?_
  refine hK w' ⟨_, hown', fun j => ?_⟩ ((Fr.refl _ w).grown htu.grown fun q e => .inl (by cases e; rfl))
  by_cases e : j = k
  · subst e
    rw [fup_same]
    exact ⟨Maps.has_del_same, Maps.atKey_del_same _⟩
  · rw [fup_ne _ _ e, Maps.has_del_other (ikl_ne e), Maps.atKey_del_other (ikl_ne e)]
    exact r j
end
/-- m[k] = v as one step of a region that draws. -/
theorem map_put_op {w : World} {o : Oper} {a : Act} {K : Act → World → Prop} {Q : Exit → Act → World → Prop} {E : Prop} {ops : Array Oper} (hg : o.guard = none) (m x v : Operand) (hop : o.op = Op.mapUpdate 113 m x v) (b n : Nat) (f : Int → Option Int) (hm : a.eval m = .map (some b)) (h : MapAt w b n f) (hn : n < 1000000) (k y : Int) (hx : a.eval x = .int .i64 k) (hv : a.eval v = .int .i64 y) (hk : (Lit.int .i64 k).wf = true) (hy : (Lit.int .i64 y).wf = true)
    (hK : ∀ w', MapAt w' b (n + 1) (fup f k (some y)) → Fr (fun j => j = b) w w' → K (a.put o.dst undef) w') : if Region.wanted o (yielded ops a.tmps) = true then Oper.wp Tryz.prog o a w K Q else E := by
  have hw : Region.wanted o (yielded ops a.tmps) = true := by simp [Region.wanted, hg]
  rw [if_pos hw]
  obtain ⟨D, hown, r⟩ := h
  have hD := hown.isMap
  obtain ⟨w', hrun, hown', hgr⟩ := hown.update ikey Tryz.underlying113 (by unfold maxLen; omega) (ikeyOf hk) (plainElem_int Tryz.underlying3 hy)
  unfold Oper.wp
  simp [execOp, hop, hm, hx, hv, hrun, Result.andThen]
  refine hK w' ⟨_, hown', fun j => ?_⟩ ((Fr.refl _ w).grown hgr fun q e => .inl (by cases e; rfl))
  by_cases e : j = k
  · subst e
    rw [fup_same]
    exact ⟨Maps.has_put_same hD (ikey.key (ikeyOf hk)) _, Maps.atKey_put_same hD (ikey.key (ikeyOf hk)) _ _⟩
  · rw [fup_ne _ _ e, Maps.has_put_other (ikl_ne e), Maps.atKey_put_other (ikl_ne e)]
    exact r j
/-- m[k] as an equation. -/
theorem MapAt.look {w : World} {b n : Nat} {f : Int → Option Int} (h : MapAt w b n f) (k : Int) (hk : (Lit.int .i64 k).wf = true) : (Go.Instr.lookup 113 (.map (some b)) (.int .i64 k) false).run Tryz.prog w = .ok (.int .i64 ((f k).getD 0)) w := by
  obtain ⟨D, hown, r⟩ := h
  obtain ⟨c, hrun, hat, hwc⟩ := hown.lookup_int ikey Tryz.underlying113 Tryz.underlying3 (izero w) (ikeyOf hk)
  rw [(r k).2] at hat
  have : (f k).getD 0 = c := by simpa using hat
  rw [hrun, this]
theorem MapAt.drew {w : World} {b n : Nat} {f : Int → Option Int} (h : MapAt w b n f) : MapAt w.drew b n f := h.fr0 (Fr.refl Nob w).drew
/-- delete(m, k) as one step of a region that draws. -/
theorem map_del_op {w : World} {o : Oper} {a : Act} {K : Act → World → Prop} {Q : Exit → Act → World → Prop} {E : Prop} {ops : Array Oper} (hg : o.guard = none) (m x : Operand) (hop : o.op = Op.call { callee := Callee.builtin Builtin.delete, args := #[m, x], argTypes := #[113, 3] }) (b n : Nat) (f : Int → Option Int) (hm : a.eval m = .map (some b)) (h : MapAt w b n f) (k : Int) (hx : a.eval x = .int .i64 k) (hk : (Lit.int .i64 k).wf = true)
    (hK : ∀ w', MapAt w' b n (fup f k none) → Fr (fun j => j = b) w w' → K (a.put o.dst (.tuple #[])) w') : if Region.wanted o (yielded ops a.tmps) = true then Oper.wp Tryz.prog o a w K Q else E := by
  have hw : Region.wanted o (yielded ops a.tmps) = true := by simp [Region.wanted, hg]
  rw [if_pos hw]
  obtain ⟨D, hown, r⟩ := h
  obtain ⟨w', hrun, hown', htu⟩ := hown.drop ikey Tryz.underlying113 (ikeyOf hk) o.type
  unfold Oper.wp
  simp [execOp, hop, resolve, invoke, builtin, hm, hx, hrun, Result.andThen]
  refine hK w' ⟨_, hown', fun j => ?_⟩ ((Fr.refl _ w).grown htu.grown fun q e => .inl (by cases e; rfl))
  by_cases e : j = k
  · subst e
    rw [fup_same]
    exact ⟨Maps.has_del_same, Maps.atKey_del_same _⟩
  · rw [fup_ne _ _ e, Maps.has_del_other (ikl_ne e), Maps.atKey_del_other (ikl_ne e)]
    exact r j
/-- One of a tree: its parent, and whether it hangs there. -/
abbrev Nd := Int × Bool
def hangs (ns : List Nd) (p : Int) (i : Nat) : Bool := match ns[i]? with
  | some x => x.2 && (x.1 == p)
  | none => false
def kidsN (ns : List Nd) (p : Int) : List Nat := (List.range ns.length).filter (hangs ns p)
def kids (ns : List Nd) (p : Int) : List Int := (kidsN ns p).map fun (i : Nat) => (i : Int)
/-- Parents come first; who hangs has one. -/
def TreeOk (ns : List Nd) : Prop := ∀ (i : Nat) (x : Nd), ns[i]? = some x → -1 ≤ x.1 ∧ x.1 < (i : Int) ∧ (x.2 = true → 0 ≤ x.1)
theorem hangs_iff (ns : List Nd) (p : Int) (i : Nat) : hangs ns p i = true ↔ ns[i]? = some (p, true) := by
  unfold hangs
  cases h : ns[i]? with
  | none => simp
  | some x =>
    obtain ⟨a, c⟩ := x
    simp
    constructor
    · rintro ⟨h1, h2⟩; exact ⟨h2, h1⟩
    · rintro ⟨h1, h2⟩; exact ⟨h2, h1⟩
theorem mem_kidsN (ns : List Nd) (p : Int) (i : Nat) : i ∈ kidsN ns p ↔ ns[i]? = some (p, true) := by
  unfold kidsN
  rw [List.mem_filter, hangs_iff, List.mem_range]
  constructor
  · exact fun h => h.2
  · intro h; exact ⟨(List.getElem?_eq_some_iff.1 h).1, h⟩
theorem kidsN_lt (ns : List Nd) (p : Int) (i : Nat) (h : i ∈ kidsN ns p) : i < ns.length := by
  have := (mem_kidsN ns p i).1 h
  exact (List.getElem?_eq_some_iff.1 this).1
theorem kidsN_gt (ns : List Nd) (ho : TreeOk ns) (p i : Nat) (h : i ∈ kidsN ns p) : p < i := by
  have := (mem_kidsN ns p i).1 h
  have := (ho i _ this).2.1
  simp at this; omega
theorem kidsN_sorted (ns : List Nd) (p : Int) : (kidsN ns p).Pairwise (· < ·) := List.Pairwise.filter _ List.pairwise_lt_range
theorem kidsN_out (ns : List Nd) (ho : TreeOk ns) (p : Nat) (h : ns.length ≤ p + 1) : kidsN ns p = [] := by
  rw [List.eq_nil_iff_forall_not_mem]
  intro i hi
  have h1 := kidsN_gt ns ho p i hi
  have h2 := kidsN_lt ns p i hi
  omega
/-! One more -/
theorem ok_snoc (ns : List Nd) (ho : TreeOk ns) (p : Int) (l : Bool) (h1 : -1 ≤ p) (h2 : p < ns.length) (h3 : l = true → 0 ≤ p) : TreeOk (ns ++ [(p, l)]) := by
  intro i x hx
  rw [List.getElem?_append] at hx
  split at hx
  · exact ho i x hx
  · next h =>
    have hi := (List.getElem?_eq_some_iff.1 hx).1
    simp at hi
    have : i = ns.length := by omega
    subst this
    simp at hx
    subst hx
    exact ⟨h1, h2, h3⟩
theorem kidsN_snoc (ns : List Nd) (p : Int) (l : Bool) (k : Nat) : kidsN (ns ++ [(p, l)]) k = kidsN ns k ++ if l && (p == (k : Int)) then [ns.length] else [] := by
  unfold kidsN
  rw [List.length_append, List.length_singleton, List.range_succ, List.filter_append]
  congr 1
  · apply List.filter_congr
    intro i hi
    have hi := List.mem_range.1 hi
    unfold hangs
    rw [List.getElem?_append_left hi]
  · have : hangs (ns ++ [(p, l)]) k ns.length = (l && (p == (k : Int))) := by simp [hangs]
    rw [List.filter_cons, this]
    rfl
theorem kids_snoc_no (ns : List Nd) (p : Int) (l : Bool) (k : Nat) (h : l = false ∨ p ≠ (k : Int)) : kids (ns ++ [(p, l)]) k = kids ns k := by
  unfold kids
  rw [kidsN_snoc]
  have : (l && (p == (k : Int))) = false := by rcases h with h | h <;> simp [h]
  rw [this]; simp
/-! One taken off -/
theorem ok_set (ns : List Nd) (ho : TreeOk ns) (i : Nat) (p : Int) (h : ns[i]? = some (p, true)) : TreeOk (ns.set i (p, false)) := by
  intro j x hx
  rw [List.getElem?_set] at hx
  split at hx
  · next e =>
    subst e
    split at hx
    · simp at hx; subst hx
      obtain ⟨h1, h2, h3⟩ := ho i _ h
      exact ⟨h1, h2, fun q => by simp at q⟩
    · simp at hx
  · exact ho j x hx
theorem hangs_set (ns : List Nd) (i : Nat) (p : Int) (k j : Nat) (hi : i < ns.length) : hangs (ns.set i (p, false)) k j = (hangs ns k j && (j != i)) := by
  unfold hangs
  rw [List.getElem?_set]
  by_cases e : i = j
  · subst e; simp [hi]
  · have : (j != i) = true := by simp; exact fun h => e h.symm
    rw [if_neg e, this, Bool.and_true]
theorem kidsN_set (ns : List Nd) (i : Nat) (p : Int) (k : Nat) (hi : i < ns.length) : kidsN (ns.set i (p, false)) k = (kidsN ns k).filter (· != i) := by
  unfold kidsN
  rw [List.length_set, List.filter_filter]
  apply List.filter_congr
  intro j _
  rw [hangs_set ns i p k j hi, Bool.and_comm]
theorem kids_set_ne (ns : List Nd) (i : Nat) (p : Int) (k : Nat) (h : ns[i]? = some (p, true)) (hk : p ≠ (k : Int)) : kids (ns.set i (p, false)) k = kids ns k := by
  unfold kids
  rw [kidsN_set ns i p k (List.getElem?_eq_some_iff.1 h).1, List.filter_eq_self.2]
  intro j hj
  have := (mem_kidsN ns k j).1 hj
  simp
  rintro rfl
  rw [h] at this
  simp at this
  exact hk this
theorem kids_set_eq (ns : List Nd) (i : Nat) (k : Nat) (h : ns[i]? = some ((k : Int), true)) : kids (ns.set i ((k : Int), false)) k = (kids ns k).erase (i : Int) := by
  have hnd : (kids ns k).Nodup := by
    unfold kids
    have := kidsN_sorted ns k
    unfold List.Nodup
    rw [List.pairwise_map]
    exact this.imp fun {a c} h => by omega
  rw [hnd.erase_eq_filter]
  unfold kids
  rw [kidsN_set ns i _ k (List.getElem?_eq_some_iff.1 h).1, List.filter_map]
  congr 1
  apply List.filter_congr
  intro j _
  show _ = ((j : Int) != (i : Int))
  by_cases e : j = i
  · subst e; simp
  · have : ¬ (j : Int) = i := by omega
    have h1 : (j == i) = false := by simp [e]
    have h2 : ((j : Int) == (i : Int)) = false := beq_eq_false_iff_ne.2 this
    simp only [bne, h1, h2]
theorem mem_kids (ns : List Nd) (i k : Nat) (h : ns[i]? = some ((k : Int), true)) : (i : Int) ∈ kids ns k := List.mem_map.2 ⟨i, (mem_kidsN ns k i).2 h, rfl⟩
/-! The walk -/
def walkF (ns : List Nd) : Nat → Nat → List Nat
  | 0, id => [id]
  | f + 1, id => id :: (kidsN ns id).flatMap (walkF ns f)
def walkN (ns : List Nd) (id : Nat) : List Nat := walkF ns (ns.length - id) id
/-- i hangs on k, by way of all between. -/
inductive Und (ns : List Nd) : Nat → Nat → Prop
  | refl (k) : Und ns k k
  | step {i p k : Nat} (h : ns[i]? = some ((p : Int), true)) (r : Und ns p k) : Und ns i k
theorem Und.trans {ns : List Nd} {a b c : Nat} (h : Und ns a b) (k : Und ns b c) : Und ns a c := by
  induction h with
  | refl => exact k
  | step h r ih => exact .step h (ih k)
theorem Und.lt {ns : List Nd} {i k : Nat} (h : Und ns i k) (hk : k < ns.length) : i < ns.length := by
  cases h with
  | refl => exact hk
  | step h r => exact (List.getElem?_eq_some_iff.1 h).1
def walk (ns : List Nd) (k : Nat) : List Int := (walkN ns k).map fun (i : Nat) => (i : Int)
/-- An event: its step, kind, task, and three numbers. -/
abbrev Ev := Int × Int × Int × Int × Int × Int
abbrev evEn (x : Ev) : List Value := [.int .i64 x.1, .int .i64 x.2.1, .int .i64 x.2.2.1, .int .i64 x.2.2.2.1, .int .i64 x.2.2.2.2.1, .int .i64 x.2.2.2.2.2]
abbrev evs (l : List Ev) : List Value := l.flatMap evEn
/-- What will be due: whose, when, in which order. -/
abbrev Hi := Int × Int × Int
def aheadI (x y : Hi) : Bool := decide (x.2.1 < y.2.1) || (x.2.1 == y.2.1 && decide (x.2.2 < y.2.2))
/-- Of at most two that will be due one more. -/
def heapAdd (l : List Hi) (x : Hi) : Option (List Hi) := match l with
  | [] => some [x]
  | [y] => some (if aheadI x y then [x, y] else [y, x])
  | _ => none
def heapHas (l : List Hi) (id : Int) : Bool := l.any fun y => y.1 == id
def heapDel (l : List Hi) (id : Int) : List Hi := l.filter fun y => !(y.1 == id)
def maxT : Int := 4611686018427387904
def nextT (t p now : Int) : Int := addT now (p - (now - t) % p)
abbrev delP (per : Int → Option Int) (k : Int) : Int → Option Int := fup per k none
abbrev putP (per : Int → Option Int) (k v : Int) : Int → Option Int := fup per k (some v)
/-- How a timer of a kind is due again. -/
def perOf (kind d : Int) : Int := if kind = 2 then min d maxT else 0
/-- The first one that is due is taken: it is due anew if it has a period. -/
def takeR (hp : List Hi) (seq : Nat) (per : Int → Option Int) (x : Hi) (now : Int) : Option (List Hi × Nat × (Int → Option Int)) :=
  if 1 ≤ (per x.1).getD 0 ∧ now < nextT x.2.1 ((per x.1).getD 0) now then
    match heapAdd (heapDel (heapDel hp x.1) x.1) (x.1, nextT x.2.1 ((per x.1).getD 0) now, ((seq + 1 : Nat) : Int)) with
    | none => none
    | some l => some (l, seq + 1, putP (delP per x.1) x.1 ((per x.1).getD 0))
  else some (heapDel hp x.1, seq, delP per x.1)
theorem Tryz.info_clone_evs : (Tryz.prog.info? 43).map (fun i => (i.zero, i.size, i.bytes)) = some (some (.agg #[.int .i64 0, .int .i64 0, .int .i64 0, .int .i64 0, .int .i64 0, .int .i64 0]), 6, 48) := by kernel_rfl
set_option maxHeartbeats 800000 in
theorem clone_evs (w : World) (v : Value) (cs : List Value) (n : Nat) (hb : n ≤ 1000000) (h : Rd w 6 v n cs) (h1 : ∀ u ∈ cs, u.oneCell' = true) :
    Calls Tryz.prog 31 #[v] w fun e w' => ∃ v', e = .returned v' ∧ Fr Nob w w' ∧ Sl w' (fun k => w.heap.size ≤ k ∧ k < w'.heap.size) 43 6 v' n cs := by
  obtain ⟨hl, _, A, c, rfl, hc1, hc2, hA⟩ := h
  cases A with
  | none =>
    obtain rfl : n = 0 := by
      rcases Nat.eq_zero_or_pos n with h | h
      · exact h
      · obtain ⟨g, o, h1, _⟩ := hA h; cases h1
    obtain rfl : cs = [] := List.eq_nil_of_length_eq_zero (by omega)
    have hk := fun w : World => Lib.run_eql_slice_nil (P := Tryz.prog) w 34 43 none 0 c 0 0 Tryz.underlying34
    clear hA h1
    go_enter Tryz.func31, Tryz.ntmps31
    go_wp2_with fail
    go_ret
    exact ⟨_, rfl, Fr.refl _ _, Sl.nil _ _ _ _⟩
  | some ad =>
    have hk := fun w : World => Lib.run_eql_slice_nil (P := Tryz.prog) w 34 43 (some ad) n c 0 0 Tryz.underlying34
    have hnews : ∀ j u, cs[j]? = some u → (w.alloc (.cells #[] 43)).cell? (ad.add j) = some u := fun j u hj => by
      have hjl := (List.getElem?_eq_some_iff.1 hj).1
      obtain ⟨g, o, h1, h2, h3⟩ := hA (by rcases Nat.eq_zero_or_pos n with e | e; subst e; omega; exact e)
      cases h1
      rw [Addr.add_lit]
      exact ((Fr.refl Nob w).alloc _).cell (p := ⟨g, o + j, none⟩) (fun q => q) (h3 j u hj)
    have h0 : Sl (w.alloc (.cells #[] 43)) (From w.heap.size) 43 6 (.slice (some ⟨w.heap.size, 0, none⟩) 0 0) 0 [] :=
      Sl.lit w 43 6 #[] 0 (From w.heap.size) (by simp [From]) (by simp [maxLen]) rfl
    have Hnews := Lib.hid hnews; have H0 := Lib.hid h0; have Hl := Lib.hid hl; have H1 := Lib.hid h1
    clear hA hnews h0 hl h1
    go_enter Tryz.func31, Tryz.ntmps31
    go_wp2_with (at_builtin; refine wpList_append_sl _ rfl _ _ _ rfl (From w.heap.size) 43 _ 6 48 Tryz.underlying34 Tryz.info_clone_evs rfl (by omega) (.slice (some ⟨w.heap.size, 0, none⟩) 0 0) 0 [] rfl H0.out ad n c cs rfl Hl.out Hnews.out H1.out (by unfold maxLen; omega) (by omega) ?_; intro v1 w1 hs1 hf1)
    obtain ⟨A1, c1, rfl⟩ := hs1.slice
    go_ret
    have hz := hf1.size
    simp at hz
    refine ⟨_, rfl, (((Fr.refl Nob w).alloc (.cells #[] 43)).none.trans0 hf1).mono fun k hk q => by unfold From at q; omega, ?_⟩
    rw [Nat.zero_add] at hs1 ⊢
    exact hs1.mono fun k hk q => by rcases q with q | q; exact ⟨q, hk⟩; simp at q; exact ⟨by omega, hk⟩
theorem Tryz.info_clone_ics : (Tryz.prog.info? 27).map (fun i => (i.zero, i.size, i.bytes)) = some (some (.agg #[.bool false, .int .i64 0, .int .i64 0]), 3, 24) := by kernel_rfl
set_option maxHeartbeats 800000 in
theorem clone_ics (w : World) (v : Value) (cs : List Value) (n : Nat) (hb : n ≤ 1000000) (h : Rd w 3 v n cs) (h1 : ∀ u ∈ cs, u.oneCell' = true) :
    Calls Tryz.prog 47 #[v] w fun e w' => ∃ v', e = .returned v' ∧ Fr Nob w w' ∧ Sl w' (fun k => w.heap.size ≤ k ∧ k < w'.heap.size) 27 3 v' n cs := by
  obtain ⟨hl, _, A, c, rfl, hc1, hc2, hA⟩ := h
  cases A with
  | none =>
    obtain rfl : n = 0 := by
      rcases Nat.eq_zero_or_pos n with h | h
      · exact h
      · obtain ⟨g, o, h1, _⟩ := hA h; cases h1
    obtain rfl : cs = [] := List.eq_nil_of_length_eq_zero (by omega)
    have hk := fun w : World => Lib.run_eql_slice_nil (P := Tryz.prog) w 23 27 none 0 c 0 0 Tryz.underlying23
    clear hA h1
    go_enter Tryz.func47, Tryz.ntmps47
    go_wp2_with fail
    go_ret
    exact ⟨_, rfl, Fr.refl _ _, Sl.nil _ _ _ _⟩
  | some ad =>
    have hk := fun w : World => Lib.run_eql_slice_nil (P := Tryz.prog) w 23 27 (some ad) n c 0 0 Tryz.underlying23
    have hnews : ∀ j u, cs[j]? = some u → (w.alloc (.cells #[] 27)).cell? (ad.add j) = some u := fun j u hj => by
      have hjl := (List.getElem?_eq_some_iff.1 hj).1
      obtain ⟨g, o, h1, h2, h3⟩ := hA (by rcases Nat.eq_zero_or_pos n with e | e; subst e; omega; exact e)
      cases h1
      rw [Addr.add_lit]
      exact ((Fr.refl Nob w).alloc _).cell (p := ⟨g, o + j, none⟩) (fun q => q) (h3 j u hj)
    have h0 : Sl (w.alloc (.cells #[] 27)) (From w.heap.size) 27 3 (.slice (some ⟨w.heap.size, 0, none⟩) 0 0) 0 [] :=
      Sl.lit w 27 3 #[] 0 (From w.heap.size) (by simp [From]) (by simp [maxLen]) rfl
    have Hnews := Lib.hid hnews; have H0 := Lib.hid h0; have Hl := Lib.hid hl; have H1 := Lib.hid h1
    clear hA hnews h0 hl h1
    go_enter Tryz.func47, Tryz.ntmps47
    go_wp2_with (at_builtin; refine wpList_append_sl _ rfl _ _ _ rfl (From w.heap.size) 27 _ 3 24 Tryz.underlying23 Tryz.info_clone_ics rfl (by omega) (.slice (some ⟨w.heap.size, 0, none⟩) 0 0) 0 [] rfl H0.out ad n c cs rfl Hl.out Hnews.out H1.out (by unfold maxLen; omega) (by omega) ?_; intro v1 w1 hs1 hf1)
    obtain ⟨A1, c1, rfl⟩ := hs1.slice
    go_ret
    have hz := hf1.size
    simp at hz
    refine ⟨_, rfl, (((Fr.refl Nob w).alloc (.cells #[] 27)).none.trans0 hf1).mono fun k hk q => by unfold From at q; omega, ?_⟩
    rw [Nat.zero_add] at hs1 ⊢
    exact hs1.mono fun k hk q => by rcases q with q | q; exact ⟨q, hk⟩; simp at q; exact ⟨by omega, hk⟩
theorem Tryz.info_clone_ins : (Tryz.prog.info? 25).map (fun i => (i.zero, i.size, i.bytes)) = some (some (.agg #[.int .i64 0, .int .i64 0, .int .i64 0, .int .i64 0, .slice none 0 0, .bool false]), 6, 64) := by kernel_rfl
set_option maxHeartbeats 800000 in
theorem clone_ins (w : World) (v : Value) (cs : List Value) (n : Nat) (hb : n ≤ 1000000) (h : Rd w 6 v n cs) (h1 : ∀ u ∈ cs, u.oneCell' = true) :
    Calls Tryz.prog 46 #[v] w fun e w' => ∃ v', e = .returned v' ∧ Fr Nob w w' ∧ Sl w' (fun k => w.heap.size ≤ k ∧ k < w'.heap.size) 25 6 v' n cs := by
  obtain ⟨hl, _, A, c, rfl, hc1, hc2, hA⟩ := h
  cases A with
  | none =>
    obtain rfl : n = 0 := by
      rcases Nat.eq_zero_or_pos n with h | h
      · exact h
      · obtain ⟨g, o, h1, _⟩ := hA h; cases h1
    obtain rfl : cs = [] := List.eq_nil_of_length_eq_zero (by omega)
    have hk := fun w : World => Lib.run_eql_slice_nil (P := Tryz.prog) w 28 25 none 0 c 0 0 Tryz.underlying28
    clear hA h1
    go_enter Tryz.func46, Tryz.ntmps46
    go_wp2_with fail
    go_ret
    exact ⟨_, rfl, Fr.refl _ _, Sl.nil _ _ _ _⟩
  | some ad =>
    have hk := fun w : World => Lib.run_eql_slice_nil (P := Tryz.prog) w 28 25 (some ad) n c 0 0 Tryz.underlying28
    have hnews : ∀ j u, cs[j]? = some u → (w.alloc (.cells #[] 25)).cell? (ad.add j) = some u := fun j u hj => by
      have hjl := (List.getElem?_eq_some_iff.1 hj).1
      obtain ⟨g, o, h1, h2, h3⟩ := hA (by rcases Nat.eq_zero_or_pos n with e | e; subst e; omega; exact e)
      cases h1
      rw [Addr.add_lit]
      exact ((Fr.refl Nob w).alloc _).cell (p := ⟨g, o + j, none⟩) (fun q => q) (h3 j u hj)
    have h0 : Sl (w.alloc (.cells #[] 25)) (From w.heap.size) 25 6 (.slice (some ⟨w.heap.size, 0, none⟩) 0 0) 0 [] :=
      Sl.lit w 25 6 #[] 0 (From w.heap.size) (by simp [From]) (by simp [maxLen]) rfl
    have Hnews := Lib.hid hnews; have H0 := Lib.hid h0; have Hl := Lib.hid hl; have H1 := Lib.hid h1
    clear hA hnews h0 hl h1
    go_enter Tryz.func46, Tryz.ntmps46
    go_wp2_with (at_builtin; refine wpList_append_sl _ rfl _ _ _ rfl (From w.heap.size) 25 _ 6 64 Tryz.underlying28 Tryz.info_clone_ins rfl (by omega) (.slice (some ⟨w.heap.size, 0, none⟩) 0 0) 0 [] rfl H0.out ad n c cs rfl Hl.out Hnews.out H1.out (by unfold maxLen; omega) (by omega) ?_; intro v1 w1 hs1 hf1)
    obtain ⟨A1, c1, rfl⟩ := hs1.slice
    go_ret
    have hz := hf1.size
    simp at hz
    refine ⟨_, rfl, (((Fr.refl Nob w).alloc (.cells #[] 25)).none.trans0 hf1).mono fun k hk q => by unfold From at q; omega, ?_⟩
    rw [Nat.zero_add] at hs1 ⊢
    exact hs1.mono fun k hk q => by rcases q with q | q; exact ⟨q, hk⟩; simp at q; exact ⟨by omega, hk⟩
theorem evs_one (l : List Ev) : ∀ u ∈ evs l, u.oneCell' = true := by
  intro u hu
  obtain ⟨x, _, hx⟩ := List.mem_flatMap.1 hu
  simp only [evEn, List.mem_cons, List.not_mem_nil, or_false] at hx
  rcases hx with rfl | rfl | rfl | rfl | rfl | rfl <;> rfl
end Go.Proofs.YtcffplgimbbflaaGreat
