/- What Park of a table does. -/
import Derived.Test.YteabiaoklpfbdaaTaskEnd
set_option linter.unusedVariables false
set_option linter.unusedSimpArgs false
namespace Go.Proofs.Yteabiaoklpfbdaa
open Go.RowKit
set_option maxRecDepth 100000
theorem rd_lit6 {w : World} {b : Nat} {x0 x1 x2 x3 x4 x5 : Value} {T : TypeId} (h : w.heap[b]? = some (.cells #[x0, x1, x2, x3, x4, x5] T (0, 0))) : Rd w 6 (.slice (some ⟨b, 0, none⟩) 1 1) 1 [x0, x1, x2, x3, x4, x5] :=
  ⟨rfl, by simp [maxLen], _, _, rfl, Nat.le_refl _, by simp [maxLen], fun _ => ⟨b, 0, rfl, lt_of_block h, fun j u hj => by rw [Nat.zero_add]; exact blk_cell h j (by simpa using hj)⟩⟩
theorem check_one (w : World) (b : Nat) (op a c e : Int) (d : Bool) (h : w.heap[b]? = some (.cells #[.int .i64 op, .int .i64 a, .int .i64 c, .int .i64 e, .slice none 0 0, .bool d] 34 (0, 0))) (hg : goodB ((op, a, c, e), .slice none 0 0, [], d) 1 = true) :
    Calls Try.prog 28 #[.slice (some ⟨b, 0, none⟩) 1 1] w fun e' w' => e' = .returned (.int .i64 0) ∧ Fr Nob w w' := by
  have := check_any w (.slice (some ⟨b, 0, none⟩) 1 1) [((op, a, c, e), .slice none 0 0, [], d)] 1 rfl (rd_lit6 h) (fun i hi => by simp at hi; subst hi; exact ⟨rfl, by simp [maxLen], none, 0, rfl, by simp, by simp [maxLen], fun h => absurd h (by simp)⟩)
  rw [show progB [((op, a, c, e), .slice none 0 0, [], d)] = true by simp only [progB, List.length_singleton, List.all_cons, List.all_nil, Bool.and_true]; rw [show ((1 : Nat) : Int) = 1 from rfl, hg]; rfl] at this
  exact this
def parkT (t : Nat → Int) (op a b c : Int) : Nat → Int := updT (updT (updT (updT (updT t 2 1) 12 op) 13 a) 14 b) 15 c
section
variable {w : World} {S : Nat → Prop} {b : Nat} {ts : List Tk} {line : List Int} (h : TableAt w S b ts line) (i : Nat) (t : Nat → Int) (d : Bool) (hi : ts[i]? = some (t, d)) (op x y z : Int) (df : Bool)
include h hi
set_option maxHeartbeats 2000000 in
theorem park_done (h2 : (t 2 == 0) = false) :
    Calls Try.prog 12 #[.pointer (some ⟨b, 0, none⟩), .int .i64 (i : Int), .agg #[.int .i64 op, .int .i64 x, .int .i64 y, .int .i64 z, .slice none 0 0, .bool df]] w fun e w' => e = .returned (.int .i64 8) ∧ Fr Nob w w' := by
  have His := Lib.hid (fun W (hW : Fr Nob w W) => is_runs (w := W) (S := S) (b := b) (ts := ts) (line := line) (by obtain ⟨ab, lb, SA, SL, h⟩ := h; exact ⟨ab, lb, SA, SL, h.fr0 hW⟩) i t d hi false (fun W => by have := so_runs W (t 2); rw [h2] at this; exact this) 8 rfl)
  clear h hi h2
  go_enter Try.func12, Try.ntmps12
  go_wp2_with fail
  refine (His.out _ ((Fr.refl _ _).alloc _)).mono ?_
  rintro e w2 ⟨rfl, hf2⟩
  have Hf2 := Lib.hid (((Fr.refl Nob w).alloc _).trans0 hf2)
  clear hf2
  have hzn : (w2.alloc (.cells tkZ.toArray 44)).heap[w2.heap.size]? = some (.cells tkZ.toArray 44 (0, 0)) := heap_alloc_new _ _
  unfold tkZ at hzn
  dsimp only [tkL] at hzn
  go_wp2_with (refine wpList_store_row _ rfl 44 (.tmp 7) (.tmp 13) rfl w2.heap.size (tkD t d).toArray _ 44 rfl rfl hzn rfl (info18 t d) (tkD_all t d) ?_; intro w3 hb3 hf3; have Hb3 := Lib.hid hb3; have Hf3 := Lib.hid hf3; clear hb3 hf3)
  go_ret
  exact ⟨rfl, Hf2.out.trans0 (((Fr.refl Nob w2).alloc _).trans Hf3.out fun k hk e => by omega)⟩
set_option maxHeartbeats 2000000 in
theorem park_bad (h2 : (t 2 == 0) = true) (h10 : (op != 10) = true) (h11 : (op != 11) = true) (h15 : (op != 15) = true) :
    Calls Try.prog 12 #[.pointer (some ⟨b, 0, none⟩), .int .i64 (i : Int), .agg #[.int .i64 op, .int .i64 x, .int .i64 y, .int .i64 z, .slice none 0 0, .bool df]] w fun e w' => e = .returned (.int .i64 1) ∧ Fr Nob w w' := by
  have His := Lib.hid (fun W (hW : Fr Nob w W) => is_runs (w := W) (S := S) (b := b) (ts := ts) (line := line) (by obtain ⟨ab, lb, SA, SL, h⟩ := h; exact ⟨ab, lb, SA, SL, h.fr0 hW⟩) i t d hi true (fun W => by have := so_runs W (t 2); rw [h2] at this; exact this) 0 rfl)
  clear h hi h2
  go_enter Try.func12, Try.ntmps12
  go_wp2_with fail
  obtain ⟨w1, hw1⟩ : ∃ w1, w1 = w.alloc (.cells #[.int .i64 op, .int .i64 x, .int .i64 y, .int .i64 z, .slice none 0 0, .bool df] 34) := ⟨_, rfl⟩
  rw [← hw1]
  obtain ⟨pb, hpb⟩ : ∃ pb, pb = w.heap.size := ⟨_, rfl⟩
  rw [← hpb]
  have hf1 : Fr Nob w w1 := by rw [hw1]; exact (Fr.refl Nob w).alloc _
  have hp1 : w1.heap[pb]? = some (.cells #[.int .i64 op, .int .i64 x, .int .i64 y, .int .i64 z, .slice none 0 0, .bool df] 34 (0, 0)) := by rw [hw1, hpb]; exact heap_alloc_new _ _
  clear hw1 hpb
  refine (His.out w1 hf1).mono ?_
  rintro e w2 ⟨rfl, hf2⟩
  have hp2 := hf2.blk id hp1
  have Hp2 := Lib.hid hp2
  have Hf2 := Lib.hid (hf1.trans0 hf2)
  have hpz := lt_of_block hp2
  clear hf2 hp1 hf1 hp2
  have hzn : (w2.alloc (.cells tkZ.toArray 44)).heap[w2.heap.size]? = some (.cells tkZ.toArray 44 (0, 0)) := heap_alloc_new _ _
  unfold tkZ at hzn
  dsimp only [tkL] at hzn
  go_wp2_with (refine wpList_store_row _ rfl 44 (.tmp 7) (.tmp 13) rfl w2.heap.size (tkD t d).toArray _ 44 rfl rfl hzn rfl (info18 t d) (tkD_all t d) ?_; intro w3 hb3 hf3; have hp3 := hf3.blk (k := pb) (fun e => by omega) (((Fr.refl Nob w2).alloc _).blk id Hp2.out); have q0 := blk_cell hp3 0 rfl; have Hb3 := Lib.hid hb3; have Hf3 := Lib.hid hf3; clear hb3 hf3 hp3)
  go_ret
  exact ⟨rfl, Hf2.out.trans0 (((Fr.refl Nob w2).alloc _).trans Hf3.out fun k hk e => by omega)⟩
set_option maxHeartbeats 4000000 in
theorem park_ok (h2 : (t 2 == 0) = true) (hop : op = 10 ∨ op = 11 ∨ op = 15) (hg : goodB ((op, x, y, z), .slice none 0 0, [], df) 1 = true) :
    Calls Try.prog 12 #[.pointer (some ⟨b, 0, none⟩), .int .i64 (i : Int), .agg #[.int .i64 op, .int .i64 x, .int .i64 y, .int .i64 z, .slice none 0 0, .bool df]] w fun e w' => e = .returned (.int .i64 0) ∧ Fr S w w' ∧ TableAt w' S b (ts.set i (parkT t op x y z, df)) (line.erase (i : Int)) := by
  have His := Lib.hid (fun W (hW : Fr Nob w W) => is_runs (w := W) (S := S) (b := b) (ts := ts) (line := line) (by obtain ⟨ab, lb, SA, SL, h⟩ := h; exact ⟨ab, lb, SA, SL, h.fr0 hW⟩) i t d hi true (fun W => by have := so_runs W (t 2); rw [h2] at this; exact this) 0 rfl)
  obtain ⟨ab, lb, SA, SL, h⟩ := h
  have hset := fun W (hW : Fr Nob w W) => (h.fr0 hW).set i (List.getElem?_eq_some_iff.1 hi).1 (parkT t op x y z, df)
  have hrem : ∀ W ts', TabAt W S b ab lb SA SL ts' line → Calls Try.prog 31 #[.pointer (some ⟨lb, 0, none⟩), .int .i64 (i : Int)] W fun e w' => (∃ r, e = .returned (.bool r)) ∧ Fr SL W w' ∧ TabAt w' S b ab lb SA SL ts' (line.erase (i : Int)) := fun W ts' hW => by
    by_cases hm : (i : Int) ∈ line
    · exact (ready_remove W SL lb line i hW.ready hm).mono fun e w' ⟨he, hf, hr⟩ => ⟨⟨_, he⟩, hf, hW.setL hf hr⟩
    · rw [List.erase_of_not_mem hm]
      exact (ready_remove_no W SL lb line i hW.ready hm).mono fun e w' ⟨he, hf⟩ => ⟨⟨_, he⟩, hf.none, hW.fr0 hf⟩
  have hb := h.blk
  have hck := fun W b' hb' => check_one W b' op x y z df hb' hg
  have Hset := Lib.hid hset; have Hrem := Lib.hid hrem; have Hb := Lib.hid hb; have H := Lib.hid h; have Hck := Lib.hid hck; have Hcl := Lib.hid (fun W => clone_nil W)
  clear hset hrem hb h hi h2 hck hg
  have hops : (op != 10) = false ∨ (op != 10) = true ∧ (op != 11) = false ∨ (op != 10) = true ∧ (op != 11) = true ∧ (op != 15) = false := by
    rcases hop with rfl | rfl | rfl
    · left; rfl
    · right; left; exact ⟨rfl, rfl⟩
    · right; right; exact ⟨rfl, rfl, rfl⟩
  clear hop
  go_enter Try.func12, Try.ntmps12
  go_wp2_with fail
  obtain ⟨w1, hw1⟩ : ∃ w1, w1 = w.alloc (.cells #[.int .i64 op, .int .i64 x, .int .i64 y, .int .i64 z, .slice none 0 0, .bool df] 34) := ⟨_, rfl⟩
  rw [← hw1]
  obtain ⟨pb, hpb⟩ : ∃ pb, pb = w.heap.size := ⟨_, rfl⟩
  rw [← hpb]
  have hf1 : Fr Nob w w1 := by rw [hw1]; exact (Fr.refl Nob w).alloc _
  have hp1 : w1.heap[pb]? = some (.cells #[.int .i64 op, .int .i64 x, .int .i64 y, .int .i64 z, .slice none 0 0, .bool df] 34 (0, 0)) := by rw [hw1, hpb]; exact heap_alloc_new _ _
  have Hpb : Hid (w.heap.size = pb) := hpb.symm
  clear hw1 hpb
  refine (His.out w1 hf1).mono ?_
  rintro e w2 ⟨rfl, hf2⟩
  have hp2 := hf2.blk id hp1
  have Hp2 := Lib.hid hp2
  have Hf2 := Lib.hid (hf1.trans0 hf2)
  have hpz := lt_of_block hp2
  clear hf2 hp1 hf1 hp2
  have hzn : (w2.alloc (.cells tkZ.toArray 44)).heap[w2.heap.size]? = some (.cells tkZ.toArray 44 (0, 0)) := heap_alloc_new _ _
  unfold tkZ at hzn
  dsimp only [tkL] at hzn
  rcases hops with h10 | ⟨h10, h11⟩ | ⟨h10, h11, h15⟩
  all_goals (
    go_wp2_with (refine wpList_store_row _ rfl 44 (.tmp 7) (.tmp 13) rfl w2.heap.size (tkD t d).toArray _ 44 rfl rfl hzn rfl (info18 t d) (tkD_all t d) ?_; intro w3 hb3 hf3; have hp3 := hf3.blk (k := pb) (fun e => by omega) (((Fr.refl Nob w2).alloc _).blk id Hp2.out); have q0 := blk_cell hp3 0 rfl; have q1 := blk_cell hp3 1 rfl; have q2 := blk_cell hp3 2 rfl; have q3 := blk_cell hp3 3 rfl; have q4 := blk_cell hp3 4 rfl; have q5 := blk_cell hp3 5 rfl; have Hb3 := Lib.hid hb3; have Hf3 := Lib.hid hf3; have Hp3 := Lib.hid hp3; clear hb3 hf3 hp3)
    obtain ⟨w4, hw4⟩ : ∃ w4, w4 = w3.alloc (.cells #[.int .i64 op, .int .i64 x, .int .i64 y, .int .i64 z, .slice none 0 0, .bool df] 34) := ⟨_, rfl⟩
    rw [← hw4]
    have hf34 : Fr Nob w3 w4 := by rw [hw4]; exact (Fr.refl Nob w3).alloc _
    have hi4 : w4.heap[w3.heap.size]? = some (.cells #[.int .i64 op, .int .i64 x, .int .i64 y, .int .i64 z, .slice none 0 0, .bool df] 34 (0, 0)) := by rw [hw4]; exact heap_alloc_new _ _
    refine (Hck.out w4 _ hi4).mono ?_
    rintro e w5 ⟨rfl, hf5⟩
    have hf35 : Fr Nob w3 w5 := hf34.trans0 hf5
    have Hb5 := Lib.hid (hf35.blk id Hb3.out); have Hp5 := Lib.hid (hf35.blk id Hp3.out)
    have hf23 : Fr Nob w2 w3 := ((Fr.refl Nob w2).alloc _).trans Hf3.out fun k hk e => by omega
    have Hf5 := Lib.hid (Hf2.out.trans0 (hf23.trans0 hf35))
    have r4 := blk_cell Hp5.out 4 rfl
    have g4 := blk_froz Hp5.out 4
    clear hw4 hf34 hi4 hf5 hf35 hf23 q0 q1 q2 q3 q4 q5 hzn
    go_wp2_with fail
    refine (Hcl.out w5).mono ?_
    rintro e _ ⟨rfl, rfl⟩
    go_wp2_with fail
    obtain ⟨w6, hw6⟩ : ∃ w6, w6 = w5.setCell ⟨pb, 4, none⟩ (.slice none 0 0) := ⟨_, rfl⟩
    rw [← hw6]
    have hp6 : w6.heap[pb]? = some (.cells #[.int .i64 op, .int .i64 x, .int .i64 y, .int .i64 z, .slice none 0 0, .bool df] 34 (0, 0)) := by rw [hw6]; exact blk_set Hp5.out 4 _
    have hb6 : w6.heap[w2.heap.size]? = some (.cells (tkD t d).toArray 44 (0, 0)) := by rw [hw6]; exact (blk_set_ne 4 _ (by omega)).trans Hb5.out
    have Hf6 : Hid (Fr Nob w w6) := Lib.hid (by rw [hw6]; exact Hf5.out.trans ((Fr.refl (fun k => k = pb) w5).setT 4 _) fun k hk e => by have := Hpb.out; omega)
    have q0 := blk_cell hp6 0 rfl
    have q1 := blk_cell hp6 1 rfl
    have q2 := blk_cell hp6 2 rfl
    have q3 := blk_cell hp6 3 rfl
    have q4 := blk_cell hp6 4 rfl
    have q5 := blk_cell hp6 5 rfl
    have c2 := tkc2 hb6; have c12 := tkc12 hb6; have c13 := tkc13 hb6; have c14 := tkc14 hb6; have c15 := tkc15 hb6; have c16 := tkc16 hb6; have c17 := tkc17 hb6
    have f2 := tkf hb6 2; have f12 := tkf hb6 12; have f13 := tkf hb6 13; have f14 := tkf hb6 14; have f15 := tkf hb6 15; have f16 := tkf hb6 16; have f17 := tkf hb6 17
    have Hb6 := Lib.hid hb6
    clear hw6 hp6 hb6 r4 g4
    go_region
    obtain ⟨w7, hw7⟩ : ∃ w7, w7 = (((((((w6.setCell ⟨w2.heap.size, 2, none⟩ (.int .i64 1)).setCell ⟨w2.heap.size, 12, none⟩ (.int .i64 op)).setCell ⟨w2.heap.size, 13, none⟩ (.int .i64 x)).setCell ⟨w2.heap.size, 14, none⟩ (.int .i64 y)).setCell ⟨w2.heap.size, 15, none⟩ (.int .i64 z)).setCell ⟨w2.heap.size, 16, none⟩ (.slice none 0 0)).setCell ⟨w2.heap.size, 17, none⟩ (.bool df)).drew := ⟨_, rfl⟩
    rw [← hw7]
    have hb7 : w7.heap[w2.heap.size]? = some (.cells (tkD (parkT t op x y z) df).toArray 44 (0, 0)) := by rw [hw7, blk_drew]; exact (tkp17 (tkp16 (tkp15 (tkp14 (tkp13 (tkp12 (tkp2 Hb6.out _) _) _) _) _)) _)
    have Hf7 : Hid (Fr Nob w w7) := Lib.hid (by rw [hw7]; exact (Hf6.out.trans ((((((((Fr.refl (fun k => k = w2.heap.size) w6).setT 2 _).setT 12 _).setT 13 _).setT 14 _).setT 15 _).setT 16 _).setT 17 _) fun k hk e => by have := Hf2.out.size; omega).drew)
    have Hb7 := Lib.hid hb7
    have Hz7 := Lib.hid Hf2.out.size
    clear hw7 hb7 q0 q1 q2 q3 q4 q5 c2 c12 c13 c14 c15 c16 c17 f2 f12 f13 f14 f15 f16 f17
    have HS0 : Hid (w7.rangeAt w2.heap.size 0 (tkD (parkT t op x y z) df) ∧ w7.cell? ⟨b, 0, none⟩ = some (.pointer (some ⟨ab, 0, none⟩))) := ⟨rangeRow Hb7.out, blk_cell (Hf7.out.blk id Hb.out) 0 rfl⟩
    have hns : ¬ SA w2.heap.size := fun q => by have := H.out.lt _ (H.out.subA _ q).1; have := Hz7.out; omega
    have hu44 := Try.underlying44
    have hi44 : (Try.prog.info? 44).map (·.size) = some (tkD (parkT t op x y z) df).length := info_task18
    go_wp2_with fail
    refine wp_region_held_drew (S := fun W => W.rangeAt w2.heap.size 0 (tkD (parkT t op x y z) df) ∧ W.cell? ⟨b, 0, none⟩ = some (.pointer (some ⟨ab, 0, none⟩))) (by kernel_rfl) (by simpa using HS0.out) (fun hHeld => ?_)
    refine wpAnyH_take (i := 0) (v := ?_) rfl (by kernel_rfl) (by kernel_rfl) (by kernel_rfl) (fun _ _ _ h => h) (Or.inl ⟨by rfl, ?_⟩) (by assumption) ?_
    rotate_left
    · intro w hSw; (try dsimp only at hSw); go_simp; try with_reducible rfl
    try simp only [List.getElem_toArray, List.getElem_cons_zero, List.getElem_cons_succ, Act.put, List.setIfInBounds_toArray, List.set_cons_zero, List.set_cons_succ]
    refine wpAnyH_take (i := 1) (v := ?_) rfl (by kernel_rfl) (by kernel_rfl) (by kernel_rfl) (fun _ _ _ h => h) (Or.inl ⟨by rfl, ?_⟩) (by assumption) ?_
    rotate_left
    · intro w hSw; (try dsimp only at hSw); go_simp; try with_reducible rfl
    try simp only [List.getElem_toArray, List.getElem_cons_zero, List.getElem_cons_succ, Act.put, List.setIfInBounds_toArray, List.set_cons_zero, List.set_cons_succ]
    refine wpAnyH_take (i := 2) (v := ?_) rfl (by kernel_rfl) (by kernel_rfl) (by kernel_rfl) (fun _ _ _ h => h) (Or.inl ⟨by rfl, ?_⟩) (by assumption) ?_
    rotate_left
    · intro w hSw; (try dsimp only at hSw); go_simp; try with_reducible rfl
    try simp only [List.getElem_toArray, List.getElem_cons_zero, List.getElem_cons_succ, Act.put, List.setIfInBounds_toArray, List.set_cons_zero, List.set_cons_succ]
    refine wpAnyH_take (i := 3) (v := ?_) rfl (by kernel_rfl) (by kernel_rfl) (by kernel_rfl) (fun _ _ _ h => h) (Or.inl ⟨by rfl, ?_⟩) (by assumption) ?_
    rotate_left
    · intro w hSw; (try dsimp only at hSw); go_simp; try with_reducible rfl
    try simp only [List.getElem_toArray, List.getElem_cons_zero, List.getElem_cons_succ, Act.put, List.setIfInBounds_toArray, List.set_cons_zero, List.set_cons_succ]
    refine wpAnyH_take (i := 4) (v := ?_) rfl (by kernel_rfl) (by kernel_rfl) (by kernel_rfl) (fun _ _ _ h => h) (Or.inl ⟨by rfl, ?_⟩) (by assumption) ?_
    rotate_left
    · intro w hSw; (try dsimp only at hSw); go_simp; try with_reducible rfl
    try simp only [List.getElem_toArray, List.getElem_cons_zero, List.getElem_cons_succ, Act.put, List.setIfInBounds_toArray, List.set_cons_zero, List.set_cons_succ]
    refine wpAnyH_take (i := 5) (v := _) rfl (by kernel_rfl) (by kernel_rfl) (by kernel_rfl) (fun _ _ _ h => h) (yieldsIf_load_mid (by rfl) _ _ rfl (w2.heap.size) 0 rfl (tkD (parkT t op x y z) df) _ (fun w hw => hw.1) hu44 rfl hi44) (by assumption) ?_
    try simp only [List.getElem_toArray, List.getElem_cons_zero, List.getElem_cons_succ, Act.put, List.setIfInBounds_toArray, List.set_cons_zero, List.set_cons_succ]
    refine wpAnyH_ready (rs := [6]) (by kernel_rfl) (by simp) ?_
    refine AllReadyH.cons rfl (fun K hK => ?_) AllReadyH.nil
    simp only [List.getElem_toArray, List.getElem_cons_zero, List.getElem_cons_succ]
    go_simp
    refine (Hset.out w7.drew Hf7.out.drew).mono ?_
    rintro e w8 ⟨rfl, hf8, ht8⟩
    refine hK.out _ _ ⟨fun j v hj => hf8.cell (p := ⟨w2.heap.size, 0 + j, none⟩) hns (hHeld.1 j v hj), hf8.cell (p := ⟨b, 0, none⟩) (fun q => (H.out.subA _ q).2 rfl) hHeld.2⟩ (fun hHeld2 => ?_)
    refine wpAnyH_done (by kernel_rfl) ?_ _
    try simp only [List.getElem_toArray, List.getElem_cons_zero, List.getElem_cons_succ, Act.put, List.setIfInBounds_toArray, List.set_cons_zero, List.set_cons_succ]
    have Hf8 := Lib.hid (show Fr SA w7 w8 from ((Fr.refl SA w7).drew).trans0 hf8); have Ht8 := Lib.hid ht8
    have c1 := blk_cell ht8.blk 1 rfl
    clear hf8 ht8 hHeld hHeld2 hK K
    go_wp2_with fail
    refine (Hrem.out w8 _ Ht8.out).mono ?_
    rintro e w9 ⟨⟨r, rfl⟩, hf9, ht9⟩
    have Hf9 := Lib.hid hf9; have Ht9 := Lib.hid ht9
    clear hf9 ht9 c1
    go_wp2_with fail
    go_ret
    exact ⟨rfl, (Hf7.out.none.trans Hf8.out fun k hk q => (H.out.subA k q).1).trans Hf9.out fun k hk q => (H.out.subL k q).1, ab, lb, SA, SL, Ht9.out⟩)
end
end Go.Proofs.Yteabiaoklpfbdaa
