/- TopTimes answers true whatever its inputs are: no condition. -/
import Derived.Test.YtcffplgimbbflaaGreatTmQ7
set_option linter.unusedVariables false
set_option linter.unusedSimpArgs false
namespace Go.Proofs.YtcffplgimbbflaaGreat
open Go.RowKit
set_option maxRecDepth 100000
theorem rd_lit6 {w : World} {b : Nat} {x0 x1 x2 x3 x4 x5 : Value} {T : TypeId} (h : w.heap[b]? = some (.cells #[x0, x1, x2, x3, x4, x5] T (0, 0))) : Rd w 6 (.slice (some ⟨b, 0, none⟩) 1 1) 1 [x0, x1, x2, x3, x4, x5] :=
  ⟨rfl, by simp [maxLen], _, _, rfl, Nat.le_refl _, by simp [maxLen], fun _ => ⟨b, 0, rfl, lt_of_block h, fun j u hj => by rw [Nat.zero_add]; exact blk_cell h j (by simpa using hj)⟩⟩
theorem check_one (w : World) (b : Nat) (op a c e : Int) (d : Bool) (h : w.heap[b]? = some (.cells #[.int .i64 op, .int .i64 a, .int .i64 c, .int .i64 e, .slice none 0 0, .bool d] 25 (0, 0))) (hg : goodB ((op, a, c, e), .slice none 0 0, [], d) 1 = true) :
    Calls Tryz.prog 37 #[.slice (some ⟨b, 0, none⟩) 1 1] w fun e' w' => e' = .returned (.int .i64 0) ∧ Fr Nob w w' := by
  have := check_any w (.slice (some ⟨b, 0, none⟩) 1 1) [((op, a, c, e), .slice none 0 0, [], d)] 1 rfl (rd_lit6 h) (fun i hi => by simp at hi; subst hi; exact ⟨rfl, by simp [maxLen], none, 0, rfl, by simp, by simp [maxLen], fun h => absurd h (by simp)⟩)
  rw [show progB [((op, a, c, e), .slice none 0 0, [], d)] = true by simp only [progB, List.length_singleton, List.all_cons, List.all_nil, Bool.and_true]; rw [show ((1 : Nat) : Int) = 1 from rfl, hg]; rfl] at this
  exact this
def parkT (t : Nat → Int) (op a b c : Int) : Nat → Int := updT (updT (updT (updT (updT t 2 1) 12 op) 13 a) 14 b) 15 c
section
variable {w : World} {S : Nat → Prop} {b : Nat} {ts : List Tk} {line : List Int} (h : TableAt w S b ts line) (i : Nat) (t : Nat → Int) (d : Bool) (hi : ts[i]? = some (t, d, .slice none 0 0)) (op x y z : Int) (df : Bool)
include h hi
set_option maxHeartbeats 4000000 in
theorem park_ok (h2 : (t 2 == 0) = true) (hop : op = 10 ∨ op = 11 ∨ op = 15) (hg : goodB ((op, x, y, z), .slice none 0 0, [], df) 1 = true) :
    Calls Tryz.prog 61 #[.pointer (some ⟨b, 0, none⟩), .int .i64 (i : Int), .agg #[.int .i64 op, .int .i64 x, .int .i64 y, .int .i64 z, .slice none 0 0, .bool df]] w fun e w' => e = .returned (.int .i64 0) ∧ Fr S w w' ∧ TableAt w' S b (ts.set i (parkT t op x y z, df, .slice none 0 0)) (line.erase (i : Int)) := by
  have His := Lib.hid (fun W (hW : Fr Nob w W) => is_runs (w := W) (S := S) (b := b) (ts := ts) (line := line) (by obtain ⟨ab, lb, SA, SL, h⟩ := h; exact ⟨ab, lb, SA, SL, h.fr0 hW⟩) i t d hi true (fun W => by have := so_runs W (t 2); rw [h2] at this; exact this) 0 rfl)
  obtain ⟨ab, lb, SA, SL, h⟩ := h
  have hset := fun W (hW : Fr Nob w W) => (h.fr0 hW).set i (List.getElem?_eq_some_iff.1 hi).1 (parkT t op x y z, df, .slice none 0 0) (tkD_one _ _)
  have hrem : ∀ W ts', TabAt W S b ab lb SA SL ts' line → Calls Tryz.prog 101 #[.pointer (some ⟨lb, 0, none⟩), .int .i64 (i : Int)] W fun e w' => (∃ r, e = .returned (.bool r)) ∧ Fr SL W w' ∧ TabAt w' S b ab lb SA SL ts' (line.erase (i : Int)) := fun W ts' hW => by
    by_cases hm : (i : Int) ∈ line
    · exact (ready_remove W SL lb line i hW.ready hm).mono fun e w' ⟨he, hf, hr⟩ => ⟨⟨_, he⟩, hf, hW.setL hf hr⟩
    · rw [List.erase_of_not_mem hm]
      exact (ready_remove_no W SL lb line i hW.ready hm).mono fun e w' ⟨he, hf⟩ => ⟨⟨_, he⟩, hf.none, hW.fr0 hf⟩
  have hb := h.blk
  have hck := fun W b' hb' => check_one W b' op x y z df hb' hg
  have Hset := Lib.hid hset; have Hrem := Lib.hid hrem; have Hb := Lib.hid hb; have H := Lib.hid h; have Hck := Lib.hid hck; have Hcl := Lib.hid (fun W => clone_nil W)
  clear hset hrem hb h hi h2 hck hg
  have hops : (op != 10) = false ∨ (op != 10) = true ∧ (op != 11) = false ∨ (op != 10) = true ∧ (op != 11) = true ∧ (op != 15) = false := by
    rcases hop with rfl | rfl | rfl
    · left; rfl
    · right; left; exact ⟨rfl, rfl⟩
    · right; right; exact ⟨rfl, rfl, rfl⟩
  clear hop
  go_enter Tryz.func61, Tryz.ntmps61
  go_wp2_with fail
  obtain ⟨w1, hw1⟩ : ∃ w1, w1 = w.alloc (.cells #[.int .i64 op, .int .i64 x, .int .i64 y, .int .i64 z, .slice none 0 0, .bool df] 25) := ⟨_, rfl⟩
  rw [← hw1]
  obtain ⟨pb, hpb⟩ : ∃ pb, pb = w.heap.size := ⟨_, rfl⟩
  rw [← hpb]
  have hf1 : Fr Nob w w1 := by rw [hw1]; exact (Fr.refl Nob w).alloc _
  have hp1 : w1.heap[pb]? = some (.cells #[.int .i64 op, .int .i64 x, .int .i64 y, .int .i64 z, .slice none 0 0, .bool df] 25 (0, 0)) := by rw [hw1, hpb]; exact heap_alloc_new _ _
  have Hpb : Hid (w.heap.size = pb) := hpb.symm
  clear hw1 hpb
  refine (His.out w1 hf1).mono ?_
  rintro e w2 ⟨rfl, hf2⟩
  have hp2 := hf2.blk id hp1
  have Hp2 := Lib.hid hp2
  have Hf2 := Lib.hid (hf1.trans0 hf2)
  have hpz := lt_of_block hp2
  clear hf2 hp1 hf1 hp2
  have hzn : (w2.alloc (.cells tkZ.toArray 98)).heap[w2.heap.size]? = some (.cells tkZ.toArray 98 (0, 0)) := heap_alloc_new _ _
  unfold tkZ at hzn
  dsimp only [tkL] at hzn
  rcases hops with h10 | ⟨h10, h11⟩ | ⟨h10, h11, h15⟩
  all_goals (
    go_wp2_with (refine wpList_store_row _ rfl 98 (.tmp 7) (.tmp 13) rfl w2.heap.size (tkD t d).toArray _ 98 rfl rfl hzn rfl (info18 t d) (tkD_all t d) ?_; intro w3 hb3 hf3; have hp3 := hf3.blk (k := pb) (fun e => by omega) (((Fr.refl Nob w2).alloc _).blk id Hp2.out); have q0 := blk_cell hp3 0 rfl; have q1 := blk_cell hp3 1 rfl; have q2 := blk_cell hp3 2 rfl; have q3 := blk_cell hp3 3 rfl; have q4 := blk_cell hp3 4 rfl; have q5 := blk_cell hp3 5 rfl; have Hb3 := Lib.hid hb3; have Hf3 := Lib.hid hf3; have Hp3 := Lib.hid hp3; clear hb3 hf3 hp3)
    obtain ⟨w4, hw4⟩ : ∃ w4, w4 = w3.alloc (.cells #[.int .i64 op, .int .i64 x, .int .i64 y, .int .i64 z, .slice none 0 0, .bool df] 25) := ⟨_, rfl⟩
    rw [← hw4]
    have hf34 : Fr Nob w3 w4 := by rw [hw4]; exact (Fr.refl Nob w3).alloc _
    have hi4 : w4.heap[w3.heap.size]? = some (.cells #[.int .i64 op, .int .i64 x, .int .i64 y, .int .i64 z, .slice none 0 0, .bool df] 25 (0, 0)) := by rw [hw4]; exact heap_alloc_new _ _
    refine (Hck.out w4 _ hi4).mono ?_
    rintro e w5 ⟨rfl, hf5⟩
    have hf35 : Fr Nob w3 w5 := hf34.trans0 hf5
    have Hb5 := Lib.hid (hf35.blk id Hb3.out); have Hp5 := Lib.hid (hf35.blk id Hp3.out)
    have hf23 : Fr Nob w2 w3 := ((Fr.refl Nob w2).alloc _).trans Hf3.out fun k hk e => by omega
    have Hf5 := Lib.hid (Hf2.out.trans0 (hf23.trans0 hf35))
    have r4 := blk_cell Hp5.out 4 rfl
    have g4 := blk_froz Hp5.out 4
    clear hw4 hf34 hi4 hf5 hf35 hf23 q0 q1 q2 q3 q4 q5 hzn
    go_wp2_with fail
    refine (Hcl.out w5).mono ?_
    rintro e _ ⟨rfl, rfl⟩
    go_wp2_with fail
    obtain ⟨w6, hw6⟩ : ∃ w6, w6 = w5.setCell ⟨pb, 4, none⟩ (.slice none 0 0) := ⟨_, rfl⟩
    rw [← hw6]
    have hp6 : w6.heap[pb]? = some (.cells #[.int .i64 op, .int .i64 x, .int .i64 y, .int .i64 z, .slice none 0 0, .bool df] 25 (0, 0)) := by rw [hw6]; exact blk_set Hp5.out 4 _
    have hb6 : w6.heap[w2.heap.size]? = some (.cells (tkD t d).toArray 98 (0, 0)) := by rw [hw6]; exact (blk_set_ne 4 _ (by omega)).trans Hb5.out
    have Hf6 : Hid (Fr Nob w w6) := Lib.hid (by rw [hw6]; exact Hf5.out.trans ((Fr.refl (fun k => k = pb) w5).setT 4 _) fun k hk e => by have := Hpb.out; omega)
    have q0 := blk_cell hp6 0 rfl
    have q1 := blk_cell hp6 1 rfl
    have q2 := blk_cell hp6 2 rfl
    have q3 := blk_cell hp6 3 rfl
    have q4 := blk_cell hp6 4 rfl
    have q5 := blk_cell hp6 5 rfl
    have c2 := tkc2 hb6; have c12 := tkc12 hb6; have c13 := tkc13 hb6; have c14 := tkc14 hb6; have c15 := tkc15 hb6; have c16 := tkc16 hb6; have c17 := tkc17 hb6
    have f2 := tkf hb6 2; have f12 := tkf hb6 12; have f13 := tkf hb6 13; have f14 := tkf hb6 14; have f15 := tkf hb6 15; have f16 := tkf hb6 16; have f17 := tkf hb6 17
    have Hb6 := Lib.hid hb6
    clear hw6 hp6 hb6 r4 g4
    go_region
    obtain ⟨w7, hw7⟩ : ∃ w7, w7 = (((((((w6.setCell ⟨w2.heap.size, 2, none⟩ (.int .i64 1)).setCell ⟨w2.heap.size, 12, none⟩ (.int .i64 op)).setCell ⟨w2.heap.size, 13, none⟩ (.int .i64 x)).setCell ⟨w2.heap.size, 14, none⟩ (.int .i64 y)).setCell ⟨w2.heap.size, 15, none⟩ (.int .i64 z)).setCell ⟨w2.heap.size, 16, none⟩ (.slice none 0 0)).setCell ⟨w2.heap.size, 17, none⟩ (.bool df)).drew := ⟨_, rfl⟩
    rw [← hw7]
    have hb7 : w7.heap[w2.heap.size]? = some (.cells (tkD (parkT t op x y z) df).toArray 98 (0, 0)) := by rw [hw7, blk_drew]; exact (tkp17 (tkp16 (tkp15 (tkp14 (tkp13 (tkp12 (tkp2 Hb6.out _) _) _) _) _)) _)
    have Hf7 : Hid (Fr Nob w w7) := Lib.hid (by rw [hw7]; exact (Hf6.out.trans ((((((((Fr.refl (fun k => k = w2.heap.size) w6).setT 2 _).setT 12 _).setT 13 _).setT 14 _).setT 15 _).setT 16 _).setT 17 _) fun k hk e => by have := Hf2.out.size; omega).drew)
    have Hb7 := Lib.hid hb7
    have Hz7 := Lib.hid Hf2.out.size
    clear hw7 hb7 q0 q1 q2 q3 q4 q5 c2 c12 c13 c14 c15 c16 c17 f2 f12 f13 f14 f15 f16 f17
    have HS0 : Hid (w7.rangeAt w2.heap.size 0 (tkD (parkT t op x y z) df) ∧ w7.cell? ⟨b, 0, none⟩ = some (.pointer (some ⟨ab, 0, none⟩))) := ⟨rangeRow Hb7.out, blk_cell (Hf7.out.blk id Hb.out) 0 rfl⟩
    have hns : ¬ SA w2.heap.size := fun q => by have := H.out.lt _ (H.out.subA _ q).1; have := Hz7.out; omega
    have hu44 := Tryz.underlying98
    have hi44 : (Tryz.prog.info? 98).map (·.size) = some (tkD (parkT t op x y z) df).length := info_task18
    go_wp2_with fail
    refine wp_region_held_drew (S := fun W => W.rangeAt w2.heap.size 0 (tkD (parkT t op x y z) df) ∧ W.cell? ⟨b, 0, none⟩ = some (.pointer (some ⟨ab, 0, none⟩))) (by kernel_rfl) (by simpa using HS0.out) (fun hHeld => ?_)
    refine wpAnyH_take (i := 0) (v := ?_) rfl (by kernel_rfl) (by kernel_rfl) (by kernel_rfl) (fun _ _ _ h => h) (Or.inl ⟨by rfl, ?_⟩) (by assumption) ?_
    rotate_left
    · intro w hSw; (try dsimp only at hSw); go_simp; try with_reducible rfl
    try simp only [List.getElem_toArray, List.getElem_cons_zero, List.getElem_cons_succ, Act.put, List.setIfInBounds_toArray, List.set_cons_zero, List.set_cons_succ]
    refine wpAnyH_take (i := 1) (v := ?_) rfl (by kernel_rfl) (by kernel_rfl) (by kernel_rfl) (fun _ _ _ h => h) (Or.inl ⟨by rfl, ?_⟩) (by assumption) ?_
    rotate_left
    · intro w hSw; (try dsimp only at hSw); go_simp; try with_reducible rfl
    try simp only [List.getElem_toArray, List.getElem_cons_zero, List.getElem_cons_succ, Act.put, List.setIfInBounds_toArray, List.set_cons_zero, List.set_cons_succ]
    refine wpAnyH_take (i := 2) (v := ?_) rfl (by kernel_rfl) (by kernel_rfl) (by kernel_rfl) (fun _ _ _ h => h) (Or.inl ⟨by rfl, ?_⟩) (by assumption) ?_
    rotate_left
    · intro w hSw; (try dsimp only at hSw); go_simp; try with_reducible rfl
    try simp only [List.getElem_toArray, List.getElem_cons_zero, List.getElem_cons_succ, Act.put, List.setIfInBounds_toArray, List.set_cons_zero, List.set_cons_succ]
    refine wpAnyH_take (i := 3) (v := ?_) rfl (by kernel_rfl) (by kernel_rfl) (by kernel_rfl) (fun _ _ _ h => h) (Or.inl ⟨by rfl, ?_⟩) (by assumption) ?_
    rotate_left
    · intro w hSw; (try dsimp only at hSw); go_simp; try with_reducible rfl
    try simp only [List.getElem_toArray, List.getElem_cons_zero, List.getElem_cons_succ, Act.put, List.setIfInBounds_toArray, List.set_cons_zero, List.set_cons_succ]
    refine wpAnyH_take (i := 4) (v := ?_) rfl (by kernel_rfl) (by kernel_rfl) (by kernel_rfl) (fun _ _ _ h => h) (Or.inl ⟨by rfl, ?_⟩) (by assumption) ?_
    rotate_left
    · intro w hSw; (try dsimp only at hSw); go_simp; try with_reducible rfl
    try simp only [List.getElem_toArray, List.getElem_cons_zero, List.getElem_cons_succ, Act.put, List.setIfInBounds_toArray, List.set_cons_zero, List.set_cons_succ]
    refine wpAnyH_take (i := 5) (v := _) rfl (by kernel_rfl) (by kernel_rfl) (by kernel_rfl) (fun _ _ _ h => h) (yieldsIf_load_mid (by rfl) _ _ rfl (w2.heap.size) 0 rfl (tkD (parkT t op x y z) df) _ (fun w hw => hw.1) hu44 rfl hi44) (by assumption) ?_
    try simp only [List.getElem_toArray, List.getElem_cons_zero, List.getElem_cons_succ, Act.put, List.setIfInBounds_toArray, List.set_cons_zero, List.set_cons_succ]
    refine wpAnyH_ready (rs := [6]) (by kernel_rfl) (by simp) ?_
    refine AllReadyH.cons rfl (fun K hK => ?_) AllReadyH.nil
    simp only [List.getElem_toArray, List.getElem_cons_zero, List.getElem_cons_succ]
    go_simp
    refine (Hset.out w7.drew Hf7.out.drew).mono ?_
    rintro e w8 ⟨rfl, hf8, ht8⟩
    refine hK.out _ _ ⟨fun j v hj => hf8.cell (p := ⟨w2.heap.size, 0 + j, none⟩) hns (hHeld.1 j v hj), hf8.cell (p := ⟨b, 0, none⟩) (fun q => (H.out.subA _ q).2 rfl) hHeld.2⟩ (fun hHeld2 => ?_)
    refine wpAnyH_done (by kernel_rfl) ?_ _
    try simp only [List.getElem_toArray, List.getElem_cons_zero, List.getElem_cons_succ, Act.put, List.setIfInBounds_toArray, List.set_cons_zero, List.set_cons_succ]
    have Hf8 := Lib.hid (show Fr SA w7 w8 from ((Fr.refl SA w7).drew).trans0 hf8); have Ht8 := Lib.hid ht8
    have c1 := blk_cell ht8.blk 1 rfl
    clear hf8 ht8 hHeld hHeld2 hK K
    go_wp2_with fail
    refine (Hrem.out w8 _ Ht8.out).mono ?_
    rintro e w9 ⟨⟨r, rfl⟩, hf9, ht9⟩
    have Hf9 := Lib.hid hf9; have Ht9 := Lib.hid ht9
    clear hf9 ht9 c1
    go_wp2_with fail
    go_ret
    exact ⟨rfl, (Hf7.out.none.trans Hf8.out fun k hk q => (H.out.subA k q).1).trans Hf9.out fun k hk q => (H.out.subL k q).1, ab, lb, SA, SL, Ht9.out⟩)
end
/-- A task that waits no more. -/
def wakeT (t : Nat → Int) : Nat → Int := updT (updT (updT (updT (updT (updT t 1 (t 1 + 1)) 2 0) 12 0) 13 0) 14 0) 15 0
/-- What told does of a wake. -/
def ToldP (t : Nat → Int) (d : Bool) (i k v : Int) (ok : Bool) (t' : Nat → Int) : Prop := ∀ W (tb : Nat), W.heap[tb]? = some (.cells (tkD t d).toArray 98 (0, 0)) → Calls Tryz.prog 167 #[.pointer (some ⟨tb, 0, none⟩), .agg #[.int .i64 i, .int .i64 k, .int .i64 v, .bool ok, .bool false]] W fun e w' => e = .returned (.tuple #[]) ∧ Fr (fun q => q = tb) W w' ∧ w'.heap[tb]? = some (.cells (tkD t' d).toArray 98 (0, 0))
section
variable {w : World} {S : Nat → Prop} {b : Nat} {ts : List Tk} {line : List Int} (h : TableAt w S b ts line) (i : Nat) (t : Nat → Int) (d : Bool) (hi : ts[i]? = some (t, d, .slice none 0 0)) (k v : Int) (ok : Bool)
include h hi
set_option maxHeartbeats 2000000 in
theorem wake_ok (h2 : (t 2 == 1) = true) (t' : Nat → Int) (ht : ToldP t d i k v ok t') (hpc : IntKind.i64.wrap (t' 1 + 1) = t' 1 + 1) (hline : (i : Int) ∉ line) (hll : line.length < 100000) :
    Calls Tryz.prog 124 #[.pointer (some ⟨b, 0, none⟩), .agg #[.int .i64 (i : Int), .int .i64 k, .int .i64 v, .bool ok, .bool false]] w fun e w' => ∃ S' : Nat → Prop, e = .returned (.int .i64 0) ∧ Fr S w w' ∧ TableAt w' S' b (ts.set i (wakeT t', false, .slice none 0 0)) (line ++ [(i : Int)]) ∧ ∀ k, S' k → S k ∨ w.heap.size ≤ k := by
  have His := Lib.hid (fun W (hW : Fr Nob w W) => is_wakes (w := W) (S := S) (b := b) (ts := ts) (line := line) (by obtain ⟨ab, lb, SA, SL, h⟩ := h; exact ⟨ab, lb, SA, SL, h.fr0 hW⟩) i t d hi true (fun W => by have := so_wakes W (t 2); rw [h2] at this; exact this) 0 rfl)
  obtain ⟨ab, lb, SA, SL, h⟩ := h
  have hlen := (List.getElem?_eq_some_iff.1 hi).1
  have hset := fun W S' SL' (hW : TabAt W S' b ab lb SA SL' ts (line ++ [(i : Int)])) => hW.set i hlen (wakeT t', false, .slice none 0 0) (tkD_one _ _)
  have hrd : ∀ W SL' , ReadyAt W SL' lb line → Calls Tryz.prog 49 #[.pointer (some ⟨lb, 0, none⟩), .int .i64 (i : Int)] W fun e w' => e = .returned (.int .i64 0) ∧ Fr SL' W w' ∧ ReadyAt w' (And' SL' W w') lb (line ++ [(i : Int)]) := fun W SL' hr => ready_add W SL' lb line (i : Int) hr (by omega) hline hll
  have hb := h.blk
  have Hset := Lib.hid hset; have Hrd := Lib.hid hrd; have Ht := Lib.hid ht; have Hb := Lib.hid hb; have H := Lib.hid h; have Hpc := Lib.hid hpc
  clear hset hrd ht hb h hi h2 hline hll hlen hpc
  go_enter Tryz.func124, Tryz.ntmps124
  go_wp2_with fail
  obtain ⟨w1, hw1⟩ : ∃ w1, w1 = w.alloc (.cells #[.int .i64 (i : Int), .int .i64 k, .int .i64 v, .bool ok, .bool false] 225) := ⟨_, rfl⟩
  rw [← hw1]
  obtain ⟨pb, hpb⟩ : ∃ pb, pb = w.heap.size := ⟨_, rfl⟩
  rw [← hpb]
  have hf1 : Fr Nob w w1 := by rw [hw1]; exact (Fr.refl Nob w).alloc _
  have hp1 : w1.heap[pb]? = some (.cells #[.int .i64 (i : Int), .int .i64 k, .int .i64 v, .bool ok, .bool false] 225 (0, 0)) := by rw [hw1, hpb]; exact heap_alloc_new _ _
  have Hpb : Hid (w.heap.size = pb) := hpb.symm
  clear hw1 hpb
  refine (His.out w1 hf1).mono ?_
  rintro e w2 ⟨rfl, hf2⟩
  have hp2 := hf2.blk id hp1
  have Hp2 := Lib.hid hp2
  have Hf2 := Lib.hid (hf1.trans0 hf2)
  have hpz := lt_of_block hp2
  clear hf2 hp1 hf1 hp2
  have hzn : (w2.alloc (.cells tkZ.toArray 98)).heap[w2.heap.size]? = some (.cells tkZ.toArray 98 (0, 0)) := heap_alloc_new _ _
  unfold tkZ at hzn
  dsimp only [tkL] at hzn
  go_wp2_with (refine wpList_store_row _ rfl 98 (.tmp 5) (.tmp 12) rfl w2.heap.size (tkD t d).toArray _ 98 rfl rfl hzn rfl (info18 t d) (tkD_all t d) ?_; intro w3 hb3 hf3; have hp3 := hf3.blk (k := pb) (fun e => by omega) (((Fr.refl Nob w2).alloc _).blk id Hp2.out); have q0 := blk_cell hp3 0 rfl; have q1 := blk_cell hp3 1 rfl; have q2 := blk_cell hp3 2 rfl; have q3 := blk_cell hp3 3 rfl; have q4 := blk_cell hp3 4 rfl; have Hb3 := Lib.hid hb3; have Hf3 := Lib.hid hf3; have Hp3 := Lib.hid hp3; clear hb3 hf3 hp3)
  refine (Ht.out w3 _ Hb3.out).mono ?_
  rintro e w4 ⟨rfl, hf4, hb4⟩
  have hp4 := hf4.blk (k := pb) (fun e => by omega) Hp3.out
  have c1 := tkc1 hb4
  have f1 := tkf hb4 1
  have c2 := tkc2 hb4
  have f2 := tkf hb4 2
  have Hb4 := Lib.hid hb4; have Hf4 := Lib.hid hf4; have Hp4 := Lib.hid hp4
  have hpc := Hpc.out
  clear hb4 hf4 hp4 q0 q1 q2 q3 q4 hzn
  go_wp2_with fail
  obtain ⟨w5, hw5⟩ : ∃ w5, w5 = (w4.setCell ⟨w2.heap.size, 1, none⟩ (.int .i64 (t' 1 + 1))).setCell ⟨w2.heap.size, 2, none⟩ (.int .i64 0) := ⟨_, rfl⟩
  rw [← hw5]
  have hb5 : w5.heap[w2.heap.size]? = some (.cells (tkD (updT (updT t' 1 (t' 1 + 1)) 2 0) d).toArray 98 (0, 0)) := by rw [hw5]; exact tkp2 (tkp1 Hb4.out _) _
  have hf45 : Fr (fun k => k = w2.heap.size) w4 w5 := by rw [hw5]; exact ((Fr.refl (fun k => k = w2.heap.size) w4).setT 1 _).setT 2 _
  have hp5 := hf45.blk (k := pb) (by omega) Hp4.out
  have hf25 : Fr Nob w2 w5 := ((((Fr.refl Nob w2).alloc _).trans Hf3.out fun k hk e => by omega).trans Hf4.out fun k hk e => by omega).trans hf45 fun k hk e => by omega
  have hf5 := Hf2.out.trans0 hf25
  have HT5 := Lib.hid (H.out.fr0 hf5)
  have hns : ∀ k, S k → k ≠ w2.heap.size ∧ k ≠ pb := fun k q => by have := H.out.lt _ q; have := Hpb.out; have := Hf2.out.size; omega
  have Hns := Lib.hid hns
  have key : ∀ W, Fr SL w5 W → W.cell? ⟨b, 1, none⟩ = some (.pointer (some ⟨lb, 0, none⟩)) ∧ W.cell? ⟨pb, 0, none⟩ = some (.int .i64 (i : Int)) := fun W hW => ⟨blk_cell (hW.blk (fun q => (HT5.out.subL _ q).2.1 rfl) HT5.out.blk) 1 rfl, blk_cell (hW.blk (fun q => (hns _ (HT5.out.subL _ q).1).2 rfl) hp5) 0 rfl⟩
  have Key := Lib.hid key
  have Hf5 := Lib.hid hf5; have Hb5 := Lib.hid hb5; have Hp5 := Lib.hid hp5
  clear hw5 hb5 hf45 hp5 hf25 hf5 key c1 f1 c2 f2 hpc hns
  have hf0 : Fr SL w5 w5 := Fr.refl _ _
  go_region_held3 (fun W => W.cell? ⟨b, 1, none⟩ = some (.pointer (some ⟨lb, 0, none⟩)) ∧ W.cell? ⟨pb, 0, none⟩ = some (.int .i64 (i : Int)))
    ((refine Key.out _ ?_; first | with_reducible exact hf6 | with_reducible exact hf0 | exact hf0.drew))
    ((go_at_call 49; refine (Hrd.out w5.drew SL (HT5.out.ready.fr ((Fr.refl Nob w5).drew) fun _ _ q => q)).mono ?_; rintro e w6 ⟨rfl, hf6', hr6⟩; have hf6 : Fr SL w5 w6 := (hf0.drew).trans0 hf6'; have Hr6 := Lib.hid hr6; clear hr6))
  have HT6 := Lib.hid (TabAt.growL (H.out.fr0 (Hf5.out.drew)) hf6' Hr6.out)
  have hb6 := hf6.blk (k := w2.heap.size) (fun q => (Hns.out _ (HT5.out.subL _ q).1).1 rfl) Hb5.out
  have hp6 := hf6.blk (k := pb) (fun q => (Hns.out _ (HT5.out.subL _ q).1).2 rfl) Hp5.out
  have c12 := tkc12 hb6; have f12 := tkf hb6 12; have c13 := tkc13 hb6; have f13 := tkf hb6 13; have c14 := tkc14 hb6; have f14 := tkf hb6 14; have c15 := tkc15 hb6; have f15 := tkf hb6 15; have c16 := tkc16 hb6; have f16 := tkf hb6 16; have c17 := tkc17 hb6; have f17 := tkf hb6 17
  have Hb6 := Lib.hid hb6; have Hp6 := Lib.hid hp6; have Hf6 := Lib.hid hf6
  have Hz6 := Lib.hid hf6'.size
  clear hb6 hp6 hf6 hf6' hf0
  go_wp2_with fail
  obtain ⟨w7, hw7⟩ : ∃ w7, w7 = ((((((w6.setCell ⟨w2.heap.size, 12, none⟩ (.int .i64 0)).setCell ⟨w2.heap.size, 13, none⟩ (.int .i64 0)).setCell ⟨w2.heap.size, 14, none⟩ (.int .i64 0)).setCell ⟨w2.heap.size, 15, none⟩ (.int .i64 0)).setCell ⟨w2.heap.size, 16, none⟩ (.slice none 0 0)).setCell ⟨w2.heap.size, 17, none⟩ (.bool false)) := ⟨_, rfl⟩
  rw [← hw7]
  have hb7 : w7.heap[w2.heap.size]? = some (.cells (tkD (wakeT t') false).toArray 98 (0, 0)) := by rw [hw7]; exact tkp17 (tkp16 (tkp15 (tkp14 (tkp13 (tkp12 Hb6.out _) _) _) _)) _
  have hf67 : Fr (fun k => k = w2.heap.size) w6 w7 := by rw [hw7]; exact ((((((Fr.refl (fun k => k = w2.heap.size) w6).setT 12 _).setT 13 _).setT 14 _).setT 15 _).setT 16 _).setT 17 _
  have hp7 := hf67.blk (k := pb) (by omega) Hp6.out
  have hz2 := Hf2.out.size; have hz5 := lt_of_block Hb5.out; have hpb := Hpb.out
  have HT7 := Lib.hid (HT6.out.fr hf67 (fun k q e => by rcases q with q | q; exact (Hns.out _ q).1 e; have := q.1; simp at this; omega))
  have HS0 : Hid (w7.rangeAt w2.heap.size 0 (tkD (wakeT t') false) ∧ w7.cell? ⟨b, 0, none⟩ = some (.pointer (some ⟨ab, 0, none⟩)) ∧ w7.cell? ⟨pb, 0, none⟩ = some (.int .i64 (i : Int))) := ⟨rangeRow hb7, blk_cell HT7.out.blk 0 rfl, blk_cell hp7 0 rfl⟩
  have Hf67 := Lib.hid hf67
  clear hw7 hb7 hf67 hp7 hz2 hz5 hpb c12 c13 c14 c15 c16 c17 f12 f13 f14 f15 f16 f17
  have hns : ¬ SA w2.heap.size := fun q => (Hns.out _ (H.out.subA _ q).1).1 rfl
  have hnp : ¬ SA pb := fun q => (Hns.out _ (H.out.subA _ q).1).2 rfl
  have hnb : ¬ SA b := fun q => (H.out.subA _ q).2 rfl
  have hu44 := Tryz.underlying98
  have hi44 : (Tryz.prog.info? 98).map (·.size) = some (tkD (wakeT t') false).length := info_task18
  refine wp_region_held_drew (S := fun W => W.rangeAt w2.heap.size 0 (tkD (wakeT t') false) ∧ W.cell? ⟨b, 0, none⟩ = some (.pointer (some ⟨ab, 0, none⟩)) ∧ W.cell? ⟨pb, 0, none⟩ = some (.int .i64 (i : Int))) (by kernel_rfl) (by simpa using HS0.out) (fun hHeld => ?_)
  refine wpAnyH_take (i := 0) (v := ?_) rfl (by kernel_rfl) (by kernel_rfl) (by kernel_rfl) (fun _ _ _ h => h) (Or.inl ⟨by rfl, ?_⟩) (by assumption) ?_
  rotate_left
  · intro w hSw; (try dsimp only at hSw); go_simp; try with_reducible rfl
  try simp only [List.getElem_toArray, List.getElem_cons_zero, List.getElem_cons_succ, Act.put, List.setIfInBounds_toArray, List.set_cons_zero, List.set_cons_succ]
  refine wpAnyH_take (i := 1) (v := ?_) rfl (by kernel_rfl) (by kernel_rfl) (by kernel_rfl) (fun _ _ _ h => h) (Or.inl ⟨by rfl, ?_⟩) (by assumption) ?_
  rotate_left
  · intro w hSw; (try dsimp only at hSw); go_simp; try with_reducible rfl
  try simp only [List.getElem_toArray, List.getElem_cons_zero, List.getElem_cons_succ, Act.put, List.setIfInBounds_toArray, List.set_cons_zero, List.set_cons_succ]
  refine wpAnyH_take (i := 2) (v := ?_) rfl (by kernel_rfl) (by kernel_rfl) (by kernel_rfl) (fun _ _ _ h => h) (Or.inl ⟨by rfl, ?_⟩) (by assumption) ?_
  rotate_left
  · intro w hSw; (try dsimp only at hSw); go_simp; try with_reducible rfl
  try simp only [List.getElem_toArray, List.getElem_cons_zero, List.getElem_cons_succ, Act.put, List.setIfInBounds_toArray, List.set_cons_zero, List.set_cons_succ]
  refine wpAnyH_take (i := 3) (v := ?_) rfl (by kernel_rfl) (by kernel_rfl) (by kernel_rfl) (fun _ _ _ h => h) (Or.inl ⟨by rfl, ?_⟩) (by assumption) ?_
  rotate_left
  · intro w hSw; (try dsimp only at hSw); go_simp; try with_reducible rfl
  try simp only [List.getElem_toArray, List.getElem_cons_zero, List.getElem_cons_succ, Act.put, List.setIfInBounds_toArray, List.set_cons_zero, List.set_cons_succ]
  refine wpAnyH_take (i := 4) (v := ?_) rfl (by kernel_rfl) (by kernel_rfl) (by kernel_rfl) (fun _ _ _ h => h) (Or.inl ⟨by rfl, ?_⟩) (by assumption) ?_
  rotate_left
  · intro w hSw; (try dsimp only at hSw); go_simp; try with_reducible rfl
  try simp only [List.getElem_toArray, List.getElem_cons_zero, List.getElem_cons_succ, Act.put, List.setIfInBounds_toArray, List.set_cons_zero, List.set_cons_succ]
  refine wpAnyH_take (i := 5) (v := ?_) rfl (by kernel_rfl) (by kernel_rfl) (by kernel_rfl) (fun _ _ _ h => h) (Or.inl ⟨by rfl, ?_⟩) (by assumption) ?_
  rotate_left
  · intro w hSw; (try dsimp only at hSw); go_simp; try with_reducible rfl
  try simp only [List.getElem_toArray, List.getElem_cons_zero, List.getElem_cons_succ, Act.put, List.setIfInBounds_toArray, List.set_cons_zero, List.set_cons_succ]
  refine wpAnyH_take (i := 6) (v := _) rfl (by kernel_rfl) (by kernel_rfl) (by kernel_rfl) (fun _ _ _ h => h) (yieldsIf_load_mid (by rfl) _ _ rfl (w2.heap.size) 0 rfl (tkD (wakeT t') false) _ (fun w hw => hw.1) hu44 rfl hi44) (by assumption) ?_
  try simp only [List.getElem_toArray, List.getElem_cons_zero, List.getElem_cons_succ, Act.put, List.setIfInBounds_toArray, List.set_cons_zero, List.set_cons_succ]
  refine wpAnyH_ready (rs := [7]) (by kernel_rfl) (by simp) ?_
  refine AllReadyH.cons rfl (fun K hK => ?_) AllReadyH.nil
  simp only [List.getElem_toArray, List.getElem_cons_zero, List.getElem_cons_succ]
  go_simp
  refine (Hset.out w7.drew _ _ (HT7.out.fr0 ((Fr.refl Nob w7).drew))).mono ?_
  rintro e w8 ⟨rfl, hf8, ht8⟩
  refine hK.out _ _ ⟨fun j v hj => hf8.cell (p := ⟨w2.heap.size, 0 + j, none⟩) hns (hHeld.1 j v hj), hf8.cell (p := ⟨b, 0, none⟩) hnb hHeld.2.1, hf8.cell (p := ⟨pb, 0, none⟩) hnp hHeld.2.2⟩ (fun hHeld2 => ?_)
  refine wpAnyH_done (by kernel_rfl) ?_ _
  try simp only [List.getElem_toArray, List.getElem_cons_zero, List.getElem_cons_succ, Act.put, List.setIfInBounds_toArray, List.set_cons_zero, List.set_cons_succ]
  have Hf8 := Lib.hid (show Fr SA w7 w8 from ((Fr.refl SA w7).drew).trans0 hf8); have Ht8 := Lib.hid ht8
  clear hf8 ht8 hHeld hHeld2 hK K
  go_wp2_with fail
  go_ret
  have hz5 := lt_of_block Hb5.out
  have hz2 := Hf2.out.size
  have e1 : Fr S w w6 := Hf5.out.none.trans Hf6.out fun k hk q => (H.out.subL k q).1
  refine ⟨_, rfl, ?_, ⟨ab, lb, _, _, Ht8.out⟩, fun k q => ?_⟩
  · exact (e1.trans Hf67.out fun k hk e => by omega).trans Hf8.out fun k hk q => (H.out.subA k q).1
  · rcases q with q | q
    · exact .inl q
    · have h1 : w5.drew.heap.size ≤ k := q.1; have h2 := ((Fr.refl Nob w5).drew).size; have h3 := Hf5.out.size; exact .inr (by omega)
end
open Go.RowKit Go.Maps
theorem ikey : Keyed Tryz.prog 3 := int_keyed Tryz.underlying3
theorem izero (w : World) : (zeroValue 3).run Tryz.prog w = .ok (.int .i64 0) w := by kernel_rfl
theorem run_makeMap {P : Program} (t : TypeId) (w : World) : (Go.Instr.makeMap t none).run P w = .ok (.map (some w.heap.size)) (w.alloc (.map #[] 0)) := rfl
theorem wf_small {k : Int} (h : -9223372036854775808 ≤ k) (h2 : k ≤ 9223372036854775807) : (Lit.int .i64 k).wf = true := by
  simp only [Lit.wf, Bool.and_eq_true, decide_eq_true_eq]
  exact ⟨h, h2⟩
abbrev ikl (k : Int) : Lit := .int .i64 k
theorem ikeyOf {k : Int} (h : (Lit.int .i64 k).wf = true) : keyOf Tryz.prog 3 (.int .i64 k) = some (ikl k) := keyOf_int_mk Tryz.underlying3 h
/-- Block b is a map of at most n entries that reads as the function f. -/
def MapAt (w : World) (b n : Nat) (f : Int → Option Int) : Prop := ∃ D : DataW Unit, w.ownsMap Tryz.prog 3 (plainElem Tryz.prog 3) b n D ∧ ∀ k, Maps.has D (ikl k) = (f k).isSome ∧ D.atKey (ikl k) (.lit (.int .i64 0)) = .lit (.int .i64 ((f k).getD 0))
def fup (f : Int → Option Int) (k : Int) (v : Option Int) : Int → Option Int := fun j => if j = k then v else f j
theorem fup_same (f : Int → Option Int) (k : Int) (v : Option Int) : fup f k v k = v := if_pos rfl
theorem fup_ne (f : Int → Option Int) {k j : Int} (v : Option Int) (h : j ≠ k) : fup f k v j = f j := if_neg h
section
variable {w w' : World} {b n : Nat} {f : Int → Option Int}
theorem MapAt.lt (h : MapAt w b n f) : b < w.heap.size := by obtain ⟨D, h, _⟩ := h; exact h.lt
theorem MapAt.mono (h : MapAt w b n f) {m : Nat} (hm : n ≤ m) : MapAt w b m f := by obtain ⟨D, h, r⟩ := h; exact ⟨D, h.mono hm, r⟩
theorem MapAt.congr (h : MapAt w b n f) {g : Int → Option Int} (e : ∀ k, g k = f k) : MapAt w b n g := by
  obtain ⟨D, h, r⟩ := h
  exact ⟨D, h, fun k => by rw [e k]; exact r k⟩
theorem MapAt.made (w : World) : MapAt (w.alloc (.map #[] 0)) w.heap.size 0 (fun _ => none) :=
  ⟨_, World.ownsMap_made w _ _ _, fun k => ⟨rfl, rfl⟩⟩
theorem MapAt.fr (h : MapAt w b n f) {S : Nat → Prop} (hf : Fr S w w') (hb : ¬ S b) : MapAt w' b n f := by
  obtain ⟨D, ⟨es, clock, h1, h2⟩, r⟩ := h
  exact ⟨D, ⟨es, clock, hf.blk hb h1, h2⟩, r⟩
theorem MapAt.fr0 (h : MapAt w b n f) (hf : Fr Nob w w') : MapAt w' b n f := h.fr hf id
end
theorem ikl_ne {k j : Int} (h : j ≠ k) : ikl j ≠ ikl k := fun e => h (by simpa [ikl] using e)
section
variable {w : World} {ops : Array Oper} {rest : List Oper} {o : Oper} {a : Act} {Q : Exit → Act → World → Prop}
theorem map_look2 (hg : o.guard = none) (m x : Operand) (hop : o.op = Op.lookup 113 m x true) (b n : Nat) (f : Int → Option Int) (hm : a.eval m = .map (some b)) (h : MapAt w b n f) (k : Int) (hx : a.eval x = .int .i64 k) (hk : (Lit.int .i64 k).wf = true)
    (hK : wpList Tryz.prog ops Q rest (a.put o.dst (.tuple #[.int .i64 ((f k).getD 0), .bool (f k).isSome])) w) : wpList Tryz.prog ops Q (o :: rest) a w := by
  obtain ⟨D, hown, r⟩ := h
  refine wpList_lookup_own_ok_int w hg m x _ hop _ _ .i64 ikey Tryz.underlying113 Tryz.underlying3 (izero _) b n D hm hown _ _ hx (ikeyOf hk) fun c hat hwc => ?_
  rw [(r k).2] at hat
  rw [(r k).1]
  have : (f k).getD 0 = c := by simpa using hat
  rw [← this]
  exact hK
theorem map_put (hg : o.guard = none) (m x v : Operand) (hop : o.op = Op.mapUpdate 113 m x v) (b n : Nat) (f : Int → Option Int) (hm : a.eval m = .map (some b)) (h : MapAt w b n f) (hn : n < 1000000) (k y : Int) (hx : a.eval x = .int .i64 k) (hv : a.eval v = .int .i64 y) (hk : (Lit.int .i64 k).wf = true) (hy : (Lit.int .i64 y).wf = true)
    (hK : ∀ w', MapAt w' b (n + 1) (fup f k (some y)) → Fr (fun j => j = b) w w' → wpList Tryz.prog ops Q rest (a.put o.dst undef) w') : wpList Tryz.prog ops Q (o :: rest) a w := by
  obtain ⟨D, hown, r⟩ := h
  have hD := hown.isMap
  refine wpList_mapUpdate_own w hg m x v _ hop _ _ ikey Tryz.underlying113 _ b n D hm hown (by unfold maxLen; omega) _ _ _ hx hv (ikeyOf hk) _ [] (plainElem_int Tryz.underlying3 hy) fun w' hown' hgr => ?_
  refine hK w' ⟨_, hown', fun j => ?_⟩ ((Fr.refl _ w).grown hgr fun q e => .inl (by cases e; rfl))
  by_cases e : j = k
  · subst e
    rw [fup_same]
    exact ⟨Maps.has_put_same hD (ikey.key (ikeyOf hk)) _, Maps.atKey_put_same hD (ikey.key (ikeyOf hk)) _ _⟩
  · rw [fup_ne _ _ e, Maps.has_put_other (ikl_ne e), Maps.atKey_put_other (ikl_ne e)]
    exact r j
theorem map_del (hg : o.guard = none) (m x : Operand) (hop : o.op = Op.call { callee := Callee.builtin Builtin.delete, args := #[m, x], argTypes := #[113, 3] }) (b n : Nat) (f : Int → Option Int) (hm : a.eval m = .map (some b)) (h : MapAt w b n f) (k : Int) (hx : a.eval x = .int .i64 k) (hk : (Lit.int .i64 k).wf = true)
    (hK : ∀ w', MapAt w' b n (fup f k none) → Fr (fun j => j = b) w w' → wpList Tryz.prog ops Q rest (a.put o.dst (.tuple #[])) w') : wpList Tryz.prog ops Q (o :: rest) a w := by
  obtain ⟨D, hown, r⟩ := h
  refine wpList_delete_own w hg m x _ _ hop _ ikey Tryz.underlying113 _ b n D hm hown _ _ hx (ikeyOf hk) fun w' hown' htu => ?_
  refine hK w' ⟨_, hown', fun j => ?_⟩ ((Fr.refl _ w).grown htu.grown fun q e => .inl (by cases e; rfl))
  by_cases e : j = k
  · subst e
    rw [fup_same]
    exact ⟨Maps.has_del_same, Maps.atKey_del_same _⟩
  · rw [fup_ne _ _ e, Maps.has_del_other (ikl_ne e), Maps.atKey_del_other (ikl_ne e)]
    exact r j
end
/-- m[k] = v as one step of a region that draws. -/
theorem map_put_op {w : World} {o : Oper} {a : Act} {K : Act → World → Prop} {Q : Exit → Act → World → Prop} {E : Prop} {ops : Array Oper} (hg : o.guard = none) (m x v : Operand) (hop : o.op = Op.mapUpdate 113 m x v) (b n : Nat) (f : Int → Option Int) (hm : a.eval m = .map (some b)) (h : MapAt w b n f) (hn : n < 1000000) (k y : Int) (hx : a.eval x = .int .i64 k) (hv : a.eval v = .int .i64 y) (hk : (Lit.int .i64 k).wf = true) (hy : (Lit.int .i64 y).wf = true)
    (hK : ∀ w', MapAt w' b (n + 1) (fup f k (some y)) → Fr (fun j => j = b) w w' → K (a.put o.dst undef) w') : if Region.wanted o (yielded ops a.tmps) = true then Oper.wp Tryz.prog o a w K Q else E := by
  have hw : Region.wanted o (yielded ops a.tmps) = true := by simp [Region.wanted, hg]
  rw [if_pos hw]
  obtain ⟨D, hown, r⟩ := h
  have hD := hown.isMap
  obtain ⟨w', hrun, hown', hgr⟩ := hown.update ikey Tryz.underlying113 (by unfold maxLen; omega) (ikeyOf hk) (plainElem_int Tryz.underlying3 hy)
  unfold Oper.wp
  simp [execOp, hop, hm, hx, hv, hrun, Result.andThen]
  refine hK w' ⟨_, hown', fun j => ?_⟩ ((Fr.refl _ w).grown hgr fun q e => .inl (by cases e; rfl))
  by_cases e : j = k
  · subst e
    rw [fup_same]
    exact ⟨Maps.has_put_same hD (ikey.key (ikeyOf hk)) _, Maps.atKey_put_same hD (ikey.key (ikeyOf hk)) _ _⟩
  · rw [fup_ne _ _ e, Maps.has_put_other (ikl_ne e), Maps.atKey_put_other (ikl_ne e)]
    exact r j
/-- m[k] as an equation. -/
theorem MapAt.look {w : World} {b n : Nat} {f : Int → Option Int} (h : MapAt w b n f) (k : Int) (hk : (Lit.int .i64 k).wf = true) : (Go.Instr.lookup 113 (.map (some b)) (.int .i64 k) false).run Tryz.prog w = .ok (.int .i64 ((f k).getD 0)) w := by
  obtain ⟨D, hown, r⟩ := h
  obtain ⟨c, hrun, hat, hwc⟩ := hown.lookup_int ikey Tryz.underlying113 Tryz.underlying3 (izero w) (ikeyOf hk)
  rw [(r k).2] at hat
  have : (f k).getD 0 = c := by simpa using hat
  rw [hrun, this]
theorem MapAt.drew {w : World} {b n : Nat} {f : Int → Option Int} (h : MapAt w b n f) : MapAt w.drew b n f := h.fr0 (Fr.refl Nob w).drew
/-- delete(m, k) as one step of a region that draws. -/
theorem map_del_op {w : World} {o : Oper} {a : Act} {K : Act → World → Prop} {Q : Exit → Act → World → Prop} {E : Prop} {ops : Array Oper} (hg : o.guard = none) (m x : Operand) (hop : o.op = Op.call { callee := Callee.builtin Builtin.delete, args := #[m, x], argTypes := #[113, 3] }) (b n : Nat) (f : Int → Option Int) (hm : a.eval m = .map (some b)) (h : MapAt w b n f) (k : Int) (hx : a.eval x = .int .i64 k) (hk : (Lit.int .i64 k).wf = true)
    (hK : ∀ w', MapAt w' b n (fup f k none) → Fr (fun j => j = b) w w' → K (a.put o.dst (.tuple #[])) w') : if Region.wanted o (yielded ops a.tmps) = true then Oper.wp Tryz.prog o a w K Q else E := by
  have hw : Region.wanted o (yielded ops a.tmps) = true := by simp [Region.wanted, hg]
  rw [if_pos hw]
  obtain ⟨D, hown, r⟩ := h
  obtain ⟨w', hrun, hown', htu⟩ := hown.drop ikey Tryz.underlying113 (ikeyOf hk) o.type
  unfold Oper.wp
  simp [execOp, hop, resolve, invoke, builtin, hm, hx, hrun, Result.andThen]
  refine hK w' ⟨_, hown', fun j => ?_⟩ ((Fr.refl _ w).grown htu.grown fun q e => .inl (by cases e; rfl))
  by_cases e : j = k
  · subst e
    rw [fup_same]
    exact ⟨Maps.has_del_same, Maps.atKey_del_same _⟩
  · rw [fup_ne _ _ e, Maps.has_del_other (ikl_ne e), Maps.atKey_del_other (ikl_ne e)]
    exact r j
/-- One of a tree: its parent, and whether it hangs there. -/
abbrev Nd := Int × Bool
def hangs (ns : List Nd) (p : Int) (i : Nat) : Bool := match ns[i]? with
  | some x => x.2 && (x.1 == p)
  | none => false
def kidsN (ns : List Nd) (p : Int) : List Nat := (List.range ns.length).filter (hangs ns p)
def kids (ns : List Nd) (p : Int) : List Int := (kidsN ns p).map fun (i : Nat) => (i : Int)
/-- Parents come first; who hangs has one. -/
def TreeOk (ns : List Nd) : Prop := ∀ (i : Nat) (x : Nd), ns[i]? = some x → -1 ≤ x.1 ∧ x.1 < (i : Int) ∧ (x.2 = true → 0 ≤ x.1)
theorem hangs_iff (ns : List Nd) (p : Int) (i : Nat) : hangs ns p i = true ↔ ns[i]? = some (p, true) := by
  unfold hangs
  cases h : ns[i]? with
  | none => simp
  | some x =>
    obtain ⟨a, c⟩ := x
    simp
    constructor
    · rintro ⟨h1, h2⟩; exact ⟨h2, h1⟩
    · rintro ⟨h1, h2⟩; exact ⟨h2, h1⟩
theorem mem_kidsN (ns : List Nd) (p : Int) (i : Nat) : i ∈ kidsN ns p ↔ ns[i]? = some (p, true) := by
  unfold kidsN
  rw [List.mem_filter, hangs_iff, List.mem_range]
  constructor
  · exact fun h => h.2
  · intro h; exact ⟨(List.getElem?_eq_some_iff.1 h).1, h⟩
theorem kidsN_lt (ns : List Nd) (p : Int) (i : Nat) (h : i ∈ kidsN ns p) : i < ns.length := by
  have := (mem_kidsN ns p i).1 h
  exact (List.getElem?_eq_some_iff.1 this).1
theorem kidsN_gt (ns : List Nd) (ho : TreeOk ns) (p i : Nat) (h : i ∈ kidsN ns p) : p < i := by
  have := (mem_kidsN ns p i).1 h
  have := (ho i _ this).2.1
  simp at this; omega
theorem kidsN_sorted (ns : List Nd) (p : Int) : (kidsN ns p).Pairwise (· < ·) := List.Pairwise.filter _ List.pairwise_lt_range
theorem kidsN_out (ns : List Nd) (ho : TreeOk ns) (p : Nat) (h : ns.length ≤ p + 1) : kidsN ns p = [] := by
  rw [List.eq_nil_iff_forall_not_mem]
  intro i hi
  have h1 := kidsN_gt ns ho p i hi
  have h2 := kidsN_lt ns p i hi
  omega
/-! One more -/
theorem ok_snoc (ns : List Nd) (ho : TreeOk ns) (p : Int) (l : Bool) (h1 : -1 ≤ p) (h2 : p < ns.length) (h3 : l = true → 0 ≤ p) : TreeOk (ns ++ [(p, l)]) := by
  intro i x hx
  rw [List.getElem?_append] at hx
  split at hx
  · exact ho i x hx
  · next h =>
    have hi := (List.getElem?_eq_some_iff.1 hx).1
    simp at hi
    have : i = ns.length := by omega
    subst this
    simp at hx
    subst hx
    exact ⟨h1, h2, h3⟩
theorem kidsN_snoc (ns : List Nd) (p : Int) (l : Bool) (k : Nat) : kidsN (ns ++ [(p, l)]) k = kidsN ns k ++ if l && (p == (k : Int)) then [ns.length] else [] := by
  unfold kidsN
  rw [List.length_append, List.length_singleton, List.range_succ, List.filter_append]
  congr 1
  · apply List.filter_congr
    intro i hi
    have hi := List.mem_range.1 hi
    unfold hangs
    rw [List.getElem?_append_left hi]
  · have : hangs (ns ++ [(p, l)]) k ns.length = (l && (p == (k : Int))) := by simp [hangs]
    rw [List.filter_cons, this]
    rfl
theorem kids_snoc_no (ns : List Nd) (p : Int) (l : Bool) (k : Nat) (h : l = false ∨ p ≠ (k : Int)) : kids (ns ++ [(p, l)]) k = kids ns k := by
  unfold kids
  rw [kidsN_snoc]
  have : (l && (p == (k : Int))) = false := by rcases h with h | h <;> simp [h]
  rw [this]; simp
/-! One taken off -/
theorem ok_set (ns : List Nd) (ho : TreeOk ns) (i : Nat) (p : Int) (h : ns[i]? = some (p, true)) : TreeOk (ns.set i (p, false)) := by
  intro j x hx
  rw [List.getElem?_set] at hx
  split at hx
  · next e =>
    subst e
    split at hx
    · simp at hx; subst hx
      obtain ⟨h1, h2, h3⟩ := ho i _ h
      exact ⟨h1, h2, fun q => by simp at q⟩
    · simp at hx
  · exact ho j x hx
theorem hangs_set (ns : List Nd) (i : Nat) (p : Int) (k j : Nat) (hi : i < ns.length) : hangs (ns.set i (p, false)) k j = (hangs ns k j && (j != i)) := by
  unfold hangs
  rw [List.getElem?_set]
  by_cases e : i = j
  · subst e; simp [hi]
  · have : (j != i) = true := by simp; exact fun h => e h.symm
    rw [if_neg e, this, Bool.and_true]
theorem kidsN_set (ns : List Nd) (i : Nat) (p : Int) (k : Nat) (hi : i < ns.length) : kidsN (ns.set i (p, false)) k = (kidsN ns k).filter (· != i) := by
  unfold kidsN
  rw [List.length_set, List.filter_filter]
  apply List.filter_congr
  intro j _
  rw [hangs_set ns i p k j hi, Bool.and_comm]
theorem kids_set_ne (ns : List Nd) (i : Nat) (p : Int) (k : Nat) (h : ns[i]? = some (p, true)) (hk : p ≠ (k : Int)) : kids (ns.set i (p, false)) k = kids ns k := by
  unfold kids
  rw [kidsN_set ns i p k (List.getElem?_eq_some_iff.1 h).1, List.filter_eq_self.2]
  intro j hj
  have := (mem_kidsN ns k j).1 hj
  simp
  rintro rfl
  rw [h] at this
  simp at this
  exact hk this
theorem kids_set_eq (ns : List Nd) (i : Nat) (k : Nat) (h : ns[i]? = some ((k : Int), true)) : kids (ns.set i ((k : Int), false)) k = (kids ns k).erase (i : Int) := by
  have hnd : (kids ns k).Nodup := by
    unfold kids
    have := kidsN_sorted ns k
    unfold List.Nodup
    rw [List.pairwise_map]
    exact this.imp fun {a c} h => by omega
  rw [hnd.erase_eq_filter]
  unfold kids
  rw [kidsN_set ns i _ k (List.getElem?_eq_some_iff.1 h).1, List.filter_map]
  congr 1
  apply List.filter_congr
  intro j _
  show _ = ((j : Int) != (i : Int))
  by_cases e : j = i
  · subst e; simp
  · have : ¬ (j : Int) = i := by omega
    have h1 : (j == i) = false := by simp [e]
    have h2 : ((j : Int) == (i : Int)) = false := beq_eq_false_iff_ne.2 this
    simp only [bne, h1, h2]
theorem mem_kids (ns : List Nd) (i k : Nat) (h : ns[i]? = some ((k : Int), true)) : (i : Int) ∈ kids ns k := List.mem_map.2 ⟨i, (mem_kidsN ns k i).2 h, rfl⟩
/-! The walk -/
def walkF (ns : List Nd) : Nat → Nat → List Nat
  | 0, id => [id]
  | f + 1, id => id :: (kidsN ns id).flatMap (walkF ns f)
def walkN (ns : List Nd) (id : Nat) : List Nat := walkF ns (ns.length - id) id
/-- i hangs on k, by way of all between. -/
inductive Und (ns : List Nd) : Nat → Nat → Prop
  | refl (k) : Und ns k k
  | step {i p k : Nat} (h : ns[i]? = some ((p : Int), true)) (r : Und ns p k) : Und ns i k
theorem Und.trans {ns : List Nd} {a b c : Nat} (h : Und ns a b) (k : Und ns b c) : Und ns a c := by
  induction h with
  | refl => exact k
  | step h r ih => exact .step h (ih k)
theorem Und.lt {ns : List Nd} {i k : Nat} (h : Und ns i k) (hk : k < ns.length) : i < ns.length := by
  cases h with
  | refl => exact hk
  | step h r => exact (List.getElem?_eq_some_iff.1 h).1
def walk (ns : List Nd) (k : Nat) : List Int := (walkN ns k).map fun (i : Nat) => (i : Int)
/-- An event: its step, kind, task, and three numbers. -/
abbrev Ev := Int × Int × Int × Int × Int × Int
abbrev evEn (x : Ev) : List Value := [.int .i64 x.1, .int .i64 x.2.1, .int .i64 x.2.2.1, .int .i64 x.2.2.2.1, .int .i64 x.2.2.2.2.1, .int .i64 x.2.2.2.2.2]
abbrev evs (l : List Ev) : List Value := l.flatMap evEn
/-- What will be due: whose, when, in which order. -/
abbrev Hi := Int × Int × Int
def aheadI (x y : Hi) : Bool := decide (x.2.1 < y.2.1) || (x.2.1 == y.2.1 && decide (x.2.2 < y.2.2))
/-- Of at most two that will be due one more. -/
def heapAdd (l : List Hi) (x : Hi) : Option (List Hi) := match l with
  | [] => some [x]
  | [y] => some (if aheadI x y then [x, y] else [y, x])
  | _ => none
def heapHas (l : List Hi) (id : Int) : Bool := l.any fun y => y.1 == id
def heapDel (l : List Hi) (id : Int) : List Hi := l.filter fun y => !(y.1 == id)
def maxT : Int := 4611686018427387904
def nextT (t p now : Int) : Int := addT now (p - (now - t) % p)
abbrev delP (per : Int → Option Int) (k : Int) : Int → Option Int := fup per k none
abbrev putP (per : Int → Option Int) (k v : Int) : Int → Option Int := fup per k (some v)
/-- How a timer of a kind is due again. -/
def perOf (kind d : Int) : Int := if kind = 2 then min d maxT else 0
/-- The first one that is due is taken: it is due anew if it has a period. -/
def takeR (hp : List Hi) (seq : Nat) (per : Int → Option Int) (x : Hi) (now : Int) : Option (List Hi × Nat × (Int → Option Int)) :=
  if 1 ≤ (per x.1).getD 0 ∧ now < nextT x.2.1 ((per x.1).getD 0) now then
    match heapAdd (heapDel (heapDel hp x.1) x.1) (x.1, nextT x.2.1 ((per x.1).getD 0) now, ((seq + 1 : Nat) : Int)) with
    | none => none
    | some l => some (l, seq + 1, putP (delP per x.1) x.1 ((per x.1).getD 0))
  else some (heapDel hp x.1, seq, delP per x.1)
section
variable {w : World} {b : Nat} {t : Nat → Int} {d : Bool} (h : w.heap[b]? = some (.cells (tkD t d).toArray 98 (0, 0)))
include h
theorem tkcR (y : Nat) (hy : y < 8) : w.cell? ⟨b, 4 + y, none⟩ = some (.int .i64 (t (4 + y))) := by
  have : y = 0 ∨ y = 1 ∨ y = 2 ∨ y = 3 ∨ y = 4 ∨ y = 5 ∨ y = 6 ∨ y = 7 := by omega
  rcases this with rfl | rfl | rfl | rfl | rfl | rfl | rfl | rfl
  · exact tkc4 h
  · exact tkc5 h
  · exact tkc6 h
  · exact tkc7 h
  · exact tkc8 h
  · exact tkc9 h
  · exact tkc10 h
  · exact tkc11 h
theorem tkpR (y : Nat) (hy : y < 8) (x : Int) : (w.setCell ⟨b, 4 + y, none⟩ (.int .i64 x)).heap[b]? = some (.cells (tkD (updT t (4 + y) x) d).toArray 98 (0, 0)) := by
  have : y = 0 ∨ y = 1 ∨ y = 2 ∨ y = 3 ∨ y = 4 ∨ y = 5 ∨ y = 6 ∨ y = 7 := by omega
  rcases this with rfl | rfl | rfl | rfl | rfl | rfl | rfl | rfl
  · exact tkp4 h x
  · exact tkp5 h x
  · exact tkp6 h x
  · exact tkp7 h x
  · exact tkp8 h x
  · exact tkp9 h x
  · exact tkp10 h x
  · exact tkp11 h x
end
/-- What was received is in its registers. -/
def gotT (u : Nat → Int) (B C : Nat) (v : Int) (ok : Bool) : Nat → Int := if ok then updT (updT (updT u (4 + B) v) (4 + C) 0) (4 + C) 1 else updT (updT u (4 + B) v) (4 + C) 0
set_option maxHeartbeats 2000000 in
theorem told_got (w : World) (tb : Nat) (t : Nat → Int) (d : Bool) (hb : w.heap[tb]? = some (.cells (tkD t d).toArray 98 (0, 0))) (h12 : t 12 = 11) (B C : Nat) (hB : B < 8) (hC : C < 8) (h14 : t 14 = B) (h15 : t 15 = C) (x k v : Int) (ok pn : Bool) :
    Calls Tryz.prog 167 #[.pointer (some ⟨tb, 0, none⟩), .agg #[.int .i64 x, .int .i64 k, .int .i64 v, .bool ok, .bool pn]] w fun e w' => e = .returned (.tuple #[]) ∧ Fr (fun q => q = tb) w w' ∧ w'.heap[tb]? = some (.cells (tkD (gotT t B C v ok) d).toArray 98 (0, 0)) := by
  have hbl := lt_of_block hb
  have c12 := tkc12 hb; have c13 := tkc13 hb; have c14 := tkc14 hb; have c15 := tkc15 hb; have c16 := tkc16 hb; have c17 := tkc17 hb
  rw [h12] at c12; rw [h14] at c14; rw [h15] at c15
  have Hb := Lib.hid hb
  generalize t 13 = t13 at *
  have key : ∀ W, Fr Nob w W → W.cell? ⟨tb, 12, none⟩ = some (.int .i64 11) ∧ W.cell? ⟨tb, 13, none⟩ = some (.int .i64 t13) ∧ W.cell? ⟨tb, 14, none⟩ = some (.int .i64 (B : Int)) ∧ W.cell? ⟨tb, 15, none⟩ = some (.int .i64 (C : Int)) ∧ W.cell? ⟨tb, 16, none⟩ = some (.slice none 0 0) ∧ W.cell? ⟨tb, 17, none⟩ = some (.bool d) := fun W hW => ⟨hW.cell id c12, hW.cell id c13, hW.cell id c14, hW.cell id c15, hW.cell id c16, hW.cell id c17⟩
  obtain ⟨e12, e13, e14, e15, e16, e17⟩ := key _ ((Fr.refl Nob w).alloc (.cells #[.int .i64 x, .int .i64 k, .int .i64 v, .bool ok, .bool pn] 225))
  have hBi : (B : Int) < 8 := by omega
  have hCi : (C : Int) < 8 := by omega
  clear hb key c12 c13 c14 c15 c16 c17 h12 h14 h15
  go_enter Tryz.func167, Tryz.ntmps167
  go_wp2_with fail
  obtain ⟨w2, hw2⟩ : ∃ w2, w2 = (w.alloc (.cells #[.int .i64 x, .int .i64 k, .int .i64 v, .bool ok, .bool pn] 225)).alloc (.cells #[.int .i64 11, .int .i64 t13, .int .i64 (B : Int), .int .i64 (C : Int), .slice none 0 0, .bool d] 25) := ⟨_, rfl⟩
  rw [← hw2]
  have hf2 : Fr Nob w w2 := by rw [hw2]; exact ((Fr.refl Nob w).alloc _).alloc _
  have hk2 : w2.heap[w.heap.size]? = some (.cells #[.int .i64 x, .int .i64 k, .int .i64 v, .bool ok, .bool pn] 225 (0, 0)) := by rw [hw2]; exact ((Fr.refl Nob _).alloc _).blk id (heap_alloc_new w _)
  have hi2 : w2.heap[w.heap.size + 1]? = some (.cells #[.int .i64 11, .int .i64 t13, .int .i64 (B : Int), .int .i64 (C : Int), .slice none 0 0, .bool d] 25 (0, 0)) := by rw [hw2]; exact blk_alloc_eq _ (by simp)
  have Hf2 := Lib.hid hf2; have Hk2 := Lib.hid hk2; have Hi2 := Lib.hid hi2
  have hb2 := hf2.blk id Hb.out
  have Hb2 := Lib.hid hb2
  clear hw2 hf2 hk2 hi2 e12 e13 e14 e15 e16 e17
  have k2 := blk_cell Hk2.out 2 rfl
  have i2 := blk_cell Hi2.out 2 rfl
  have i3 := blk_cell Hi2.out 3 rfl
  have cB := tkcR hb2 B hB
  have fB := tkf hb2 (4 + B)
  have cC := tkcR hb2 C hC
  have fC := tkf hb2 (4 + C)
  have cC2 := tkcR (tkpR hb2 B hB v) C hC
  have fC2 := tkf (tkpR hb2 B hB v) (4 + C)
  have cB2 := tkcR (tkpR hb2 C hC 0) B hB
  have fB2 := tkf (tkpR hb2 C hC 0) (4 + B)
  clear hb2
  go_region
  all_goals (
    obtain ⟨w3, hw3⟩ : ∃ w3, w3 = ((w2.setCell ⟨tb, 4 + B, none⟩ (.int .i64 v)).setCell ⟨tb, 4 + C, none⟩ (.int .i64 0)).drew := ⟨_, rfl⟩
    rw [← hw3]
    have hf3 : Fr (fun q => q = tb) w2 w3 := by rw [hw3]; exact (((Fr.refl (fun q => q = tb) w2).setT (4 + B) _).setT (4 + C) _).drew
    have hb3 : w3.heap[tb]? = some (.cells (tkD (updT (updT t (4 + B) v) (4 + C) 0) d).toArray 98 (0, 0)) := by rw [hw3, blk_drew]; exact tkpR (tkpR Hb2.out B hB _) C hC _
    have hk3 := hf3.blk (k := w.heap.size) (by omega) Hk2.out
    have hi3 := hf3.blk (k := w.heap.size + 1) (by omega) Hi2.out
    have Hb3 := Lib.hid hb3
    have d6 := tkcR hb3 C hC
    have g6 := tkf hb3 (4 + C)
    have j3 := blk_cell hi3 3 rfl
    have m3 := blk_cell hk3 3 rfl
    have Hf3 := Lib.hid hf3
    clear hw3 hf3 hk3 hi3 k2 i2 i3 cB fB cC fC cC2 fC2 cB2 fB2 hb3
    cases ok with
    | true =>
      go_wp2_with fail
      try go_region
      all_goals (
        obtain ⟨w4, hw4⟩ : ∃ w4, w4 = (w3.setCell ⟨tb, 4 + C, none⟩ (.int .i64 1)).drew := ⟨_, rfl⟩
        rw [← hw4]
        have Hf4 : Hid (Fr (fun q => q = tb) w3 w4) := Lib.hid (by rw [hw4]; exact ((Fr.refl (fun q => q = tb) w3).setT (4 + C) _).drew)
        have Hb4 : Hid (w4.heap[tb]? = some (.cells (tkD (updT (updT (updT t (4 + B) v) (4 + C) 0) (4 + C) 1) d).toArray 98 (0, 0))) := Lib.hid (by rw [hw4, blk_drew]; exact tkpR Hb3.out C hC _)
        clear hw4 d6 g6 j3 m3
        go_wp2_with fail
        go_end0
        exact ⟨rfl, (Hf2.out.none.trans0 Hf3.out).trans0 Hf4.out, Hb4.out⟩)
    | false =>
      clear d6 g6 j3
      go_wp2_with fail
      all_goals (
        go_end0
        exact ⟨rfl, Hf2.out.none.trans0 Hf3.out, Hb3.out⟩))
set_option maxHeartbeats 2000000 in
theorem told_sent (w : World) (tb : Nat) (t : Nat → Int) (d : Bool) (hb : w.heap[tb]? = some (.cells (tkD t d).toArray 98 (0, 0))) (h12 : t 12 = 10) (x k v : Int) (ok pn : Bool) :
    Calls Tryz.prog 167 #[.pointer (some ⟨tb, 0, none⟩), .agg #[.int .i64 x, .int .i64 k, .int .i64 v, .bool ok, .bool pn]] w fun e w' => e = .returned (.tuple #[]) ∧ Fr (fun q => q = tb) w w' ∧ w'.heap[tb]? = some (.cells (tkD t d).toArray 98 (0, 0)) := by
  have c12 := tkc12 hb; have c13 := tkc13 hb; have c14 := tkc14 hb; have c15 := tkc15 hb; have c16 := tkc16 hb; have c17 := tkc17 hb
  rw [h12] at c12
  have Hb := Lib.hid hb
  have key : ∀ W, Fr Nob w W → W.cell? ⟨tb, 12, none⟩ = some (.int .i64 10) ∧ W.cell? ⟨tb, 13, none⟩ = some (.int .i64 (t 13)) ∧ W.cell? ⟨tb, 14, none⟩ = some (.int .i64 (t 14)) ∧ W.cell? ⟨tb, 15, none⟩ = some (.int .i64 (t 15)) ∧ W.cell? ⟨tb, 16, none⟩ = some (.slice none 0 0) ∧ W.cell? ⟨tb, 17, none⟩ = some (.bool d) := fun W hW => ⟨hW.cell id c12, hW.cell id c13, hW.cell id c14, hW.cell id c15, hW.cell id c16, hW.cell id c17⟩
  obtain ⟨e12, e13, e14, e15, e16, e17⟩ := key _ ((Fr.refl Nob w).alloc (.cells #[.int .i64 x, .int .i64 k, .int .i64 v, .bool ok, .bool pn] 225))
  clear hb key c12 c13 c14 c15 c16 c17 h12
  go_enter Tryz.func167, Tryz.ntmps167
  go_wp2_with fail
  go_end0
  have hf : Fr Nob w _ := ((Fr.refl Nob w).alloc (.cells #[.int .i64 x, .int .i64 k, .int .i64 v, .bool ok, .bool pn] 225)).alloc (.cells #[.int .i64 10, .int .i64 (t 13), .int .i64 (t 14), .int .i64 (t 15), .slice none 0 0, .bool d] 25)
  exact ⟨rfl, hf.none, hf.blk id Hb.out⟩
/-- A task's place and registers are put. -/
def putT (t : Nat → Int) (pc : Int) (r : Nat → Int) : Nat → Int := fun j => if j = 1 then pc else if 4 ≤ j ∧ j < 12 then r (j - 4) else t j
end Go.Proofs.YtcffplgimbbflaaGreat
