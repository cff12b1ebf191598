/- What Wake of a table does: of a task that waits and is told something. -/
import Derived.Test.YteabiaoklpfbdaaTaskWake
set_option linter.unusedVariables false
set_option linter.unusedSimpArgs false
namespace Go.Proofs.Yteabiaoklpfbdaa
open Go.RowKit
set_option maxRecDepth 100000
/-- What told does of a wake. -/
def ToldP (t : Nat → Int) (d : Bool) (i k v : Int) (ok : Bool) (t' : Nat → Int) : Prop := ∀ W (tb : Nat), W.heap[tb]? = some (.cells (tkD t d).toArray 44 (0, 0)) → Calls Try.prog 33 #[.pointer (some ⟨tb, 0, none⟩), .agg #[.int .i64 i, .int .i64 k, .int .i64 v, .bool ok, .bool false]] W fun e w' => e = .returned (.tuple #[]) ∧ Fr (fun q => q = tb) W w' ∧ w'.heap[tb]? = some (.cells (tkD t' d).toArray 44 (0, 0))
section
variable {w : World} {S : Nat → Prop} {b : Nat} {ts : List Tk} {line : List Int} (h : TableAt w S b ts line) (i : Nat) (t : Nat → Int) (d : Bool) (hi : ts[i]? = some (t, d)) (k v : Int) (ok : Bool)
include h hi
set_option maxHeartbeats 2000000 in
theorem wake_ok (h2 : (t 2 == 1) = true) (t' : Nat → Int) (ht : ToldP t d i k v ok t') (hpc : IntKind.i64.wrap (t' 1 + 1) = t' 1 + 1) (hline : (i : Int) ∉ line) (hll : line.length < 100000) :
    Calls Try.prog 14 #[.pointer (some ⟨b, 0, none⟩), .agg #[.int .i64 (i : Int), .int .i64 k, .int .i64 v, .bool ok, .bool false]] w fun e w' => ∃ S' : Nat → Prop, e = .returned (.int .i64 0) ∧ Fr S w w' ∧ TableAt w' S' b (ts.set i (wakeT t', false)) (line ++ [(i : Int)]) ∧ ∀ k, S' k → S k ∨ w.heap.size ≤ k := by
  have His := Lib.hid (fun W (hW : Fr Nob w W) => is_wakes (w := W) (S := S) (b := b) (ts := ts) (line := line) (by obtain ⟨ab, lb, SA, SL, h⟩ := h; exact ⟨ab, lb, SA, SL, h.fr0 hW⟩) i t d hi true (fun W => by have := so_wakes W (t 2); rw [h2] at this; exact this) 0 rfl)
  obtain ⟨ab, lb, SA, SL, h⟩ := h
  have hlen := (List.getElem?_eq_some_iff.1 hi).1
  have hset := fun W S' SL' (hW : TabAt W S' b ab lb SA SL' ts (line ++ [(i : Int)])) => hW.set i hlen (wakeT t', false)
  have hrd : ∀ W SL' , ReadyAt W SL' lb line → Calls Try.prog 25 #[.pointer (some ⟨lb, 0, none⟩), .int .i64 (i : Int)] W fun e w' => e = .returned (.int .i64 0) ∧ Fr SL' W w' ∧ ReadyAt w' (And' SL' W w') lb (line ++ [(i : Int)]) := fun W SL' hr => ready_add W SL' lb line (i : Int) hr (by omega) hline hll
  have hb := h.blk
  have Hset := Lib.hid hset; have Hrd := Lib.hid hrd; have Ht := Lib.hid ht; have Hb := Lib.hid hb; have H := Lib.hid h; have Hpc := Lib.hid hpc
  clear hset hrd ht hb h hi h2 hline hll hlen hpc
  go_enter Try.func14, Try.ntmps14
  go_wp2_with fail
  obtain ⟨w1, hw1⟩ : ∃ w1, w1 = w.alloc (.cells #[.int .i64 (i : Int), .int .i64 k, .int .i64 v, .bool ok, .bool false] 38) := ⟨_, rfl⟩
  rw [← hw1]
  obtain ⟨pb, hpb⟩ : ∃ pb, pb = w.heap.size := ⟨_, rfl⟩
  rw [← hpb]
  have hf1 : Fr Nob w w1 := by rw [hw1]; exact (Fr.refl Nob w).alloc _
  have hp1 : w1.heap[pb]? = some (.cells #[.int .i64 (i : Int), .int .i64 k, .int .i64 v, .bool ok, .bool false] 38 (0, 0)) := by rw [hw1, hpb]; exact heap_alloc_new _ _
  have Hpb : Hid (w.heap.size = pb) := hpb.symm
  clear hw1 hpb
  refine (His.out w1 hf1).mono ?_
  rintro e w2 ⟨rfl, hf2⟩
  have hp2 := hf2.blk id hp1
  have Hp2 := Lib.hid hp2
  have Hf2 := Lib.hid (hf1.trans0 hf2)
  have hpz := lt_of_block hp2
  clear hf2 hp1 hf1 hp2
  have hzn : (w2.alloc (.cells tkZ.toArray 44)).heap[w2.heap.size]? = some (.cells tkZ.toArray 44 (0, 0)) := heap_alloc_new _ _
  unfold tkZ at hzn
  dsimp only [tkL] at hzn
  go_wp2_with (refine wpList_store_row _ rfl 44 (.tmp 5) (.tmp 12) rfl w2.heap.size (tkD t d).toArray _ 44 rfl rfl hzn rfl (info18 t d) (tkD_all t d) ?_; intro w3 hb3 hf3; have hp3 := hf3.blk (k := pb) (fun e => by omega) (((Fr.refl Nob w2).alloc _).blk id Hp2.out); have q0 := blk_cell hp3 0 rfl; have q1 := blk_cell hp3 1 rfl; have q2 := blk_cell hp3 2 rfl; have q3 := blk_cell hp3 3 rfl; have q4 := blk_cell hp3 4 rfl; have Hb3 := Lib.hid hb3; have Hf3 := Lib.hid hf3; have Hp3 := Lib.hid hp3; clear hb3 hf3 hp3)
  refine (Ht.out w3 _ Hb3.out).mono ?_
  rintro e w4 ⟨rfl, hf4, hb4⟩
  have hp4 := hf4.blk (k := pb) (fun e => by omega) Hp3.out
  have c1 := tkc1 hb4
  have f1 := tkf hb4 1
  have c2 := tkc2 hb4
  have f2 := tkf hb4 2
  have Hb4 := Lib.hid hb4; have Hf4 := Lib.hid hf4; have Hp4 := Lib.hid hp4
  have hpc := Hpc.out
  clear hb4 hf4 hp4 q0 q1 q2 q3 q4 hzn
  go_wp2_with fail
  obtain ⟨w5, hw5⟩ : ∃ w5, w5 = (w4.setCell ⟨w2.heap.size, 1, none⟩ (.int .i64 (t' 1 + 1))).setCell ⟨w2.heap.size, 2, none⟩ (.int .i64 0) := ⟨_, rfl⟩
  rw [← hw5]
  have hb5 : w5.heap[w2.heap.size]? = some (.cells (tkD (updT (updT t' 1 (t' 1 + 1)) 2 0) d).toArray 44 (0, 0)) := by rw [hw5]; exact tkp2 (tkp1 Hb4.out _) _
  have hf45 : Fr (fun k => k = w2.heap.size) w4 w5 := by rw [hw5]; exact ((Fr.refl (fun k => k = w2.heap.size) w4).setT 1 _).setT 2 _
  have hp5 := hf45.blk (k := pb) (by omega) Hp4.out
  have hf25 : Fr Nob w2 w5 := ((((Fr.refl Nob w2).alloc _).trans Hf3.out fun k hk e => by omega).trans Hf4.out fun k hk e => by omega).trans hf45 fun k hk e => by omega
  have hf5 := Hf2.out.trans0 hf25
  have HT5 := Lib.hid (H.out.fr0 hf5)
  have hns : ∀ k, S k → k ≠ w2.heap.size ∧ k ≠ pb := fun k q => by have := H.out.lt _ q; have := Hpb.out; have := Hf2.out.size; omega
  have Hns := Lib.hid hns
  have key : ∀ W, Fr SL w5 W → W.cell? ⟨b, 1, none⟩ = some (.pointer (some ⟨lb, 0, none⟩)) ∧ W.cell? ⟨pb, 0, none⟩ = some (.int .i64 (i : Int)) := fun W hW => ⟨blk_cell (hW.blk (fun q => (HT5.out.subL _ q).2.1 rfl) HT5.out.blk) 1 rfl, blk_cell (hW.blk (fun q => (hns _ (HT5.out.subL _ q).1).2 rfl) hp5) 0 rfl⟩
  have Key := Lib.hid key
  have Hf5 := Lib.hid hf5; have Hb5 := Lib.hid hb5; have Hp5 := Lib.hid hp5
  clear hw5 hb5 hf45 hp5 hf25 hf5 key c1 f1 c2 f2 hpc hns
  have hf0 : Fr SL w5 w5 := Fr.refl _ _
  go_region_held3 (fun W => W.cell? ⟨b, 1, none⟩ = some (.pointer (some ⟨lb, 0, none⟩)) ∧ W.cell? ⟨pb, 0, none⟩ = some (.int .i64 (i : Int)))
    ((refine Key.out _ ?_; first | with_reducible exact hf6 | with_reducible exact hf0 | exact hf0.drew))
    ((go_at_call 25; refine (Hrd.out w5.drew SL (HT5.out.ready.fr ((Fr.refl Nob w5).drew) fun _ _ q => q)).mono ?_; rintro e w6 ⟨rfl, hf6', hr6⟩; have hf6 : Fr SL w5 w6 := (hf0.drew).trans0 hf6'; have Hr6 := Lib.hid hr6; clear hr6))
  have HT6 := Lib.hid (TabAt.growL (H.out.fr0 (Hf5.out.drew)) hf6' Hr6.out)
  have hb6 := hf6.blk (k := w2.heap.size) (fun q => (Hns.out _ (HT5.out.subL _ q).1).1 rfl) Hb5.out
  have hp6 := hf6.blk (k := pb) (fun q => (Hns.out _ (HT5.out.subL _ q).1).2 rfl) Hp5.out
  have c12 := tkc12 hb6; have f12 := tkf hb6 12; have c13 := tkc13 hb6; have f13 := tkf hb6 13; have c14 := tkc14 hb6; have f14 := tkf hb6 14; have c15 := tkc15 hb6; have f15 := tkf hb6 15; have c16 := tkc16 hb6; have f16 := tkf hb6 16; have c17 := tkc17 hb6; have f17 := tkf hb6 17
  have Hb6 := Lib.hid hb6; have Hp6 := Lib.hid hp6; have Hf6 := Lib.hid hf6
  have Hz6 := Lib.hid hf6'.size
  clear hb6 hp6 hf6 hf6' hf0
  go_wp2_with fail
  obtain ⟨w7, hw7⟩ : ∃ w7, w7 = ((((((w6.setCell ⟨w2.heap.size, 12, none⟩ (.int .i64 0)).setCell ⟨w2.heap.size, 13, none⟩ (.int .i64 0)).setCell ⟨w2.heap.size, 14, none⟩ (.int .i64 0)).setCell ⟨w2.heap.size, 15, none⟩ (.int .i64 0)).setCell ⟨w2.heap.size, 16, none⟩ (.slice none 0 0)).setCell ⟨w2.heap.size, 17, none⟩ (.bool false)) := ⟨_, rfl⟩
  rw [← hw7]
  have hb7 : w7.heap[w2.heap.size]? = some (.cells (tkD (wakeT t') false).toArray 44 (0, 0)) := by rw [hw7]; exact tkp17 (tkp16 (tkp15 (tkp14 (tkp13 (tkp12 Hb6.out _) _) _) _)) _
  have hf67 : Fr (fun k => k = w2.heap.size) w6 w7 := by rw [hw7]; exact ((((((Fr.refl (fun k => k = w2.heap.size) w6).setT 12 _).setT 13 _).setT 14 _).setT 15 _).setT 16 _).setT 17 _
  have hp7 := hf67.blk (k := pb) (by omega) Hp6.out
  have hz2 := Hf2.out.size; have hz5 := lt_of_block Hb5.out; have hpb := Hpb.out
  have HT7 := Lib.hid (HT6.out.fr hf67 (fun k q e => by rcases q with q | q; exact (Hns.out _ q).1 e; have := q.1; simp at this; omega))
  have HS0 : Hid (w7.rangeAt w2.heap.size 0 (tkD (wakeT t') false) ∧ w7.cell? ⟨b, 0, none⟩ = some (.pointer (some ⟨ab, 0, none⟩)) ∧ w7.cell? ⟨pb, 0, none⟩ = some (.int .i64 (i : Int))) := ⟨rangeRow hb7, blk_cell HT7.out.blk 0 rfl, blk_cell hp7 0 rfl⟩
  have Hf67 := Lib.hid hf67
  clear hw7 hb7 hf67 hp7 hz2 hz5 hpb c12 c13 c14 c15 c16 c17 f12 f13 f14 f15 f16 f17
  have hns : ¬ SA w2.heap.size := fun q => (Hns.out _ (H.out.subA _ q).1).1 rfl
  have hnp : ¬ SA pb := fun q => (Hns.out _ (H.out.subA _ q).1).2 rfl
  have hnb : ¬ SA b := fun q => (H.out.subA _ q).2 rfl
  have hu44 := Try.underlying44
  have hi44 : (Try.prog.info? 44).map (·.size) = some (tkD (wakeT t') false).length := info_task18
  refine wp_region_held_drew (S := fun W => W.rangeAt w2.heap.size 0 (tkD (wakeT t') false) ∧ W.cell? ⟨b, 0, none⟩ = some (.pointer (some ⟨ab, 0, none⟩)) ∧ W.cell? ⟨pb, 0, none⟩ = some (.int .i64 (i : Int))) (by kernel_rfl) (by simpa using HS0.out) (fun hHeld => ?_)
  refine wpAnyH_take (i := 0) (v := ?_) rfl (by kernel_rfl) (by kernel_rfl) (by kernel_rfl) (fun _ _ _ h => h) (Or.inl ⟨by rfl, ?_⟩) (by assumption) ?_
  rotate_left
  · intro w hSw; (try dsimp only at hSw); go_simp; try with_reducible rfl
  try simp only [List.getElem_toArray, List.getElem_cons_zero, List.getElem_cons_succ, Act.put, List.setIfInBounds_toArray, List.set_cons_zero, List.set_cons_succ]
  refine wpAnyH_take (i := 1) (v := ?_) rfl (by kernel_rfl) (by kernel_rfl) (by kernel_rfl) (fun _ _ _ h => h) (Or.inl ⟨by rfl, ?_⟩) (by assumption) ?_
  rotate_left
  · intro w hSw; (try dsimp only at hSw); go_simp; try with_reducible rfl
  try simp only [List.getElem_toArray, List.getElem_cons_zero, List.getElem_cons_succ, Act.put, List.setIfInBounds_toArray, List.set_cons_zero, List.set_cons_succ]
  refine wpAnyH_take (i := 2) (v := ?_) rfl (by kernel_rfl) (by kernel_rfl) (by kernel_rfl) (fun _ _ _ h => h) (Or.inl ⟨by rfl, ?_⟩) (by assumption) ?_
  rotate_left
  · intro w hSw; (try dsimp only at hSw); go_simp; try with_reducible rfl
  try simp only [List.getElem_toArray, List.getElem_cons_zero, List.getElem_cons_succ, Act.put, List.setIfInBounds_toArray, List.set_cons_zero, List.set_cons_succ]
  refine wpAnyH_take (i := 3) (v := ?_) rfl (by kernel_rfl) (by kernel_rfl) (by kernel_rfl) (fun _ _ _ h => h) (Or.inl ⟨by rfl, ?_⟩) (by assumption) ?_
  rotate_left
  · intro w hSw; (try dsimp only at hSw); go_simp; try with_reducible rfl
  try simp only [List.getElem_toArray, List.getElem_cons_zero, List.getElem_cons_succ, Act.put, List.setIfInBounds_toArray, List.set_cons_zero, List.set_cons_succ]
  refine wpAnyH_take (i := 4) (v := ?_) rfl (by kernel_rfl) (by kernel_rfl) (by kernel_rfl) (fun _ _ _ h => h) (Or.inl ⟨by rfl, ?_⟩) (by assumption) ?_
  rotate_left
  · intro w hSw; (try dsimp only at hSw); go_simp; try with_reducible rfl
  try simp only [List.getElem_toArray, List.getElem_cons_zero, List.getElem_cons_succ, Act.put, List.setIfInBounds_toArray, List.set_cons_zero, List.set_cons_succ]
  refine wpAnyH_take (i := 5) (v := ?_) rfl (by kernel_rfl) (by kernel_rfl) (by kernel_rfl) (fun _ _ _ h => h) (Or.inl ⟨by rfl, ?_⟩) (by assumption) ?_
  rotate_left
  · intro w hSw; (try dsimp only at hSw); go_simp; try with_reducible rfl
  try simp only [List.getElem_toArray, List.getElem_cons_zero, List.getElem_cons_succ, Act.put, List.setIfInBounds_toArray, List.set_cons_zero, List.set_cons_succ]
  refine wpAnyH_take (i := 6) (v := _) rfl (by kernel_rfl) (by kernel_rfl) (by kernel_rfl) (fun _ _ _ h => h) (yieldsIf_load_mid (by rfl) _ _ rfl (w2.heap.size) 0 rfl (tkD (wakeT t') false) _ (fun w hw => hw.1) hu44 rfl hi44) (by assumption) ?_
  try simp only [List.getElem_toArray, List.getElem_cons_zero, List.getElem_cons_succ, Act.put, List.setIfInBounds_toArray, List.set_cons_zero, List.set_cons_succ]
  refine wpAnyH_ready (rs := [7]) (by kernel_rfl) (by simp) ?_
  refine AllReadyH.cons rfl (fun K hK => ?_) AllReadyH.nil
  simp only [List.getElem_toArray, List.getElem_cons_zero, List.getElem_cons_succ]
  go_simp
  refine (Hset.out w7.drew _ _ (HT7.out.fr0 ((Fr.refl Nob w7).drew))).mono ?_
  rintro e w8 ⟨rfl, hf8, ht8⟩
  refine hK.out _ _ ⟨fun j v hj => hf8.cell (p := ⟨w2.heap.size, 0 + j, none⟩) hns (hHeld.1 j v hj), hf8.cell (p := ⟨b, 0, none⟩) hnb hHeld.2.1, hf8.cell (p := ⟨pb, 0, none⟩) hnp hHeld.2.2⟩ (fun hHeld2 => ?_)
  refine wpAnyH_done (by kernel_rfl) ?_ _
  try simp only [List.getElem_toArray, List.getElem_cons_zero, List.getElem_cons_succ, Act.put, List.setIfInBounds_toArray, List.set_cons_zero, List.set_cons_succ]
  have Hf8 := Lib.hid (show Fr SA w7 w8 from ((Fr.refl SA w7).drew).trans0 hf8); have Ht8 := Lib.hid ht8
  clear hf8 ht8 hHeld hHeld2 hK K
  go_wp2_with fail
  go_ret
  have hz5 := lt_of_block Hb5.out
  have hz2 := Hf2.out.size
  have e1 : Fr S w w6 := Hf5.out.none.trans Hf6.out fun k hk q => (H.out.subL k q).1
  refine ⟨_, rfl, ?_, ⟨ab, lb, _, _, Ht8.out⟩, fun k q => ?_⟩
  · exact (e1.trans Hf67.out fun k hk e => by omega).trans Hf8.out fun k hk q => (H.out.subA k q).1
  · rcases q with q | q
    · exact .inl q
    · have h1 : w5.drew.heap.size ≤ k := q.1; have h2 := ((Fr.refl Nob w5).drew).size; have h3 := Hf5.out.size; exact .inr (by omega)
end
end Go.Proofs.Yteabiaoklpfbdaa
