/- Who waits on a channel, from outside; what two laws need. -/
import Derived.Test.YtcffplgimbbflaaGreatSlQ16
set_option linter.unusedVariables false
set_option linter.unusedSimpArgs false
namespace Go.Proofs.YtcffplgimbbflaaGreat
open Go.RowKit
set_option maxRecDepth 100000
theorem check_oneC (w : World) (b : Nat) (op a c e : Int) (d : Bool) (v : Value) (cs : List ICs) (h : w.heap[b]? = some (.cells #[.int .i64 op, .int .i64 a, .int .i64 c, .int .i64 e, v, .bool d] 25 (0, 0))) (hrd : Rd w 3 v cs.length (cs.flatMap icsEn)) (hg : goodB ((op, a, c, e), v, cs, d) 1 = true) :
    Calls Tryz.prog 37 #[.slice (some ⟨b, 0, none⟩) 1 1] w fun e' w' => e' = .returned (.int .i64 0) ∧ Fr Nob w w' := by
  have := check_any w (.slice (some ⟨b, 0, none⟩) 1 1) [((op, a, c, e), v, cs, d)] 1 rfl (rd_lit6 h) (fun i hi => by simp at hi; subst hi; exact hrd)
  rw [show progB [((op, a, c, e), v, cs, d)] = true by simp only [progB, List.length_singleton, List.all_cons, List.all_nil, Bool.and_true]; rw [show ((1 : Nat) : Int) = 1 from rfl, hg]; rfl] at this
  exact this
theorem tk16s {w : World} {b : Nat} {t : Nat → Int} {d : Bool} (h : w.heap[b]? = some (.cells (tkD t d).toArray 98 (0, 0))) (Q : Option Addr) (qn qc : Nat) : (w.setCell ⟨b, 16, none⟩ (.slice Q qn qc)).heap[b]? = some (.cells (tkK Q qn qc t d).toArray 98 (0, 0)) := blk_set h 16 _
section
variable {w : World} {S : Nat → Prop} {b : Nat} {ts : List Tk} {line : List Int} (h : TableAt w S b ts line) (i : Nat) (t : Nat → Int) (d : Bool) (hi : ts[i]? = some (t, d, .slice none 0 0)) (x y z : Int) (df : Bool) {Y : Option Addr} {yc : Nat} (cs : List ICs) (yn : Nat) (hyn : cs.length = yn) (hy16 : yn ≤ 1000000) (hrd : Rd w 3 (.slice Y yn yc) yn (cs.flatMap icsEn))
include h hi hyn hy16 hrd
set_option maxHeartbeats 4000000 in
theorem park_okC (h2 : (t 2 == 0) = true) (hg : goodB ((15, x, y, z), .slice Y yn yc, cs, df) 1 = true) :
    Calls Tryz.prog 61 #[.pointer (some ⟨b, 0, none⟩), .int .i64 (i : Int), .agg #[.int .i64 15, .int .i64 x, .int .i64 y, .int .i64 z, .slice Y yn yc, .bool df]] w fun e w' => ∃ (Q : Option Addr) (qc : Nat), e = .returned (.int .i64 0) ∧ Fr S w w' ∧ TableAt w' S b (ts.set i (parkT t 15 x y z, df, .slice Q yn qc)) (line.erase (i : Int)) ∧ Sl w' (fun k => w.heap.size ≤ k ∧ k < w'.heap.size) 27 3 (.slice Q yn qc) yn (cs.flatMap icsEn) := by
  have His := Lib.hid (fun W (hW : Fr Nob w W) => is_runs (w := W) (S := S) (b := b) (ts := ts) (line := line) (by obtain ⟨ab, lb, SA, SL, h⟩ := h; exact ⟨ab, lb, SA, SL, h.fr0 hW⟩) i t d hi true (fun W => by have := so_runs W (t 2); rw [h2] at this; exact this) 0 rfl)
  obtain ⟨ab, lb, SA, SL, h⟩ := h
  have hset := fun W (hW : Fr Nob w W) (Q : Option Addr) (qc : Nat) => (h.fr0 hW).set i (List.getElem?_eq_some_iff.1 hi).1 (parkT t 15 x y z, df, .slice Q yn qc) (tkK_one Q yn qc _ _)
  have hrem : ∀ W ts', TabAt W S b ab lb SA SL ts' line → Calls Tryz.prog 101 #[.pointer (some ⟨lb, 0, none⟩), .int .i64 (i : Int)] W fun e w' => (∃ r, e = .returned (.bool r)) ∧ Fr SL W w' ∧ TabAt w' S b ab lb SA SL ts' (line.erase (i : Int)) := fun W ts' hW => by
    by_cases hm : (i : Int) ∈ line
    · exact (ready_remove W SL lb line i hW.ready hm).mono fun e w' ⟨he, hf, hr⟩ => ⟨⟨_, he⟩, hf, hW.setL hf hr⟩
    · rw [List.erase_of_not_mem hm]
      exact (ready_remove_no W SL lb line i hW.ready hm).mono fun e w' ⟨he, hf⟩ => ⟨⟨_, he⟩, hf.none, hW.fr0 hf⟩
  have hb := h.blk
  have hck := fun W b' hb' (hW : Fr Nob w W) => check_oneC W b' 15 x y z df (.slice Y yn yc) cs hb' (by rw [hyn]; exact hrd.fr hW) hg
  have Hset := Lib.hid hset; have Hrem := Lib.hid hrem; have Hb := Lib.hid hb; have H := Lib.hid h; have Hck := Lib.hid hck; have Hcl := Lib.hid (fun W (hW : Fr Nob w W) => clone_ics W (.slice Y yn yc) (cs.flatMap icsEn) yn hy16 (hrd.fr hW) (ics_one cs))
  clear hset hrem hb h hi h2 hck hg hrd
  go_enter Tryz.func61, Tryz.ntmps61
  go_wp2_with fail
  obtain ⟨w1, hw1⟩ : ∃ w1, w1 = w.alloc (.cells #[.int .i64 15, .int .i64 x, .int .i64 y, .int .i64 z, .slice Y yn yc, .bool df] 25) := ⟨_, rfl⟩
  rw [← hw1]
  obtain ⟨pb, hpb⟩ : ∃ pb, pb = w.heap.size := ⟨_, rfl⟩
  rw [← hpb]
  have hf1 : Fr Nob w w1 := by rw [hw1]; exact (Fr.refl Nob w).alloc _
  have hp1 : w1.heap[pb]? = some (.cells #[.int .i64 15, .int .i64 x, .int .i64 y, .int .i64 z, .slice Y yn yc, .bool df] 25 (0, 0)) := by rw [hw1, hpb]; exact heap_alloc_new _ _
  have Hpb : Hid (w.heap.size = pb) := hpb.symm
  clear hw1 hpb
  refine (His.out w1 hf1).mono ?_
  rintro e w2 ⟨rfl, hf2⟩
  have hp2 := hf2.blk id hp1
  have Hp2 := Lib.hid hp2
  have Hf2 := Lib.hid (hf1.trans0 hf2)
  have hpz := lt_of_block hp2
  clear hf2 hp1 hf1 hp2
  have hzn : (w2.alloc (.cells tkZ.toArray 98)).heap[w2.heap.size]? = some (.cells tkZ.toArray 98 (0, 0)) := heap_alloc_new _ _
  unfold tkZ at hzn
  dsimp only [tkL] at hzn
  skip
  all_goals (
    go_wp2_with (refine wpList_store_row _ rfl 98 (.tmp 7) (.tmp 13) rfl w2.heap.size (tkD t d).toArray _ 98 rfl rfl hzn rfl (info18 t d) (tkD_all t d) ?_; intro w3 hb3 hf3; have hp3 := hf3.blk (k := pb) (fun e => by omega) (((Fr.refl Nob w2).alloc _).blk id Hp2.out); have q0 := blk_cell hp3 0 rfl; have q1 := blk_cell hp3 1 rfl; have q2 := blk_cell hp3 2 rfl; have q3 := blk_cell hp3 3 rfl; have q4 := blk_cell hp3 4 rfl; have q5 := blk_cell hp3 5 rfl; have Hb3 := Lib.hid hb3; have Hf3 := Lib.hid hf3; have Hp3 := Lib.hid hp3; clear hb3 hf3 hp3)
    obtain ⟨w4, hw4⟩ : ∃ w4, w4 = w3.alloc (.cells #[.int .i64 15, .int .i64 x, .int .i64 y, .int .i64 z, .slice Y yn yc, .bool df] 25) := ⟨_, rfl⟩
    rw [← hw4]
    have hf34 : Fr Nob w3 w4 := by rw [hw4]; exact (Fr.refl Nob w3).alloc _
    have hi4 : w4.heap[w3.heap.size]? = some (.cells #[.int .i64 15, .int .i64 x, .int .i64 y, .int .i64 z, .slice Y yn yc, .bool df] 25 (0, 0)) := by rw [hw4]; exact heap_alloc_new _ _
    refine (Hck.out w4 _ hi4 (Hf2.out.trans0 (((Fr.refl Nob w2).alloc _).trans Hf3.out fun k hk e => by omega) |>.trans0 hf34)).mono ?_
    rintro e w5 ⟨rfl, hf5⟩
    have hf35 : Fr Nob w3 w5 := hf34.trans0 hf5
    have Hb5 := Lib.hid (hf35.blk id Hb3.out); have Hp5 := Lib.hid (hf35.blk id Hp3.out)
    have hf23 : Fr Nob w2 w3 := ((Fr.refl Nob w2).alloc _).trans Hf3.out fun k hk e => by omega
    have Hf5 := Lib.hid (Hf2.out.trans0 (hf23.trans0 hf35))
    have r4 := blk_cell Hp5.out 4 rfl
    have g4 := blk_froz Hp5.out 4
    clear hw4 hf34 hi4 hf5 hf35 hf23 q0 q1 q2 q3 q4 q5 hzn
    go_wp2_with fail
    refine (Hcl.out w5 Hf5.out).mono ?_
    rintro e wc ⟨vq, rfl, hfc, hsc⟩
    obtain ⟨Q, qc, rfl⟩ := hsc.slice
    have Hbc := Lib.hid (hfc.blk (fun q => q) Hb5.out); have Hpc := Lib.hid (hfc.blk (fun q => q) Hp5.out)
    have Hfc := Lib.hid (Hf5.out.trans0 hfc)
    have Hsc := Lib.hid hsc
    have Hz5 : Hid (w2.heap.size < w5.heap.size ∧ w.heap.size ≤ w5.heap.size ∧ pb < w5.heap.size) := ⟨lt_of_block Hb5.out, Hf5.out.size, lt_of_block Hp5.out⟩
    have r4c := blk_cell Hpc.out 4 rfl
    have g4c := blk_froz Hpc.out 4
    clear hfc hsc r4 g4
    go_wp2_with fail
    obtain ⟨w6, hw6⟩ : ∃ w6, w6 = wc.setCell ⟨pb, 4, none⟩ (.slice Q yn qc) := ⟨_, rfl⟩
    rw [← hw6]
    have hp6 : w6.heap[pb]? = some (.cells #[.int .i64 15, .int .i64 x, .int .i64 y, .int .i64 z, .slice Q yn qc, .bool df] 25 (0, 0)) := by rw [hw6]; exact blk_set Hpc.out 4 _
    have hb6 : w6.heap[w2.heap.size]? = some (.cells (tkD t d).toArray 98 (0, 0)) := by rw [hw6]; exact (blk_set_ne 4 _ (by omega)).trans Hbc.out
    have hf6 : Fr (fun k => k = pb) wc w6 := by rw [hw6]; exact (Fr.refl (fun k => k = pb) wc).setT 4 _
    have Hf6 : Hid (Fr Nob w w6) := Lib.hid (Hfc.out.trans hf6 fun k hk e => by have := Hpb.out; omega)
    have Hs6 := Lib.hid (Hsc.out.fr hf6 fun k q e => by have := q.1; have := Hz5.out.2.2; omega)
    have q0 := blk_cell hp6 0 rfl
    have q1 := blk_cell hp6 1 rfl
    have q2 := blk_cell hp6 2 rfl
    have q3 := blk_cell hp6 3 rfl
    have q4 := blk_cell hp6 4 rfl
    have q5 := blk_cell hp6 5 rfl
    have c2 := tkc2 hb6; have c12 := tkc12 hb6; have c13 := tkc13 hb6; have c14 := tkc14 hb6; have c15 := tkc15 hb6; have c16 := tkc16 hb6; have c17 := tkc17 hb6
    have f2 := tkf hb6 2; have f12 := tkf hb6 12; have f13 := tkf hb6 13; have f14 := tkf hb6 14; have f15 := tkf hb6 15; have f16 := tkf hb6 16; have f17 := tkf hb6 17
    have Hb6 := Lib.hid hb6
    clear hw6 hp6 hb6 hf6 r4c g4c
    go_region
    obtain ⟨w7, hw7⟩ : ∃ w7, w7 = (((((((w6.setCell ⟨w2.heap.size, 2, none⟩ (.int .i64 1)).setCell ⟨w2.heap.size, 12, none⟩ (.int .i64 15)).setCell ⟨w2.heap.size, 13, none⟩ (.int .i64 x)).setCell ⟨w2.heap.size, 14, none⟩ (.int .i64 y)).setCell ⟨w2.heap.size, 15, none⟩ (.int .i64 z)).setCell ⟨w2.heap.size, 16, none⟩ (.slice Q yn qc)).setCell ⟨w2.heap.size, 17, none⟩ (.bool df)).drew := ⟨_, rfl⟩
    rw [← hw7]
    have hb7 : w7.heap[w2.heap.size]? = some (.cells (tkK Q yn qc (parkT t 15 x y z) df).toArray 98 (0, 0)) := by rw [hw7, blk_drew]; exact kp17 (tk16s (tkp15 (tkp14 (tkp13 (tkp12 (tkp2 Hb6.out _) _) _) _) _) Q yn qc) _
    have hf67 : Fr (fun k => k = w2.heap.size) w6 w7 := by rw [hw7]; exact ((((((((Fr.refl (fun k => k = w2.heap.size) w6).setT 2 _).setT 12 _).setT 13 _).setT 14 _).setT 15 _).setT 16 _).setT 17 _).drew
    have Hf7 : Hid (Fr Nob w w7) := Lib.hid (Hf6.out.trans hf67 fun k hk e => by have := Hf2.out.size; omega)
    have Hs7 := Lib.hid (Hs6.out.fr hf67 fun k q e => by have := q.1; have := Hz5.out.1; omega)
    have Hb7 := Lib.hid hb7
    have Hz7 := Lib.hid Hf2.out.size
    clear hw7 hb7 hf67 q0 q1 q2 q3 q4 q5 c2 c12 c13 c14 c15 c16 c17 f2 f12 f13 f14 f15 f16 f17
    have HS0 : Hid (w7.rangeAt w2.heap.size 0 (tkK Q yn qc (parkT t 15 x y z) df) ∧ w7.cell? ⟨b, 0, none⟩ = some (.pointer (some ⟨ab, 0, none⟩))) := ⟨rangeRow Hb7.out, blk_cell (Hf7.out.blk id Hb.out) 0 rfl⟩
    have hns : ¬ SA w2.heap.size := fun q => by have := H.out.lt _ (H.out.subA _ q).1; have := Hz7.out; omega
    have hu44 := Tryz.underlying98
    have hi44 : (Tryz.prog.info? 98).map (·.size) = some (tkK Q yn qc (parkT t 15 x y z) df).length := info_task18
    go_wp2_with fail
    refine wp_region_held_drew (S := fun W => W.rangeAt w2.heap.size 0 (tkK Q yn qc (parkT t 15 x y z) df) ∧ W.cell? ⟨b, 0, none⟩ = some (.pointer (some ⟨ab, 0, none⟩))) (by kernel_rfl) (by simpa using HS0.out) (fun hHeld => ?_)
    refine wpAnyH_take (i := 0) (v := ?_) rfl (by kernel_rfl) (by kernel_rfl) (by kernel_rfl) (fun _ _ _ h => h) (Or.inl ⟨by rfl, ?_⟩) (by assumption) ?_
    rotate_left
    · intro w hSw; (try dsimp only at hSw); go_simp; try with_reducible rfl
    try simp only [List.getElem_toArray, List.getElem_cons_zero, List.getElem_cons_succ, Act.put, List.setIfInBounds_toArray, List.set_cons_zero, List.set_cons_succ]
    refine wpAnyH_take (i := 1) (v := ?_) rfl (by kernel_rfl) (by kernel_rfl) (by kernel_rfl) (fun _ _ _ h => h) (Or.inl ⟨by rfl, ?_⟩) (by assumption) ?_
    rotate_left
    · intro w hSw; (try dsimp only at hSw); go_simp; try with_reducible rfl
    try simp only [List.getElem_toArray, List.getElem_cons_zero, List.getElem_cons_succ, Act.put, List.setIfInBounds_toArray, List.set_cons_zero, List.set_cons_succ]
    refine wpAnyH_take (i := 2) (v := ?_) rfl (by kernel_rfl) (by kernel_rfl) (by kernel_rfl) (fun _ _ _ h => h) (Or.inl ⟨by rfl, ?_⟩) (by assumption) ?_
    rotate_left
    · intro w hSw; (try dsimp only at hSw); go_simp; try with_reducible rfl
    try simp only [List.getElem_toArray, List.getElem_cons_zero, List.getElem_cons_succ, Act.put, List.setIfInBounds_toArray, List.set_cons_zero, List.set_cons_succ]
    refine wpAnyH_take (i := 3) (v := ?_) rfl (by kernel_rfl) (by kernel_rfl) (by kernel_rfl) (fun _ _ _ h => h) (Or.inl ⟨by rfl, ?_⟩) (by assumption) ?_
    rotate_left
    · intro w hSw; (try dsimp only at hSw); go_simp; try with_reducible rfl
    try simp only [List.getElem_toArray, List.getElem_cons_zero, List.getElem_cons_succ, Act.put, List.setIfInBounds_toArray, List.set_cons_zero, List.set_cons_succ]
    refine wpAnyH_take (i := 4) (v := ?_) rfl (by kernel_rfl) (by kernel_rfl) (by kernel_rfl) (fun _ _ _ h => h) (Or.inl ⟨by rfl, ?_⟩) (by assumption) ?_
    rotate_left
    · intro w hSw; (try dsimp only at hSw); go_simp; try with_reducible rfl
    try simp only [List.getElem_toArray, List.getElem_cons_zero, List.getElem_cons_succ, Act.put, List.setIfInBounds_toArray, List.set_cons_zero, List.set_cons_succ]
    refine wpAnyH_take (i := 5) (v := _) rfl (by kernel_rfl) (by kernel_rfl) (by kernel_rfl) (fun _ _ _ h => h) (yieldsIf_load_mid (by rfl) _ _ rfl (w2.heap.size) 0 rfl (tkK Q yn qc (parkT t 15 x y z) df) _ (fun w hw => hw.1) hu44 rfl hi44) (by assumption) ?_
    try simp only [List.getElem_toArray, List.getElem_cons_zero, List.getElem_cons_succ, Act.put, List.setIfInBounds_toArray, List.set_cons_zero, List.set_cons_succ]
    refine wpAnyH_ready (rs := [6]) (by kernel_rfl) (by simp) ?_
    refine AllReadyH.cons rfl (fun K hK => ?_) AllReadyH.nil
    simp only [List.getElem_toArray, List.getElem_cons_zero, List.getElem_cons_succ]
    go_simp
    refine (Hset.out w7.drew Hf7.out.drew Q qc).mono ?_
    rintro e w8 ⟨rfl, hf8, ht8⟩
    refine hK.out _ _ ⟨fun j v hj => hf8.cell (p := ⟨w2.heap.size, 0 + j, none⟩) hns (hHeld.1 j v hj), hf8.cell (p := ⟨b, 0, none⟩) (fun q => (H.out.subA _ q).2 rfl) hHeld.2⟩ (fun hHeld2 => ?_)
    refine wpAnyH_done (by kernel_rfl) ?_ _
    try simp only [List.getElem_toArray, List.getElem_cons_zero, List.getElem_cons_succ, Act.put, List.setIfInBounds_toArray, List.set_cons_zero, List.set_cons_succ]
    have Hf8 := Lib.hid (show Fr SA w7 w8 from ((Fr.refl SA w7).drew).trans0 hf8); have Ht8 := Lib.hid ht8
    have c1 := blk_cell ht8.blk 1 rfl
    clear hf8 ht8 hHeld hHeld2 hK K
    go_wp2_with fail
    refine (Hrem.out w8 _ Ht8.out).mono ?_
    rintro e w9 ⟨⟨r, rfl⟩, hf9, ht9⟩
    have Hf9 := Lib.hid hf9; have Ht9 := Lib.hid ht9
    clear hf9 ht9 c1
    go_wp2_with fail
    go_ret
    have hsl9 := (Hs7.out.fr Hf8.out fun k q e => by have := H.out.lt _ (H.out.subA _ e).1; have := q.1; have := Hz5.out.2.1; omega).fr Hf9.out fun k q e => by have := H.out.lt _ (H.out.subL _ e).1; have := q.1; have := Hz5.out.2.1; omega
    exact ⟨Q, qc, rfl, (Hf7.out.none.trans Hf8.out fun k hk q => (H.out.subA k q).1).trans Hf9.out fun k hk q => (H.out.subL k q).1, ⟨ab, lb, SA, SL, Ht9.out⟩, hsl9.mono fun k hk q => ⟨by have := q.1; have := Hz5.out.2.1; omega, hk⟩⟩)
end
section
variable {w : World} {S : Nat → Prop} {wb : Nat} {P : Pg} {st : WS} {nd nm : Nat} (h : WAt w S wb P st nd nm) (Z : Option Addr) (zn zc : Nat)
include h
set_option maxHeartbeats 2000000 in
theorem passed_sendK (t : Nat → Int) (d : Bool) (h12 : t 12 = 10) (A B : Nat) (hA : A < 8) (hB : B < 8) (h13 : t 13 = A) (h14 : t 14 = B) (id k v : Int) (hid : 0 ≤ id) (ok : Bool) (hnd : nd ≤ 1000000000000) : Calls Tryz.prog 121 #[ptV wb, .agg (tkK Z zn zc t d).toArray, .agg #[inV id, inV k, inV v, .bool ok, .bool false]] w fun e w' => e = .returned (.tuple #[]) ∧ Nx w S wb P st (nd + 1) nm w' := by
  have Hw := Lib.hid (fun W (hW : Fr Nob w W) => world_went (h.fr0 hW) (t (4 + A)) id (t (4 + B)) false (by omega) hnd)
  have H := Lib.hid h
  obtain ⟨W2, hW2⟩ : ∃ W2, W2 = (w.alloc (.cells (tkK Z zn zc t d).toArray 98)).alloc (.cells #[inV id, inV k, inV v, .bool ok, .bool false] 225) := ⟨_, rfl⟩
  have hf2 : Fr Nob w W2 := by rw [hW2]; exact ((Fr.refl Nob w).alloc _).alloc _
  have ht2 : W2.heap[w.heap.size]? = some (.cells (tkK Z zn zc t d).toArray 98 (0, 0)) := by rw [hW2]; exact ((Fr.refl Nob _).alloc _).blk (fun q => q) (heap_alloc_new _ _)
  have hk2 : W2.heap[w.heap.size + 1]? = some (.cells #[inV id, inV k, inV v, .bool ok, .bool false] 225 (0, 0)) := by rw [hW2]; exact blk_alloc_eq _ (by simp)
  have hz2 : W2.heap.size = w.heap.size + 2 := by rw [hW2]; simp
  have c12 := kc12 ht2; have c13 := kc13 ht2; have c14 := kc14 ht2; have c15 := kc15 ht2; have c16 := kc16 ht2; have c17 := kc17 ht2
  rw [h12] at c12; rw [h13] at c13; rw [h14] at c14
  have k3 := blk_cell hk2 3 rfl; have k4 := blk_cell hk2 4 rfl
  have Ht2 := Lib.hid ht2; have Hk2 := Lib.hid hk2; have Hf2 := Lib.hid hf2; have Hz2 := Lib.hid hz2
  generalize t 15 = t15 at *
  
  rw [hW2] at c12 c13 c14 c15 c16 c17 k3 k4
  have HW2 := Lib.hid hW2
  clear h ht2 hk2 hf2 hz2 hW2 h12 h13 h14
  go_enter Tryz.func121, Tryz.ntmps121
  go_wp2_with fail
  rw [← HW2.out]
  clear c12 c13 c14 c15 c16 c17 k3 k4
  obtain ⟨W3, hW3⟩ : ∃ W3, W3 = W2.alloc (.cells #[.int .i64 10, .int .i64 (A : Int), .int .i64 (B : Int), .int .i64 t15, .slice Z zn zc, .bool d] 25) := ⟨_, rfl⟩
  rw [← hW3]
  have hf3 : Fr Nob W2 W3 := by rw [hW3]; exact (Fr.refl Nob W2).alloc _
  have hi3 : W3.heap[W2.heap.size]? = some (.cells #[.int .i64 10, .int .i64 (A : Int), .int .i64 (B : Int), .int .i64 t15, .slice Z zn zc, .bool d] 25 (0, 0)) := by rw [hW3]; exact heap_alloc_new _ _
  rw [Hz2.out] at hi3
  obtain ⟨tb, htb⟩ : ∃ tb, tb = w.heap.size := ⟨_, rfl⟩
  obtain ⟨kb, hkb⟩ : ∃ kb, kb = w.heap.size + 1 := ⟨_, rfl⟩
  obtain ⟨ib, hib⟩ : ∃ ib, ib = w.heap.size + 2 := ⟨_, rfl⟩
  have ht3 := hf3.blk (fun q => q) Ht2.out
  have hk3 := hf3.blk (fun q => q) Hk2.out
  rw [← htb] at ht3; rw [← hkb] at hk3; rw [← hib] at hi3
  have hS : ∀ k, S k → k < w.heap.size := H.out.lt
  have key : ∀ W, Fr S W3 W → W.cell? ⟨ib, 1, none⟩ = some (.int .i64 (A : Int)) ∧ W.cell? ⟨tb, 4 + A, none⟩ = some (.int .i64 (t (4 + A))) ∧ W.cell? ⟨kb, 0, none⟩ = some (inV id) ∧ W.cell? ⟨ib, 2, none⟩ = some (.int .i64 (B : Int)) ∧ W.cell? ⟨tb, 4 + B, none⟩ = some (.int .i64 (t (4 + B))) := fun W hW => by
    have q1 := hW.blk (fun q => by have := hS _ q; omega) ht3
    have q2 := hW.blk (fun q => by have := hS _ q; omega) hk3
    have q3 := hW.blk (fun q => by have := hS _ q; omega) hi3
    exact ⟨blk_cell q3 1 rfl, kcR q1 A hA, blk_cell q2 0 rfl, blk_cell q3 2 rfl, kcR q1 B hB⟩
  try rw [Hz2.out]
  try rw [← hib]
  try rw [← hkb]
  try rw [← htb]
  have Key := Lib.hid key
  have Hf3 := Lib.hid (Hf2.out.trans0 hf3)
  have hAi : (A : Int) < 8 := by omega
  have hBi : (B : Int) < 8 := by omega
  clear key hW3 hf3 hi3 ht3 hk3 htb hkb hib
  have hf0 : Fr S W3 W3 := Fr.refl _ _
  go_region_held3 (fun W => W.cell? ⟨ib, 1, none⟩ = some (.int .i64 (A : Int)) ∧ W.cell? ⟨tb, 4 + A, none⟩ = some (.int .i64 (t (4 + A))) ∧ W.cell? ⟨kb, 0, none⟩ = some (inV id) ∧ W.cell? ⟨ib, 2, none⟩ = some (.int .i64 (B : Int)) ∧ W.cell? ⟨tb, 4 + B, none⟩ = some (.int .i64 (t (4 + B))))
    ((refine Key.out _ ?_; first | with_reducible exact hf4 | with_reducible exact hf0 | exact hf0.drew))
    ((go_at_call 77; refine (Hw.out W3.drew (Hf3.out.drew)).mono ?_; rintro e w4 ⟨rfl, hn4⟩; obtain ⟨S4, hf4', ha4, hs4⟩ := hn4; have hf4 : Fr S W3 w4 := (hf0.drew).trans0 hf4'; have Hn4 : Hid (Nx W3.drew S wb P st (nd + 1) nm w4) := Lib.hid ⟨S4, hf4', ha4, hs4⟩; clear hf4' ha4 hs4))
  go_wp2_with fail
  all_goals
    go_end0
    exact ⟨rfl, Nx.from0 Hf3.out.drew Hn4.out⟩
set_option maxHeartbeats 2000000 in
theorem passed_recvK (t : Nat → Int) (d : Bool) (h12 : t 12 = 11) (A : Nat) (hA : A < 8) (h13 : t 13 = A) (id k v : Int) (hid : 0 ≤ id) (hnd : nd ≤ 1000000000000) : Calls Tryz.prog 121 #[ptV wb, .agg (tkK Z zn zc t d).toArray, .agg #[inV id, inV k, inV v, .bool true, .bool false]] w fun e w' => e = .returned (.tuple #[]) ∧ Nx w S wb P st (nd + 1) nm w' := by
  have Hw := Lib.hid (fun W (hW : Fr Nob w W) => world_went (h.fr0 hW) (t (4 + A)) id v true (by omega) hnd)
  have H := Lib.hid h
  obtain ⟨W2, hW2⟩ : ∃ W2, W2 = (w.alloc (.cells (tkK Z zn zc t d).toArray 98)).alloc (.cells #[inV id, inV k, inV v, .bool true, .bool false] 225) := ⟨_, rfl⟩
  have hf2 : Fr Nob w W2 := by rw [hW2]; exact ((Fr.refl Nob w).alloc _).alloc _
  have ht2 : W2.heap[w.heap.size]? = some (.cells (tkK Z zn zc t d).toArray 98 (0, 0)) := by rw [hW2]; exact ((Fr.refl Nob _).alloc _).blk (fun q => q) (heap_alloc_new _ _)
  have hk2 : W2.heap[w.heap.size + 1]? = some (.cells #[inV id, inV k, inV v, .bool true, .bool false] 225 (0, 0)) := by rw [hW2]; exact blk_alloc_eq _ (by simp)
  have hz2 : W2.heap.size = w.heap.size + 2 := by rw [hW2]; simp
  have c12 := kc12 ht2; have c13 := kc13 ht2; have c14 := kc14 ht2; have c15 := kc15 ht2; have c16 := kc16 ht2; have c17 := kc17 ht2
  rw [h12] at c12; rw [h13] at c13
  have k3 := blk_cell hk2 3 rfl; have k4 := blk_cell hk2 4 rfl
  have Ht2 := Lib.hid ht2; have Hk2 := Lib.hid hk2; have Hf2 := Lib.hid hf2; have Hz2 := Lib.hid hz2
  generalize t 15 = t15 at *
  generalize t 14 = t14 at *
  rw [hW2] at c12 c13 c14 c15 c16 c17 k3 k4
  have HW2 := Lib.hid hW2
  clear h ht2 hk2 hf2 hz2 hW2 h12 h13
  go_enter Tryz.func121, Tryz.ntmps121
  go_wp2_with fail
  rw [← HW2.out]
  clear c12 c13 c14 c15 c16 c17 k3 k4
  obtain ⟨W3, hW3⟩ : ∃ W3, W3 = W2.alloc (.cells #[.int .i64 11, .int .i64 (A : Int), .int .i64 t14, .int .i64 t15, .slice Z zn zc, .bool d] 25) := ⟨_, rfl⟩
  rw [← hW3]
  have hf3 : Fr Nob W2 W3 := by rw [hW3]; exact (Fr.refl Nob W2).alloc _
  have hi3 : W3.heap[W2.heap.size]? = some (.cells #[.int .i64 11, .int .i64 (A : Int), .int .i64 t14, .int .i64 t15, .slice Z zn zc, .bool d] 25 (0, 0)) := by rw [hW3]; exact heap_alloc_new _ _
  rw [Hz2.out] at hi3
  obtain ⟨tb, htb⟩ : ∃ tb, tb = w.heap.size := ⟨_, rfl⟩
  obtain ⟨kb, hkb⟩ : ∃ kb, kb = w.heap.size + 1 := ⟨_, rfl⟩
  obtain ⟨ib, hib⟩ : ∃ ib, ib = w.heap.size + 2 := ⟨_, rfl⟩
  have ht3 := hf3.blk (fun q => q) Ht2.out
  have hk3 := hf3.blk (fun q => q) Hk2.out
  rw [← htb] at ht3; rw [← hkb] at hk3; rw [← hib] at hi3
  have hS : ∀ k, S k → k < w.heap.size := H.out.lt
  have key : ∀ W, Fr S W3 W → W.cell? ⟨ib, 1, none⟩ = some (.int .i64 (A : Int)) ∧ W.cell? ⟨tb, 4 + A, none⟩ = some (.int .i64 (t (4 + A))) ∧ W.cell? ⟨kb, 0, none⟩ = some (inV id) ∧ W.cell? ⟨kb, 2, none⟩ = some (inV v) := fun W hW => by
    have q1 := hW.blk (fun q => by have := hS _ q; omega) ht3
    have q2 := hW.blk (fun q => by have := hS _ q; omega) hk3
    have q3 := hW.blk (fun q => by have := hS _ q; omega) hi3
    exact ⟨blk_cell q3 1 rfl, kcR q1 A hA, blk_cell q2 0 rfl, blk_cell q2 2 rfl⟩
  try rw [Hz2.out]
  try rw [← hib]
  try rw [← hkb]
  try rw [← htb]
  have Key := Lib.hid key
  have Hf3 := Lib.hid (Hf2.out.trans0 hf3)
  have hAi : (A : Int) < 8 := by omega
  
  clear key hW3 hf3 hi3 ht3 hk3 htb hkb hib
  have hf0 : Fr S W3 W3 := Fr.refl _ _
  go_region_held3 (fun W => W.cell? ⟨ib, 1, none⟩ = some (.int .i64 (A : Int)) ∧ W.cell? ⟨tb, 4 + A, none⟩ = some (.int .i64 (t (4 + A))) ∧ W.cell? ⟨kb, 0, none⟩ = some (inV id) ∧ W.cell? ⟨kb, 2, none⟩ = some (inV v))
    ((refine Key.out _ ?_; first | with_reducible exact hf4 | with_reducible exact hf0 | exact hf0.drew))
    ((go_at_call 77; refine (Hw.out W3.drew (Hf3.out.drew)).mono ?_; rintro e w4 ⟨rfl, hn4⟩; obtain ⟨S4, hf4', ha4, hs4⟩ := hn4; have hf4 : Fr S W3 w4 := (hf0.drew).trans0 hf4'; have Hn4 : Hid (Nx W3.drew S wb P st (nd + 1) nm w4) := Lib.hid ⟨S4, hf4', ha4, hs4⟩; clear hf4' ha4 hs4))
  go_wp2_with fail
  all_goals
    go_end0
    exact ⟨rfl, Nx.from0 Hf3.out.drew Hn4.out⟩
set_option maxHeartbeats 2000000 in
theorem passed_selK (t : Nat → Int) (d : Bool) (h12 : t 12 = 15) (cs : List ICs) (hrd : Rd w 3 (.slice Z zn zc) zn (cs.flatMap icsEn)) (hgS : ∀ g off, Z = some ⟨g, off, none⟩ → ¬ S g) (k : Nat) (hk : k < zn) (A : Nat) (vl : Int) (hz : cs[k]? = some (false, (A : Int), vl)) (hA : A < 8) (id v : Int) (hid : 0 ≤ id) (hnd : nd ≤ 1000000000000) : Calls Tryz.prog 121 #[ptV wb, .agg (tkK Z zn zc t d).toArray, .agg #[inV id, inV (k : Int), inV v, .bool true, .bool false]] w fun e w' => e = .returned (.tuple #[]) ∧ Nx w S wb P st (nd + 1) nm w' := by
  obtain ⟨_, hmax, Z', zc', hv, hc1, hc2, hAA⟩ := hrd
  injection hv with e1 e2 e3
  subst e1; subst e3
  obtain ⟨g, off, rfl, hgl, hcc⟩ := hAA (by omega)
  have hgn := hgS g off rfl
  have p0 := hcc _ _ ((csGet cs k 0 _ hz (by omega)).trans rfl)
  have p1 := hcc _ _ ((csGet cs k 1 _ hz (by omega)).trans rfl)
  rw [Nat.add_zero] at p0
  rw [← Nat.add_assoc] at p1
  have P0 := Lib.hid p0; have P1 := Lib.hid p1
  have hki : (k : Int) < zn := by omega
  clear hAA hcc hz p0 p1 hgS
  have Hw := Lib.hid (fun W (hW : Fr Nob w W) => world_went (h.fr0 hW) (t (4 + A)) id v true (by omega) hnd)
  have H := Lib.hid h
  obtain ⟨W2, hW2⟩ : ∃ W2, W2 = (w.alloc (.cells (tkK (some ⟨g, off, none⟩) zn zc t d).toArray 98)).alloc (.cells #[inV id, inV (k : Int), inV v, .bool true, .bool false] 225) := ⟨_, rfl⟩
  have hf2 : Fr Nob w W2 := by rw [hW2]; exact ((Fr.refl Nob w).alloc _).alloc _
  have ht2 : W2.heap[w.heap.size]? = some (.cells (tkK (some ⟨g, off, none⟩) zn zc t d).toArray 98 (0, 0)) := by rw [hW2]; exact ((Fr.refl Nob _).alloc _).blk (fun q => q) (heap_alloc_new _ _)
  have hk2 : W2.heap[w.heap.size + 1]? = some (.cells #[inV id, inV (k : Int), inV v, .bool true, .bool false] 225 (0, 0)) := by rw [hW2]; exact blk_alloc_eq _ (by simp)
  have hz2 : W2.heap.size = w.heap.size + 2 := by rw [hW2]; simp
  have c12 := kc12 ht2; have c13 := kc13 ht2; have c14 := kc14 ht2; have c15 := kc15 ht2; have c16 := kc16 ht2; have c17 := kc17 ht2
  rw [h12] at c12
  have k3 := blk_cell hk2 3 rfl; have k4 := blk_cell hk2 4 rfl
  have Ht2 := Lib.hid ht2; have Hk2 := Lib.hid hk2; have Hf2 := Lib.hid hf2; have Hz2 := Lib.hid hz2
  generalize t 15 = t15 at *
  generalize t 13 = t13 at *
  generalize t 14 = t14 at *
  rw [hW2] at c12 c13 c14 c15 c16 c17 k3 k4
  have HW2 := Lib.hid hW2
  clear h ht2 hk2 hf2 hz2 hW2 h12
  have pw0 := ((Fr.refl Nob W2).alloc (.cells #[.int .i64 15, .int .i64 t13, .int .i64 t14, .int .i64 t15, .slice (some ⟨g, off, none⟩) zn zc, .bool d] 25)).cell (p := ⟨g, off + k * 3, none⟩) (fun q => q) (Hf2.out.cell (p := ⟨g, off + k * 3, none⟩) (fun q => q) P0.out)
  rw [HW2.out] at pw0
  have k1 := blk_cell Hk2.out 1 rfl
  rw [HW2.out] at k1
  go_enter Tryz.func121, Tryz.ntmps121
  go_wp2_with fail
  rw [← HW2.out]
  clear c12 c13 c14 c15 c16 c17 k3 k4 k1 pw0
  obtain ⟨W3, hW3⟩ : ∃ W3, W3 = W2.alloc (.cells #[.int .i64 15, .int .i64 t13, .int .i64 t14, .int .i64 t15, .slice (some ⟨g, off, none⟩) zn zc, .bool d] 25) := ⟨_, rfl⟩
  rw [← hW3]
  have hf3 : Fr Nob W2 W3 := by rw [hW3]; exact (Fr.refl Nob W2).alloc _
  have hi3 : W3.heap[W2.heap.size]? = some (.cells #[.int .i64 15, .int .i64 t13, .int .i64 t14, .int .i64 t15, .slice (some ⟨g, off, none⟩) zn zc, .bool d] 25 (0, 0)) := by rw [hW3]; exact heap_alloc_new _ _
  rw [Hz2.out] at hi3
  obtain ⟨tb, htb⟩ : ∃ tb, tb = w.heap.size := ⟨_, rfl⟩
  obtain ⟨kb, hkb⟩ : ∃ kb, kb = w.heap.size + 1 := ⟨_, rfl⟩
  obtain ⟨ib, hib⟩ : ∃ ib, ib = w.heap.size + 2 := ⟨_, rfl⟩
  have ht3 := hf3.blk (fun q => q) Ht2.out
  have hk3 := hf3.blk (fun q => q) Hk2.out
  rw [← htb] at ht3; rw [← hkb] at hk3; rw [← hib] at hi3
  have hS : ∀ k, S k → k < w.heap.size := H.out.lt
  have key : ∀ W, Fr S W3 W → W.cell? ⟨ib, 4, none⟩ = some (.slice (some ⟨g, off, none⟩) zn zc) ∧ W.cell? ⟨kb, 1, none⟩ = some (inV (k : Int)) ∧ W.cell? ⟨g, off + k * 3 + 1, none⟩ = some (.int .i64 (A : Int)) ∧ W.cell? ⟨tb, 4 + A, none⟩ = some (.int .i64 (t (4 + A))) ∧ W.cell? ⟨kb, 0, none⟩ = some (inV id) ∧ W.cell? ⟨kb, 2, none⟩ = some (inV v) := fun W hW => by
    have q1 := hW.blk (fun q => by have := hS _ q; omega) ht3
    have q2 := hW.blk (fun q => by have := hS _ q; omega) hk3
    have q3 := hW.blk (fun q => by have := hS _ q; omega) hi3
    exact ⟨blk_cell q3 4 rfl, blk_cell q2 1 rfl, hW.cell (p := ⟨g, off + k * 3 + 1, none⟩) hgn ((Hf2.out.trans0 hf3).cell (p := ⟨g, off + k * 3 + 1, none⟩) (fun q => q) P1.out), kcR q1 A hA, blk_cell q2 0 rfl, blk_cell q2 2 rfl⟩
  try rw [Hz2.out]
  try rw [← hib]
  try rw [← hkb]
  try rw [← htb]
  have Key := Lib.hid key
  have Hf3 := Lib.hid (Hf2.out.trans0 hf3)
  have hAi : (A : Int) < 8 := by omega
  
  clear key hW3 hf3 hi3 ht3 hk3 htb hkb hib
  have hf0 : Fr S W3 W3 := Fr.refl _ _
  go_region_held3 (fun W => W.cell? ⟨ib, 4, none⟩ = some (.slice (some ⟨g, off, none⟩) zn zc) ∧ W.cell? ⟨kb, 1, none⟩ = some (inV (k : Int)) ∧ W.cell? ⟨g, off + k * 3 + 1, none⟩ = some (.int .i64 (A : Int)) ∧ W.cell? ⟨tb, 4 + A, none⟩ = some (.int .i64 (t (4 + A))) ∧ W.cell? ⟨kb, 0, none⟩ = some (inV id) ∧ W.cell? ⟨kb, 2, none⟩ = some (inV v))
    ((refine Key.out _ ?_; first | with_reducible exact hf4 | with_reducible exact hf0 | exact hf0.drew))
    ((go_at_call 77; refine (Hw.out W3.drew (Hf3.out.drew)).mono ?_; rintro e w4 ⟨rfl, hn4⟩; obtain ⟨S4, hf4', ha4, hs4⟩ := hn4; have hf4 : Fr S W3 w4 := (hf0.drew).trans0 hf4'; have Hn4 : Hid (Nx W3.drew S wb P st (nd + 1) nm w4) := Lib.hid ⟨S4, hf4', ha4, hs4⟩; clear hf4' ha4 hs4))
  go_wp2_with fail
  all_goals
    go_end0
    exact ⟨rfl, Nx.from0 Hf3.out.drew Hn4.out⟩
end
theorem Tryz.info_kase : (Tryz.prog.info? 242).map (fun i => (i.zero, i.size, i.bytes)) = some (some (.agg #[.pointer none, .bool false, .int .i64 0]), 3, 24) := by kernel_rfl
theorem cases_get {st : WS} {r : Nat → Int} : ∀ {cs : List ICs} {l : List Cs}, st.cases r cs = some l → l.length = cs.length ∧ ∀ (k : Nat) (x : ICs), cs[k]? = some x → ∃ o, st.chan (r x.2.1.toNat) = some o ∧ l[k]? = some (o, x.1, r x.2.2.toNat)
  | [], l, h => by simp [WS.cases] at h; subst h; exact ⟨rfl, fun k x hx => by simp at hx⟩
  | c :: cs, l, h => by
    unfold WS.cases at h
    split at h
    · cases h
    · next o ho =>
      split at h
      · cases h
      · next q hq =>
        cases h
        obtain ⟨h1, h2⟩ := cases_get hq
        refine ⟨by simp [h1], fun k x hx => ?_⟩
        cases k with
        | zero => simp at hx; subst hx; exact ⟨o, ho, rfl⟩
        | succ k => exact h2 k x (by simpa using hx)
theorem regR_cell {w : World} {rb : Nat} {r : Nat → Int} (h : w.heap[rb]? = some (.cells (regR r) 74 (0, 0))) (y : Nat) (hy : y < 8) : w.cell? ⟨rb, y, none⟩ = some (inV (r y)) := by
  match y, hy with
  | 0, _ => exact blk_cell h 0 rfl
  | 1, _ => exact blk_cell h 1 rfl
  | 2, _ => exact blk_cell h 2 rfl
  | 3, _ => exact blk_cell h 3 rfl
  | 4, _ => exact blk_cell h 4 rfl
  | 5, _ => exact blk_cell h 5 rfl
  | 6, _ => exact blk_cell h 6 rfl
  | 7, _ => exact blk_cell h 7 rfl
set_option maxHeartbeats 2000000 in
theorem world_cases {w : World} {F : Nat → Nat → Prop} {c : Cfg} {P : Pg} {st : WS} {nd nm : Nat} (h : WP H0 w F c P st nd nm) (op ia ib ic : Int) (cv : Value) (df : Bool) (cs : List ICs) (n : Nat) (hn : cs.length = n) (hn16 : n ≤ 16) (hrd : Rd w 3 cv n (cs.flatMap icsEn)) (r : Nat → Int) (hreg : ∀ x ∈ cs, csB x = true) {l : List Cs} (hl : st.cases r cs = some l) :
    Calls Tryz.prog 122 #[ptV c.wb, .agg #[inV op, inV ia, inV ib, inV ic, cv, .bool df], .agg (regR r)] w fun e w' => ∃ v, e = .returned (.tuple #[v, .bool true]) ∧ Fr Nob w w' ∧ Sl w' (fun q => w.heap.size ≤ q ∧ q < w'.heap.size) 242 3 v n (css c.B l) := by
  obtain ⟨_, _, A, cp, rfl, hc1, hc2, hA⟩ := hrd
  have Hg := Lib.hid (cases_get hl)
  have Hch := Lib.hid (fun W (hW : Fr Nob w W) => world_channel (h.fr0 hW))
  have HA := Lib.hid hA; have Hn := Lib.hid hn; have Hreg := Lib.hid hreg
  clear h hA hl hn hreg
  go_enter Tryz.func122, Tryz.ntmps122
  go_wp2_with fail
  obtain ⟨w1, hw1⟩ : ∃ w1, w1 = (w.alloc (.cells #[inV op, inV ia, inV ib, inV ic, .slice A n cp, .bool df] 25)).alloc (.cells (regR r) 74) := ⟨_, rfl⟩
  rw [← hw1]
  have hf1 : Fr Nob w w1 := by rw [hw1]; exact ((Fr.refl Nob w).alloc _).alloc _
  have hrb : w1.heap[w.heap.size + 1]? = some (.cells (regR r) 74 (0, 0)) := by rw [hw1]; exact blk_alloc_eq _ (by simp)
  obtain ⟨rb, hrb'⟩ : ∃ rb, rb = w.heap.size + 1 := ⟨_, rfl⟩
  rw [← hrb'] at hrb ⊢
  obtain ⟨xb, hxb⟩ : ∃ xb, xb = w.heap.size := ⟨_, rfl⟩
  have Hf1 := Lib.hid hf1; have Hrb := Lib.hid hrb
  have Hrb' := Lib.hid hrb'
  clear hw1 hf1 hrb hrb' hxb
  go_loopw [6, 15] (fun ov i wr => ∃ k : Nat, k ≤ n ∧ i = .int .i64 k ∧ Hid (Fr Nob w1 wr ∧ Sl wr (fun q => w1.heap.size ≤ q ∧ q < wr.heap.size) 242 3 ov k (css c.B (l.take k)))) (fun _ i _ => n - (intOf i).toNat)
  case atStart => exact ⟨0, Nat.zero_le _, rfl, Lib.hid ⟨Fr.refl _ _, Sl.nil _ _ _ _⟩⟩
  case round =>
    obtain ⟨k, hk, rfl, hr⟩ := hrel
    by_cases hlt : k < n
    · obtain ⟨x, hx⟩ : ∃ x, cs[k]? = some x := ⟨cs[k]'(by rw [Hn.out]; exact hlt), by simp⟩
      obtain ⟨o, ho, hlk⟩ := Hg.out.2 k x hx
      obtain ⟨hfr, hsl⟩ := hr.out
      obtain ⟨Ao, co, rfl⟩ := hsl.slice
      obtain ⟨g, off, rfl, hgl, hc⟩ := HA.out (by omega)
      have hq : ∀ j u, j < 3 → (icsEn x)[j]? = some u → wr.cell? ⟨g, off + (k * 3 + j), none⟩ = some u := fun j u hj hu => (Hf1.out.trans0 hfr).cell (p := ⟨g, off + (k * 3 + j), none⟩) (fun q => q) (hc _ _ ((csGet cs k j x hx hj).trans hu))
      have q0 := hq 0 _ (by omega) rfl
      have q1 := hq 1 _ (by omega) rfl
      have q2 := hq 2 _ (by omega) rfl
      rw [← Nat.add_assoc] at q1 q2
      rw [Nat.add_zero] at q0
      have hcb := Hreg.out x (List.mem_of_getElem? hx)
      obtain ⟨xs, xc, xv⟩ := x
      unfold csB at hcb
      simp only [Bool.and_eq_true] at hcb
      obtain ⟨⟨hb1, hb2⟩, _⟩ := hcb
      obtain ⟨y, rfl, hy⟩ := reg_of hb1
      obtain ⟨z, rfl, hz⟩ := reg_of hb2
      dsimp only at q0 q1 q2 ho hlk
      simp only [Int.toNat_natCast] at ho hlk
      have hrr := hfr.blk (fun q => q) Hrb.out
      have ry := regR_cell hrr y hy
      have rz := regR_cell hrr z hz
      have ry' := ((Fr.refl Nob wr).alloc (.cells #[.bool xs, inV (y : Int), inV (z : Int)] 27)).cell (fun q => q) ry
      have rz' := ((Fr.refl Nob wr).alloc (.cells #[.bool xs, inV (y : Int), inV (z : Int)] 27)).cell (fun q => q) rz
      have hy8 : (y : Int) < 8 := by omega
      have hz8 : (z : Int) < 8 := by omega
      have hki : (k : Int) < n := by omega
      have Hcall := Lib.hid (Hch.out (wr.alloc (.cells #[.bool xs, inV (y : Int), inV (z : Int)] 27)) ((Hf1.out.trans0 hfr).alloc _) (r y) o ho)
      have Hfr := Lib.hid hfr; have Hsl := Lib.hid hsl; have Hlk := Lib.hid hlk
      clear hc hq hx hb1 hb2 ho hlk hfr hsl hr hrr ry rz
      go_wp2_with fail
      refine Hcall.out.mono ?_
      rintro e _ ⟨rfl, rfl⟩
      obtain ⟨w2, hw2⟩ : ∃ w2, w2 = wr.alloc (.cells #[.bool xs, inV (y : Int), inV (z : Int)] 27) := ⟨_, rfl⟩
      rw [← hw2] at ry' rz' ⊢
      obtain ⟨kb, hkb⟩ : ∃ kb, kb = wr.heap.size := ⟨_, rfl⟩
      try rw [← hkb]
      have hf2 : Fr Nob wr w2 := by rw [hw2]; exact (Fr.refl Nob wr).alloc _
      have hb2 : w2.heap[kb]? = some (.cells #[.bool xs, inV (y : Int), inV (z : Int)] 27 (0, 0)) := by rw [hw2, hkb]; exact heap_alloc_new _ _
      have k0 := blk_cell hb2 0 rfl; have k2 := blk_cell hb2 2 rfl
      have Hf2 := Lib.hid hf2
      clear hw2 hkb hf2 hb2 q0 q1 q2 Hcall ry'
      go_wp2_with fail
      go_region_law ((refine step_append_sl _ (by rfl) _ _ _ (by rfl) (fun q => w1.heap.size ≤ q ∧ q < wr.heap.size) 242 _ 3 24 Tryz.underlying227 Tryz.info_kase rfl (by omega) (.slice Ao k co) k (css c.B (l.take k)) (by rfl) (((Hsl.out.fr Hf2.out (fun _ _ q => q)).alloc _).drew) ⟨w2.heap.size, 0, none⟩ 1 1 [.pointer (pa c.B o), .bool xs, inV (r z)] (by rfl) (by rfl) (news_lit _ [.pointer (pa c.B o), .bool xs, inV (r z)] 242 (0, 0) _ (heap_alloc_new w2 _)) (by rfl) (by omega) (by omega) ?_; intro v3 w3 hs3 hf3; have Hs3 := Lib.hid hs3; have Hf3 := Lib.hid hf3; clear hs3 hf3))
      all_goals
        have hz3 := Hf3.out.size
        have hz2 := Hf2.out.size
        have hz1 := Hfr.out.size
        have hw1z : w.heap.size ≤ w1.heap.size := Hf1.out.size
        simp at hz3
        have hfin : Fr Nob w1 w3 := (Hfr.out.trans0 (Hf2.out.trans0 ((Fr.refl Nob w2).alloc _).drew)).trans Hf3.out fun q hq a => by omega
        have hsl3 : Sl w3 (fun q => w1.heap.size ≤ q ∧ q < w3.heap.size) 242 3 v3 (k + 1) (css c.B (l.take (k + 1))) := by
          rw [take_snocC l k _ Hlk.out]
          simp only [css, List.flatMap_append, List.flatMap_cons, List.flatMap_nil, List.append_nil]
          exact Hs3.out.mono fun q hq a => by rcases a with a | a; exact ⟨a.1, hq⟩; simp at a; exact ⟨by omega, hq⟩
        have Hfin := Lib.hid hfin; have Hsl3 := Lib.hid hsl3
        clear hfin hsl3 hz3 hz2 hz1 hw1z
        go_wp2_with fail
        go_roundw
        case rel => exact ⟨k + 1, by omega, by go_num, Lib.hid ⟨Hfin.out, Hsl3.out⟩⟩
        case measure => simp [intOf]; omega
    · obtain rfl : k = n := by omega
      obtain ⟨hfr, hsl⟩ := hr.out
      rw [List.take_of_length_le (by rw [Hg.out.1, Hn.out]; exact Nat.le_refl _)] at hsl
      have Hfr := Lib.hid (Hf1.out.trans0 hfr); have Hsl := Lib.hid hsl
      clear hfr hsl hr
      go_wp2_with fail
      go_ret2
      exact ⟨_, rfl, Hfr.out, Hsl.out.mono fun q _ a => ⟨by have : w.heap.size ≤ w1.heap.size := Hf1.out.size; omega, a.2⟩⟩
end Go.Proofs.YtcffplgimbbflaaGreat
