/- Who waits on a channel, from outside; what two laws need. -/
import Derived.Test.YtcffplgimbbflaaGreatSlQ5
set_option linter.unusedVariables false
set_option linter.unusedSimpArgs false
namespace Go.Proofs.YtcffplgimbbflaaGreat
open Go.RowKit
set_option maxRecDepth 100000
section
variable (w : World) (v : Value) (ps : List Ins) (n k : Nat) (r : Nat → Int) (now : Int) (hn : ps.length = n) (h : Rd w 6 v n (ps.flatMap insEn)) (hok : ∀ i ∈ ps, InsOk w i)
include hn h hok
set_option maxHeartbeats 2000000 in
theorem do_zero (a : Nat) (b : Int) (c : Int) (v2 : Value) (cs : List ICs) (d : Bool) (hk : ps[k]? = some (((5, (a : Int), b, c), v2, cs, d) : Ins)) (hgood : progB ps = true) (ha : a < 8) (hz : r a = 0) :
    Calls Tryz.prog 57 #[v, .int .i64 k, .agg (regA r), .int .i64 now] w fun e w' => e = .returned (.tuple #[.agg (outA b r false 0 false), .int .i64 0]) ∧ Fr Nob w w' := by
  have hio : InsOk w ((5, (a : Int), b, c), v2, cs, d) := hok _ (List.mem_of_getElem? hk)
  have hkn : k < n := by rw [← hn]; exact (List.getElem?_eq_some_iff.1 hk).1
  have hch := fun W (hf : Fr Nob w W) => check_any W _ ps n hn (h.fr hf) fun i hi => (hok i hi).fr hf
  have hm : ∀ W : World, Calls Tryz.prog 84 #[.int .i64 5] W fun e w' => e = .returned (.bool true) ∧ W = w' := fun W => mine_any W 5
  obtain ⟨_, hl, A, c1, rfl, hc1, hc2, hA⟩ := h
  obtain ⟨g, o, rfl, hgl, hc⟩ := hA (by omega)
  unfold maxLen at hl
  obtain ⟨_, _, A2, c2, hv, _⟩ := id hio
  dsimp only at hv
  subst hv
  have q0 := hc _ _ ((insGet ps k 0 _ hk (by omega)).trans rfl)
  have q1 := hc _ _ ((insGet ps k 1 _ hk (by omega)).trans rfl)
  have q2 := hc _ _ ((insGet ps k 2 _ hk (by omega)).trans rfl)
  have q3 := hc _ _ ((insGet ps k 3 _ hk (by omega)).trans rfl)
  have q4 := hc _ _ ((insGet ps k 4 _ hk (by omega)).trans rfl)
  have q5 := hc _ _ ((insGet ps k 5 _ hk (by omega)).trans rfl)
  rw [← Nat.add_assoc] at q1 q2 q3 q4 q5
  rw [Nat.add_zero] at q0
  have hi28 : (Tryz.prog.info? 138).map (fun i => i.size) = some 12 := by kernel_rfl
  have hi39 : (Tryz.prog.info? 25).map (fun i => i.size) = some 6 := by kernel_rfl
  have hf0 : Fr Nob w ((w.alloc (.cells (regA r) 74)).alloc (.cells outZ 138)) := ((Fr.refl _ _).alloc _).alloc _
  have hb0 : ((w.alloc (.cells (regA r) 74)).alloc (.cells outZ 138)).heap[w.heap.size + 1]? = some (.cells outZ 138 (0, 0)) := blk_alloc_eq _ (by simp)
  have hr0 : ((w.alloc (.cells (regA r) 74)).alloc (.cells outZ 138)).heap[w.heap.size]? = some (.cells (regA r) 74 (0, 0)) := (Fr.alloc (Fr.refl Nob _) _).blk id (blk_alloc_eq _ rfl)
  rw [hgood] at hch
  have hki : (k : Int) < n := by omega
  have Hch := Lib.hid hch; have Hf0 := Lib.hid hf0; have Hb0 := Lib.hid hb0; have Hi := Lib.hid hi28; have Hi39 := Lib.hid hi39; have Hr0 := Lib.hid hr0; have Hm := Lib.hid hm
  have Q0 := Lib.hid q0; have Q1 := Lib.hid q1; have Q2 := Lib.hid q2; have Q3 := Lib.hid q3; have Q4 := Lib.hid q4; have Q5 := Lib.hid q5
  clear hch hok hf0 hb0 hi28 hr0 hi39 hio hc hk hm q0 q1 q2 q3 q4 q5
  go_enter Tryz.func57, Tryz.ntmps57
  go_wp2_with fail
  refine (Hch.out _ Hf0.out).mono ?_
  rintro e w1 ⟨rfl, hf1⟩
  have Hf1 := Lib.hid hf1; have Hb1 := Lib.hid (hf1.blk id Hb0.out); have Hr1 := Lib.hid (hf1.blk id Hr0.out); have Hf01 := Lib.hid (Hf0.out.trans0 hf1)
  have Hlt := Lib.hid (lt_of_block Hb1.out)
  obtain ⟨r0, r1, r2, r3, r4, r5, r6, r7⟩ := reg_cells Hr1.out
  have x0 := Hf01.out.cell (p := ⟨g, o + k * 6, none⟩) id Q0.out
  clear hf1
  have k0 : decide (0 ≤ k) = true := decide_eq_true (Nat.zero_le k)
  have k0' : decide ((0 : Int) ≤ k) = true := decide_eq_true (by omega)
  have k1 : decide ((k : Int) < 0) = false := decide_eq_false (by omega)
  have k2 : decide ((n : Int) < k) = false := decide_eq_false (by omega)
  have k2' : decide (n < k) = false := decide_eq_false (by omega)
  have k3 : decide (k < n) = true := decide_eq_true hkn
  have k4 : decide ((k : Int) < n) = true := decide_eq_true hki
  have k5 : ((k : Int) == (n : Int)) = false := beq_eq_false_iff_ne.2 (by omega)
  have k6 : (k == n) = false := beq_eq_false_iff_ne.2 (by omega)
  go_wp2_with fail
  refine (Hm.out _).mono ?_
  rintro e _ ⟨rfl, rfl⟩
  go_wp2_with (first
    | (refine wpList_store_row _ rfl 138 (.tmp 10) (.tmp 47) rfl w1.heap.size (outA (k + 1) r false 0 false) outZ 138 rfl rfl (blk_alloc_eq _ rfl) rfl Hi.out (outA_one _ _ _ _ _) ?_
       intro w2 hb2 hf2
       have Hb2 := Lib.hid hb2; have Hf2 := Lib.hid (((Fr.refl (From w1.heap.size) w1).alloc _).trans0 (hf2.mono fun k _ e => by rw [e]; exact Nat.le_refl _))
       clear hb2 hf2
       have y0 := Hf2.out.cell (p := ⟨g, o + k * 6, none⟩) (by simp [From]; have := Hlt.out; omega) (Hf01.out.cell (p := ⟨g, o + k * 6, none⟩) id Q0.out)
       have y1 := Hf2.out.cell (p := ⟨g, o + k * 6 + 1, none⟩) (by simp [From]; have := Hlt.out; omega) (Hf01.out.cell (p := ⟨g, o + k * 6 + 1, none⟩) id Q1.out)
       have y2 := Hf2.out.cell (p := ⟨g, o + k * 6 + 2, none⟩) (by simp [From]; have := Hlt.out; omega) (Hf01.out.cell (p := ⟨g, o + k * 6 + 2, none⟩) id Q2.out)
       have y3 := Hf2.out.cell (p := ⟨g, o + k * 6 + 3, none⟩) (by simp [From]; have := Hlt.out; omega) (Hf01.out.cell (p := ⟨g, o + k * 6 + 3, none⟩) id Q3.out)
       have y4 := Hf2.out.cell (p := ⟨g, o + k * 6 + 4, none⟩) (by simp [From]; have := Hlt.out; omega) (Hf01.out.cell (p := ⟨g, o + k * 6 + 4, none⟩) id Q4.out)
       have y5 := Hf2.out.cell (p := ⟨g, o + k * 6 + 5, none⟩) (by simp [From]; have := Hlt.out; omega) (Hf01.out.cell (p := ⟨g, o + k * 6 + 5, none⟩) id Q5.out)
       have hlt2 := lt_of_block Hb2.out
       have hf23 : Fr (From w2.heap.size) w2 (w2.alloc (.cells #[.int .i64 5, .int .i64 (a : Int), .int .i64 b, .int .i64 c, .slice A2 cs.length c2, .bool d] 25)) := (Fr.refl (From w2.heap.size) w2).alloc _
       have hf13 : Fr (From w1.heap.size) w1 (w2.alloc (.cells #[.int .i64 5, .int .i64 (a : Int), .int .i64 b, .int .i64 c, .slice A2 cs.length c2, .bool d] 25)) := Hf2.out.trans hf23 fun k hk q => by have := Hf2.out.size; simp [From] at q ⊢; omega
       have Hc3 := Lib.hid (hf23.blk (by simp [From]; omega) Hb2.out); have Hf3 := Lib.hid hf13
       have Hr3 := Lib.hid (hf13.blk (by simp [From]; have := Hlt.out; omega) Hr1.out)
       have Hz3 := Lib.hid (hf13.blk (by simp [From]; have := Hlt.out; omega) Hb1.out)
       have rb := blk_cell Hr3.out a (reg_get r a ha)
       rw [hz] at rb
       have ia0 : (0 : Int) ≤ a := by omega
       have ia8 : (a : Int) < 8 := by omega
       have hf23b : Fr (From w2.heap.size) w2 (w2.alloc (.cells #[.int .i64 5, .int .i64 b, .int .i64 b, .int .i64 c, .slice A2 cs.length c2, .bool d] 25)) := (Fr.refl (From w2.heap.size) w2).alloc _
       have hf13b : Fr (From w1.heap.size) w1 (w2.alloc (.cells #[.int .i64 5, .int .i64 b, .int .i64 b, .int .i64 c, .slice A2 cs.length c2, .bool d] 25)) := Hf2.out.trans hf23b fun k hk q => by have := Hf2.out.size; simp [From] at q ⊢; omega
       have Hc3b := Lib.hid (hf23b.blk (by simp [From]; omega) Hb2.out); have Hf3b := Lib.hid hf13b
       have Hz3b := Lib.hid (hf13b.blk (by simp [From]; have := Hlt.out; omega) Hb1.out)
       have ocb := blk_cell Hc3b.out 0 rfl
       have ofb := blk_froz Hc3b.out 0
       clear hf23b hf13b
       clear hlt2 hf23 hf13)
    | (refine wpList_load_row rfl 138 (.tmp 10) rfl w1.heap.size rfl 138 (outA b r false 0 false) (0, 0) _ ?_ rfl rfl Hi.out ?_
       focus (rw [blk_set Hc3b.out 0 _, out_pc]))
    | (refine wpList_store_row _ rfl 138 (.tmp 8) (.tmp 118) rfl (w.heap.size + 1) (outA b r false 0 false) outZ 138 rfl rfl (by rw [blk_set_ne _ _ (by have := Hlt.out; omega)]; exact Hz3b.out) rfl Hi.out (outA_one _ _ _ _ _) ?_
       intro w4 hb4 hf4
       have Hb4 := Lib.hid hb4
       have Hf4 := Lib.hid ((((Hf01.out.none (S := fun k => w.heap.size + 1 ≤ k)).trans (Hf3b.out.setCell (.inl (Nat.le_refl _)) _) (fun k _ q => by have := Hlt.out; simp [From] at q; omega)).trans hf4 (fun k _ q => by omega)))
       clear hb4 hf4))
  obtain ⟨t0, t1, t2, t3, t4, t5, t6, t7, t8, t9, t10, t11⟩ := row_cells Hb4.out
  exact bodyPost_ret (v := .tuple #[.agg (outA b r false 0 false), .int .i64 0]) (by simp [results, Tryz.results57, go_sem, t0, t1, t2, t3, t4, t5, t6, t7, t8, t9, t10, t11]) rfl ⟨rfl, Hf4.out.mono fun k hk q => by omega⟩
end
section
variable (w : World) (v : Value) (ps : List Ins) (n k : Nat) (r : Nat → Int) (now : Int) (hn : ps.length = n) (h : Rd w 6 v n (ps.flatMap insEn)) (hok : ∀ i ∈ ps, InsOk w i)
include hn h hok
set_option maxHeartbeats 2000000 in
theorem do_emit (a : Nat) (b : Int) (c : Int) (v2 : Value) (cs : List ICs) (d : Bool) (hk : ps[k]? = some (((6, (a : Int), b, c), v2, cs, d) : Ins)) (hgood : progB ps = true) (ha : a < 8) :
    Calls Tryz.prog 57 #[v, .int .i64 k, .agg (regA r), .int .i64 now] w fun e w' => e = .returned (.tuple #[.agg (outA (k + 1) r true (r a) false), .int .i64 0]) ∧ Fr Nob w w' := by
  have hio : InsOk w ((6, (a : Int), b, c), v2, cs, d) := hok _ (List.mem_of_getElem? hk)
  have hkn : k < n := by rw [← hn]; exact (List.getElem?_eq_some_iff.1 hk).1
  have hch := fun W (hf : Fr Nob w W) => check_any W _ ps n hn (h.fr hf) fun i hi => (hok i hi).fr hf
  have hm : ∀ W : World, Calls Tryz.prog 84 #[.int .i64 6] W fun e w' => e = .returned (.bool true) ∧ W = w' := fun W => mine_any W 6
  obtain ⟨_, hl, A, c1, rfl, hc1, hc2, hA⟩ := h
  obtain ⟨g, o, rfl, hgl, hc⟩ := hA (by omega)
  unfold maxLen at hl
  obtain ⟨_, _, A2, c2, hv, _⟩ := id hio
  dsimp only at hv
  subst hv
  have q0 := hc _ _ ((insGet ps k 0 _ hk (by omega)).trans rfl)
  have q1 := hc _ _ ((insGet ps k 1 _ hk (by omega)).trans rfl)
  have q2 := hc _ _ ((insGet ps k 2 _ hk (by omega)).trans rfl)
  have q3 := hc _ _ ((insGet ps k 3 _ hk (by omega)).trans rfl)
  have q4 := hc _ _ ((insGet ps k 4 _ hk (by omega)).trans rfl)
  have q5 := hc _ _ ((insGet ps k 5 _ hk (by omega)).trans rfl)
  rw [← Nat.add_assoc] at q1 q2 q3 q4 q5
  rw [Nat.add_zero] at q0
  have hi28 : (Tryz.prog.info? 138).map (fun i => i.size) = some 12 := by kernel_rfl
  have hi39 : (Tryz.prog.info? 25).map (fun i => i.size) = some 6 := by kernel_rfl
  have hf0 : Fr Nob w ((w.alloc (.cells (regA r) 74)).alloc (.cells outZ 138)) := ((Fr.refl _ _).alloc _).alloc _
  have hb0 : ((w.alloc (.cells (regA r) 74)).alloc (.cells outZ 138)).heap[w.heap.size + 1]? = some (.cells outZ 138 (0, 0)) := blk_alloc_eq _ (by simp)
  have hr0 : ((w.alloc (.cells (regA r) 74)).alloc (.cells outZ 138)).heap[w.heap.size]? = some (.cells (regA r) 74 (0, 0)) := (Fr.alloc (Fr.refl Nob _) _).blk id (blk_alloc_eq _ rfl)
  rw [hgood] at hch
  have hki : (k : Int) < n := by omega
  have Hch := Lib.hid hch; have Hf0 := Lib.hid hf0; have Hb0 := Lib.hid hb0; have Hi := Lib.hid hi28; have Hi39 := Lib.hid hi39; have Hr0 := Lib.hid hr0; have Hm := Lib.hid hm
  have Q0 := Lib.hid q0; have Q1 := Lib.hid q1; have Q2 := Lib.hid q2; have Q3 := Lib.hid q3; have Q4 := Lib.hid q4; have Q5 := Lib.hid q5
  clear hch hok hf0 hb0 hi28 hr0 hi39 hio hc hk hm q0 q1 q2 q3 q4 q5
  go_enter Tryz.func57, Tryz.ntmps57
  go_wp2_with fail
  refine (Hch.out _ Hf0.out).mono ?_
  rintro e w1 ⟨rfl, hf1⟩
  have Hf1 := Lib.hid hf1; have Hb1 := Lib.hid (hf1.blk id Hb0.out); have Hr1 := Lib.hid (hf1.blk id Hr0.out); have Hf01 := Lib.hid (Hf0.out.trans0 hf1)
  have Hlt := Lib.hid (lt_of_block Hb1.out)
  obtain ⟨r0, r1, r2, r3, r4, r5, r6, r7⟩ := reg_cells Hr1.out
  have x0 := Hf01.out.cell (p := ⟨g, o + k * 6, none⟩) id Q0.out
  clear hf1
  have k0 : decide (0 ≤ k) = true := decide_eq_true (Nat.zero_le k)
  have k0' : decide ((0 : Int) ≤ k) = true := decide_eq_true (by omega)
  have k1 : decide ((k : Int) < 0) = false := decide_eq_false (by omega)
  have k2 : decide ((n : Int) < k) = false := decide_eq_false (by omega)
  have k2' : decide (n < k) = false := decide_eq_false (by omega)
  have k3 : decide (k < n) = true := decide_eq_true hkn
  have k4 : decide ((k : Int) < n) = true := decide_eq_true hki
  have k5 : ((k : Int) == (n : Int)) = false := beq_eq_false_iff_ne.2 (by omega)
  have k6 : (k == n) = false := beq_eq_false_iff_ne.2 (by omega)
  go_wp2_with fail
  refine (Hm.out _).mono ?_
  rintro e _ ⟨rfl, rfl⟩
  go_wp2_with (first
    | (refine wpList_store_row _ rfl 138 (.tmp 10) (.tmp 47) rfl w1.heap.size (outA (k + 1) r false 0 false) outZ 138 rfl rfl (blk_alloc_eq _ rfl) rfl Hi.out (outA_one _ _ _ _ _) ?_
       intro w2 hb2 hf2
       have Hb2 := Lib.hid hb2; have Hf2 := Lib.hid (((Fr.refl (From w1.heap.size) w1).alloc _).trans0 (hf2.mono fun k _ e => by rw [e]; exact Nat.le_refl _))
       clear hb2 hf2
       have y0 := Hf2.out.cell (p := ⟨g, o + k * 6, none⟩) (by simp [From]; have := Hlt.out; omega) (Hf01.out.cell (p := ⟨g, o + k * 6, none⟩) id Q0.out)
       have y1 := Hf2.out.cell (p := ⟨g, o + k * 6 + 1, none⟩) (by simp [From]; have := Hlt.out; omega) (Hf01.out.cell (p := ⟨g, o + k * 6 + 1, none⟩) id Q1.out)
       have y2 := Hf2.out.cell (p := ⟨g, o + k * 6 + 2, none⟩) (by simp [From]; have := Hlt.out; omega) (Hf01.out.cell (p := ⟨g, o + k * 6 + 2, none⟩) id Q2.out)
       have y3 := Hf2.out.cell (p := ⟨g, o + k * 6 + 3, none⟩) (by simp [From]; have := Hlt.out; omega) (Hf01.out.cell (p := ⟨g, o + k * 6 + 3, none⟩) id Q3.out)
       have y4 := Hf2.out.cell (p := ⟨g, o + k * 6 + 4, none⟩) (by simp [From]; have := Hlt.out; omega) (Hf01.out.cell (p := ⟨g, o + k * 6 + 4, none⟩) id Q4.out)
       have y5 := Hf2.out.cell (p := ⟨g, o + k * 6 + 5, none⟩) (by simp [From]; have := Hlt.out; omega) (Hf01.out.cell (p := ⟨g, o + k * 6 + 5, none⟩) id Q5.out)
       have hlt2 := lt_of_block Hb2.out
       have hf23 : Fr (From w2.heap.size) w2 (w2.alloc (.cells #[.int .i64 6, .int .i64 (a : Int), .int .i64 b, .int .i64 c, .slice A2 cs.length c2, .bool d] 25)) := (Fr.refl (From w2.heap.size) w2).alloc _
       have hf13 : Fr (From w1.heap.size) w1 (w2.alloc (.cells #[.int .i64 6, .int .i64 (a : Int), .int .i64 b, .int .i64 c, .slice A2 cs.length c2, .bool d] 25)) := Hf2.out.trans hf23 fun k hk q => by have := Hf2.out.size; simp [From] at q ⊢; omega
       have Hc3 := Lib.hid (hf23.blk (by simp [From]; omega) Hb2.out); have Hf3 := Lib.hid hf13
       have Hr3 := Lib.hid (hf13.blk (by simp [From]; have := Hlt.out; omega) Hr1.out)
       have Hz3 := Lib.hid (hf13.blk (by simp [From]; have := Hlt.out; omega) Hb1.out)
       have oc := blk_cell Hc3.out 9 rfl
       have of := blk_froz Hc3.out 9
       have oc1 := blk_cell Hc3.out 10 rfl
       have of1 := blk_froz Hc3.out 10
       have rb := blk_cell Hr3.out a (reg_get r a ha)
       clear hlt2 hf23 hf13)
    | fail)
  go_region
  go_wp2_with (first
    | (refine wpList_load_row rfl 138 (.tmp 10) rfl w1.heap.size rfl 138 (outA (k + 1) r true (r a) false) (0, 0) _ ?_ rfl rfl Hi.out ?_
       focus (rw [blk_drew, blk_set (blk_set Hc3.out 9 _) 10 _, out_told, out_val]))
    | (refine wpList_store_row _ rfl 138 (.tmp 8) (.tmp 118) rfl (w.heap.size + 1) (outA (k + 1) r true (r a) false) outZ 138 rfl rfl (by rw [blk_drew, blk_set_ne _ _ (by have := Hlt.out; omega), blk_set_ne _ _ (by have := Hlt.out; omega)]; exact Hz3.out) rfl Hi.out (outA_one _ _ _ _ _) ?_
       intro w4 hb4 hf4
       have Hb4 := Lib.hid hb4
       have Hf4 := Lib.hid ((((Hf01.out.none (S := fun k => w.heap.size + 1 ≤ k)).trans (((Hf3.out.setCell (.inl (Nat.le_refl _)) _).setCell (.inl (Nat.le_refl _)) _).drew) (fun k _ q => by have := Hlt.out; simp [From] at q; omega)).trans hf4 (fun k _ q => by omega)))
       clear hb4 hf4))
  obtain ⟨t0, t1, t2, t3, t4, t5, t6, t7, t8, t9, t10, t11⟩ := row_cells Hb4.out
  exact bodyPost_ret (v := .tuple #[.agg (outA (k + 1) r true (r a) false), .int .i64 0]) (by simp [results, Tryz.results57, go_sem, t0, t1, t2, t3, t4, t5, t6, t7, t8, t9, t10, t11]) rfl ⟨rfl, Hf4.out.mono fun k hk q => by omega⟩
end
section
variable (w : World) (v : Value) (ps : List Ins) (n k : Nat) (r : Nat → Int) (now : Int) (hn : ps.length = n) (h : Rd w 6 v n (ps.flatMap insEn)) (hok : ∀ i ∈ ps, InsOk w i)
include hn h hok
set_option maxHeartbeats 2000000 in
theorem do_exit (a b : Int) (c : Int) (v2 : Value) (cs : List ICs) (d : Bool) (hk : ps[k]? = some (((7, a, b, c), v2, cs, d) : Ins)) (hgood : progB ps = true) :
    Calls Tryz.prog 57 #[v, .int .i64 k, .agg (regA r), .int .i64 now] w fun e w' => e = .returned (.tuple #[.agg (outA k r false 0 true), .int .i64 0]) ∧ Fr Nob w w' := by
  have hio : InsOk w ((7, a, b, c), v2, cs, d) := hok _ (List.mem_of_getElem? hk)
  have hkn : k < n := by rw [← hn]; exact (List.getElem?_eq_some_iff.1 hk).1
  have hch := fun W (hf : Fr Nob w W) => check_any W _ ps n hn (h.fr hf) fun i hi => (hok i hi).fr hf
  have hm : ∀ W : World, Calls Tryz.prog 84 #[.int .i64 7] W fun e w' => e = .returned (.bool true) ∧ W = w' := fun W => mine_any W 7
  obtain ⟨_, hl, A, c1, rfl, hc1, hc2, hA⟩ := h
  obtain ⟨g, o, rfl, hgl, hc⟩ := hA (by omega)
  unfold maxLen at hl
  obtain ⟨_, _, A2, c2, hv, _⟩ := id hio
  dsimp only at hv
  subst hv
  have q0 := hc _ _ ((insGet ps k 0 _ hk (by omega)).trans rfl)
  have q1 := hc _ _ ((insGet ps k 1 _ hk (by omega)).trans rfl)
  have q2 := hc _ _ ((insGet ps k 2 _ hk (by omega)).trans rfl)
  have q3 := hc _ _ ((insGet ps k 3 _ hk (by omega)).trans rfl)
  have q4 := hc _ _ ((insGet ps k 4 _ hk (by omega)).trans rfl)
  have q5 := hc _ _ ((insGet ps k 5 _ hk (by omega)).trans rfl)
  rw [← Nat.add_assoc] at q1 q2 q3 q4 q5
  rw [Nat.add_zero] at q0
  have hi28 : (Tryz.prog.info? 138).map (fun i => i.size) = some 12 := by kernel_rfl
  have hi39 : (Tryz.prog.info? 25).map (fun i => i.size) = some 6 := by kernel_rfl
  have hf0 : Fr Nob w ((w.alloc (.cells (regA r) 74)).alloc (.cells outZ 138)) := ((Fr.refl _ _).alloc _).alloc _
  have hb0 : ((w.alloc (.cells (regA r) 74)).alloc (.cells outZ 138)).heap[w.heap.size + 1]? = some (.cells outZ 138 (0, 0)) := blk_alloc_eq _ (by simp)
  have hr0 : ((w.alloc (.cells (regA r) 74)).alloc (.cells outZ 138)).heap[w.heap.size]? = some (.cells (regA r) 74 (0, 0)) := (Fr.alloc (Fr.refl Nob _) _).blk id (blk_alloc_eq _ rfl)
  rw [hgood] at hch
  have hki : (k : Int) < n := by omega
  have Hch := Lib.hid hch; have Hf0 := Lib.hid hf0; have Hb0 := Lib.hid hb0; have Hi := Lib.hid hi28; have Hi39 := Lib.hid hi39; have Hr0 := Lib.hid hr0; have Hm := Lib.hid hm
  have Q0 := Lib.hid q0; have Q1 := Lib.hid q1; have Q2 := Lib.hid q2; have Q3 := Lib.hid q3; have Q4 := Lib.hid q4; have Q5 := Lib.hid q5
  clear hch hok hf0 hb0 hi28 hr0 hi39 hio hc hk hm q0 q1 q2 q3 q4 q5
  go_enter Tryz.func57, Tryz.ntmps57
  go_wp2_with fail
  refine (Hch.out _ Hf0.out).mono ?_
  rintro e w1 ⟨rfl, hf1⟩
  have Hf1 := Lib.hid hf1; have Hb1 := Lib.hid (hf1.blk id Hb0.out); have Hr1 := Lib.hid (hf1.blk id Hr0.out); have Hf01 := Lib.hid (Hf0.out.trans0 hf1)
  have Hlt := Lib.hid (lt_of_block Hb1.out)
  obtain ⟨r0, r1, r2, r3, r4, r5, r6, r7⟩ := reg_cells Hr1.out
  have x0 := Hf01.out.cell (p := ⟨g, o + k * 6, none⟩) id Q0.out
  clear hf1
  have k0 : decide (0 ≤ k) = true := decide_eq_true (Nat.zero_le k)
  have k0' : decide ((0 : Int) ≤ k) = true := decide_eq_true (by omega)
  have k1 : decide ((k : Int) < 0) = false := decide_eq_false (by omega)
  have k2 : decide ((n : Int) < k) = false := decide_eq_false (by omega)
  have k2' : decide (n < k) = false := decide_eq_false (by omega)
  have k3 : decide (k < n) = true := decide_eq_true hkn
  have k4 : decide ((k : Int) < n) = true := decide_eq_true hki
  have k5 : ((k : Int) == (n : Int)) = false := beq_eq_false_iff_ne.2 (by omega)
  have k6 : (k == n) = false := beq_eq_false_iff_ne.2 (by omega)
  go_wp2_with fail
  refine (Hm.out _).mono ?_
  rintro e _ ⟨rfl, rfl⟩
  go_wp2_with (first
    | (refine wpList_store_row _ rfl 138 (.tmp 10) (.tmp 47) rfl w1.heap.size (outA (k + 1) r false 0 false) outZ 138 rfl rfl (blk_alloc_eq _ rfl) rfl Hi.out (outA_one _ _ _ _ _) ?_
       intro w2 hb2 hf2
       have Hb2 := Lib.hid hb2; have Hf2 := Lib.hid (((Fr.refl (From w1.heap.size) w1).alloc _).trans0 (hf2.mono fun k _ e => by rw [e]; exact Nat.le_refl _))
       clear hb2 hf2
       have y0 := Hf2.out.cell (p := ⟨g, o + k * 6, none⟩) (by simp [From]; have := Hlt.out; omega) (Hf01.out.cell (p := ⟨g, o + k * 6, none⟩) id Q0.out)
       have y1 := Hf2.out.cell (p := ⟨g, o + k * 6 + 1, none⟩) (by simp [From]; have := Hlt.out; omega) (Hf01.out.cell (p := ⟨g, o + k * 6 + 1, none⟩) id Q1.out)
       have y2 := Hf2.out.cell (p := ⟨g, o + k * 6 + 2, none⟩) (by simp [From]; have := Hlt.out; omega) (Hf01.out.cell (p := ⟨g, o + k * 6 + 2, none⟩) id Q2.out)
       have y3 := Hf2.out.cell (p := ⟨g, o + k * 6 + 3, none⟩) (by simp [From]; have := Hlt.out; omega) (Hf01.out.cell (p := ⟨g, o + k * 6 + 3, none⟩) id Q3.out)
       have y4 := Hf2.out.cell (p := ⟨g, o + k * 6 + 4, none⟩) (by simp [From]; have := Hlt.out; omega) (Hf01.out.cell (p := ⟨g, o + k * 6 + 4, none⟩) id Q4.out)
       have y5 := Hf2.out.cell (p := ⟨g, o + k * 6 + 5, none⟩) (by simp [From]; have := Hlt.out; omega) (Hf01.out.cell (p := ⟨g, o + k * 6 + 5, none⟩) id Q5.out)
       have hlt2 := lt_of_block Hb2.out
       have hf23 : Fr (From w2.heap.size) w2 (w2.alloc (.cells #[.int .i64 7, .int .i64 a, .int .i64 b, .int .i64 c, .slice A2 cs.length c2, .bool d] 25)) := (Fr.refl (From w2.heap.size) w2).alloc _
       have hf13 : Fr (From w1.heap.size) w1 (w2.alloc (.cells #[.int .i64 7, .int .i64 a, .int .i64 b, .int .i64 c, .slice A2 cs.length c2, .bool d] 25)) := Hf2.out.trans hf23 fun k hk q => by have := Hf2.out.size; simp [From] at q ⊢; omega
       have Hc3 := Lib.hid (hf23.blk (by simp [From]; omega) Hb2.out); have Hf3 := Lib.hid hf13
       have Hr3 := Lib.hid (hf13.blk (by simp [From]; have := Hlt.out; omega) Hr1.out)
       have Hz3 := Lib.hid (hf13.blk (by simp [From]; have := Hlt.out; omega) Hb1.out)
       have oc := blk_cell Hc3.out 0 rfl
       have of := blk_froz Hc3.out 0
       have oc1 := blk_cell Hc3.out 11 rfl
       have of1 := blk_froz Hc3.out 11
       clear hlt2 hf23 hf13)
    | (refine wpList_load_row rfl 138 (.tmp 10) rfl w1.heap.size rfl 138 (outA k r false 0 true) (0, 0) _ ?_ rfl rfl Hi.out ?_
       focus (rw [blk_set (blk_set Hc3.out 0 _) 11 _, out_pc, out_end]))
    | (refine wpList_store_row _ rfl 138 (.tmp 8) (.tmp 118) rfl (w.heap.size + 1) (outA k r false 0 true) outZ 138 rfl rfl (by rw [blk_set_ne _ _ (by have := Hlt.out; omega), blk_set_ne _ _ (by have := Hlt.out; omega)]; exact Hz3.out) rfl Hi.out (outA_one _ _ _ _ _) ?_
       intro w4 hb4 hf4
       have Hb4 := Lib.hid hb4
       have Hf4 := Lib.hid ((((Hf01.out.none (S := fun k => w.heap.size + 1 ≤ k)).trans ((Hf3.out.setCell (.inl (Nat.le_refl _)) _).setCell (.inl (Nat.le_refl _)) _) (fun k _ q => by have := Hlt.out; simp [From] at q; omega)).trans hf4 (fun k _ q => by omega)))
       clear hb4 hf4))
  obtain ⟨t0, t1, t2, t3, t4, t5, t6, t7, t8, t9, t10, t11⟩ := row_cells Hb4.out
  exact bodyPost_ret (v := .tuple #[.agg (outA k r false 0 true), .int .i64 0]) (by simp [results, Tryz.results57, go_sem, t0, t1, t2, t3, t4, t5, t6, t7, t8, t9, t10, t11]) rfl ⟨rfl, Hf4.out.mono fun k hk q => by omega⟩
end
section
variable (w : World) (v : Value) (ps : List Ins) (n k : Nat) (r : Nat → Int) (now : Int) (hn : ps.length = n) (h : Rd w 6 v n (ps.flatMap insEn)) (hok : ∀ i ∈ ps, InsOk w i)
include hn h hok
set_option maxHeartbeats 2000000 in
theorem do_now (a : Nat) (b : Int) (c : Int) (v2 : Value) (cs : List ICs) (d : Bool) (hk : ps[k]? = some (((16, (a : Int), b, c), v2, cs, d) : Ins)) (hgood : progB ps = true) (ha : a < 8) :
    Calls Tryz.prog 57 #[v, .int .i64 k, .agg (regA r), .int .i64 now] w fun e w' => e = .returned (.tuple #[.agg (outA (k + 1) (updR r a now) false 0 false), .int .i64 0]) ∧ Fr Nob w w' := by
  have hio : InsOk w ((16, (a : Int), b, c), v2, cs, d) := hok _ (List.mem_of_getElem? hk)
  have hkn : k < n := by rw [← hn]; exact (List.getElem?_eq_some_iff.1 hk).1
  have hch := fun W (hf : Fr Nob w W) => check_any W _ ps n hn (h.fr hf) fun i hi => (hok i hi).fr hf
  have hm : ∀ W : World, Calls Tryz.prog 84 #[.int .i64 16] W fun e w' => e = .returned (.bool true) ∧ W = w' := fun W => mine_any W 16
  obtain ⟨_, hl, A, c1, rfl, hc1, hc2, hA⟩ := h
  obtain ⟨g, o, rfl, hgl, hc⟩ := hA (by omega)
  unfold maxLen at hl
  obtain ⟨_, _, A2, c2, hv, _⟩ := id hio
  dsimp only at hv
  subst hv
  have q0 := hc _ _ ((insGet ps k 0 _ hk (by omega)).trans rfl)
  have q1 := hc _ _ ((insGet ps k 1 _ hk (by omega)).trans rfl)
  have q2 := hc _ _ ((insGet ps k 2 _ hk (by omega)).trans rfl)
  have q3 := hc _ _ ((insGet ps k 3 _ hk (by omega)).trans rfl)
  have q4 := hc _ _ ((insGet ps k 4 _ hk (by omega)).trans rfl)
  have q5 := hc _ _ ((insGet ps k 5 _ hk (by omega)).trans rfl)
  rw [← Nat.add_assoc] at q1 q2 q3 q4 q5
  rw [Nat.add_zero] at q0
  have hi28 : (Tryz.prog.info? 138).map (fun i => i.size) = some 12 := by kernel_rfl
  have hi39 : (Tryz.prog.info? 25).map (fun i => i.size) = some 6 := by kernel_rfl
  have hf0 : Fr Nob w ((w.alloc (.cells (regA r) 74)).alloc (.cells outZ 138)) := ((Fr.refl _ _).alloc _).alloc _
  have hb0 : ((w.alloc (.cells (regA r) 74)).alloc (.cells outZ 138)).heap[w.heap.size + 1]? = some (.cells outZ 138 (0, 0)) := blk_alloc_eq _ (by simp)
  have hr0 : ((w.alloc (.cells (regA r) 74)).alloc (.cells outZ 138)).heap[w.heap.size]? = some (.cells (regA r) 74 (0, 0)) := (Fr.alloc (Fr.refl Nob _) _).blk id (blk_alloc_eq _ rfl)
  rw [hgood] at hch
  have hki : (k : Int) < n := by omega
  have Hch := Lib.hid hch; have Hf0 := Lib.hid hf0; have Hb0 := Lib.hid hb0; have Hi := Lib.hid hi28; have Hi39 := Lib.hid hi39; have Hr0 := Lib.hid hr0; have Hm := Lib.hid hm
  have Q0 := Lib.hid q0; have Q1 := Lib.hid q1; have Q2 := Lib.hid q2; have Q3 := Lib.hid q3; have Q4 := Lib.hid q4; have Q5 := Lib.hid q5
  clear hch hok hf0 hb0 hi28 hr0 hi39 hio hc hk hm q0 q1 q2 q3 q4 q5
  go_enter Tryz.func57, Tryz.ntmps57
  go_wp2_with fail
  refine (Hch.out _ Hf0.out).mono ?_
  rintro e w1 ⟨rfl, hf1⟩
  have Hf1 := Lib.hid hf1; have Hb1 := Lib.hid (hf1.blk id Hb0.out); have Hr1 := Lib.hid (hf1.blk id Hr0.out); have Hf01 := Lib.hid (Hf0.out.trans0 hf1)
  have Hlt := Lib.hid (lt_of_block Hb1.out)
  obtain ⟨r0, r1, r2, r3, r4, r5, r6, r7⟩ := reg_cells Hr1.out
  have x0 := Hf01.out.cell (p := ⟨g, o + k * 6, none⟩) id Q0.out
  clear hf1
  have k0 : decide (0 ≤ k) = true := decide_eq_true (Nat.zero_le k)
  have k0' : decide ((0 : Int) ≤ k) = true := decide_eq_true (by omega)
  have k1 : decide ((k : Int) < 0) = false := decide_eq_false (by omega)
  have k2 : decide ((n : Int) < k) = false := decide_eq_false (by omega)
  have k2' : decide (n < k) = false := decide_eq_false (by omega)
  have k3 : decide (k < n) = true := decide_eq_true hkn
  have k4 : decide ((k : Int) < n) = true := decide_eq_true hki
  have k5 : ((k : Int) == (n : Int)) = false := beq_eq_false_iff_ne.2 (by omega)
  have k6 : (k == n) = false := beq_eq_false_iff_ne.2 (by omega)
  go_wp2_with fail
  refine (Hm.out _).mono ?_
  rintro e _ ⟨rfl, rfl⟩
  go_wp2_with (first
    | (refine wpList_store_row _ rfl 138 (.tmp 10) (.tmp 47) rfl w1.heap.size (outA (k + 1) r false 0 false) outZ 138 rfl rfl (blk_alloc_eq _ rfl) rfl Hi.out (outA_one _ _ _ _ _) ?_
       intro w2 hb2 hf2
       have Hb2 := Lib.hid hb2; have Hf2 := Lib.hid (((Fr.refl (From w1.heap.size) w1).alloc _).trans0 (hf2.mono fun k _ e => by rw [e]; exact Nat.le_refl _))
       clear hb2 hf2
       have y0 := Hf2.out.cell (p := ⟨g, o + k * 6, none⟩) (by simp [From]; have := Hlt.out; omega) (Hf01.out.cell (p := ⟨g, o + k * 6, none⟩) id Q0.out)
       have y1 := Hf2.out.cell (p := ⟨g, o + k * 6 + 1, none⟩) (by simp [From]; have := Hlt.out; omega) (Hf01.out.cell (p := ⟨g, o + k * 6 + 1, none⟩) id Q1.out)
       have y2 := Hf2.out.cell (p := ⟨g, o + k * 6 + 2, none⟩) (by simp [From]; have := Hlt.out; omega) (Hf01.out.cell (p := ⟨g, o + k * 6 + 2, none⟩) id Q2.out)
       have y3 := Hf2.out.cell (p := ⟨g, o + k * 6 + 3, none⟩) (by simp [From]; have := Hlt.out; omega) (Hf01.out.cell (p := ⟨g, o + k * 6 + 3, none⟩) id Q3.out)
       have y4 := Hf2.out.cell (p := ⟨g, o + k * 6 + 4, none⟩) (by simp [From]; have := Hlt.out; omega) (Hf01.out.cell (p := ⟨g, o + k * 6 + 4, none⟩) id Q4.out)
       have y5 := Hf2.out.cell (p := ⟨g, o + k * 6 + 5, none⟩) (by simp [From]; have := Hlt.out; omega) (Hf01.out.cell (p := ⟨g, o + k * 6 + 5, none⟩) id Q5.out)
       have hlt2 := lt_of_block Hb2.out
       have hf23 : Fr (From w2.heap.size) w2 (w2.alloc (.cells #[.int .i64 16, .int .i64 (a : Int), .int .i64 b, .int .i64 c, .slice A2 cs.length c2, .bool d] 25)) := (Fr.refl (From w2.heap.size) w2).alloc _
       have hf13 : Fr (From w1.heap.size) w1 (w2.alloc (.cells #[.int .i64 16, .int .i64 (a : Int), .int .i64 b, .int .i64 c, .slice A2 cs.length c2, .bool d] 25)) := Hf2.out.trans hf23 fun k hk q => by have := Hf2.out.size; simp [From] at q ⊢; omega
       have Hc3 := Lib.hid (hf23.blk (by simp [From]; omega) Hb2.out); have Hf3 := Lib.hid hf13
       have Hr3 := Lib.hid (hf13.blk (by simp [From]; have := Hlt.out; omega) Hr1.out)
       have Hz3 := Lib.hid (hf13.blk (by simp [From]; have := Hlt.out; omega) Hb1.out)
       have oc := blk_cell Hc3.out (1 + a) (out_get _ _ _ _ _ a ha)
       have of := blk_froz Hc3.out (1 + a)
       clear hlt2 hf23 hf13)
    | (refine wpList_load_row rfl 138 (.tmp 10) rfl w1.heap.size rfl 138 (outA (k + 1) (updR r a now) false 0 false) (0, 0) _ ?_ rfl rfl Hi.out ?_
       focus (rw [blk_set Hc3.out (1 + a) _, out_set _ _ _ _ _ a ha]))
    | (refine wpList_store_row _ rfl 138 (.tmp 8) (.tmp 118) rfl (w.heap.size + 1) (outA (k + 1) (updR r a now) false 0 false) outZ 138 rfl rfl (by rw [blk_set_ne _ _ (by have := Hlt.out; omega)]; exact Hz3.out) rfl Hi.out (outA_one _ _ _ _ _) ?_
       intro w4 hb4 hf4
       have Hb4 := Lib.hid hb4
       have Hf4 := Lib.hid ((((Hf01.out.none (S := fun k => w.heap.size + 1 ≤ k)).trans (Hf3.out.setCell (.inl (Nat.le_refl _)) _) (fun k _ q => by have := Hlt.out; simp [From] at q; omega)).trans hf4 (fun k _ q => by omega)))
       clear hb4 hf4))
  obtain ⟨t0, t1, t2, t3, t4, t5, t6, t7, t8, t9, t10, t11⟩ := row_cells Hb4.out
  exact bodyPost_ret (v := .tuple #[.agg (outA (k + 1) (updR r a now) false 0 false), .int .i64 0]) (by simp [results, Tryz.results57, go_sem, t0, t1, t2, t3, t4, t5, t6, t7, t8, t9, t10, t11]) rfl ⟨rfl, Hf4.out.mono fun k hk q => by omega⟩
end
abbrev LRes := (Int × (Nat → Int) × Bool × Int × Bool) × Int
abbrev lresV (o : LRes) : Value := .tuple #[.agg (outA o.1.1 o.1.2.1 o.1.2.2.1 o.1.2.2.2.1 o.1.2.2.2.2), .int .i64 o.2]
def noR (e : Int) : LRes := ((0, fun _ => 0, false, 0, false), e)
def stepR (op a b : Int) (k : Nat) (r : Nat → Int) (now : Int) : Int × (Nat → Int) × Bool × Int × Bool :=
  if op = 1 then (k + 1, updR r a.toNat b, false, 0, false)
  else if op = 2 then (k + 1, updR r a.toNat (r b.toNat), false, 0, false)
  else if op = 3 then (k + 1, updR r a.toNat (addT (r a.toNat) b), false, 0, false)
  else if op = 4 then (a, r, false, 0, false)
  else if op = 5 then (if r a.toNat = 0 then b else k + 1, r, false, 0, false)
  else if op = 6 then (k + 1, r, true, r a.toNat, false)
  else if op = 7 then (k, r, false, 0, true)
  else (k + 1, updR r a.toNat now, false, 0, false)
def doR (ps : List Ins) (pc : Int) (r : Nat → Int) (now : Int) : LRes :=
  if progB ps = false ∨ pc < 0 ∨ (ps.length : Int) < pc then noR 1
  else if pc = ps.length then ((pc, r, false, 0, true), 0)
  else match ps[pc.toNat]? with
    | none => noR 1
    | some y => if mineB y.1.1 = false then noR 7 else (stepR y.1.1 y.1.2.1 y.1.2.2.1 pc.toNat r now, 0)
theorem good_of {ps : List Ins} {k : Nat} {y : Ins} (hp : progB ps = true) (hk : ps[k]? = some y) : goodB y ps.length = true := by
  unfold progB at hp
  simp only [Bool.and_eq_true, List.all_eq_true] at hp
  exact hp.2 y (List.mem_of_getElem? hk)
theorem reg_of {n : Int} (h : regB n = true) : ∃ a : Nat, n = a ∧ a < 8 := by
  simp [regB] at h
  exact ⟨n.toNat, by omega, by omega⟩
section
variable (w : World) (v : Value) (ps : List Ins) (n k : Nat) (r : Nat → Int) (now : Int) (hn : ps.length = n) (h : Rd w 6 v n (ps.flatMap insEn)) (hok : ∀ i ∈ ps, InsOk w i)
include hn h hok
set_option maxHeartbeats 2000000 in
theorem do_other (op a b c : Int) (v2 : Value) (cs : List ICs) (d : Bool) (hk : ps[k]? = some (((op, a, b, c), v2, cs, d) : Ins)) (hgood : progB ps = true) (hmi : mineB op = false) :
    Calls Tryz.prog 57 #[v, .int .i64 k, .agg (regA r), .int .i64 now] w fun e w' => e = .returned (.tuple #[.agg outZ, .int .i64 7]) ∧ Fr Nob w w' := by
  have hkn : k < n := by rw [← hn]; exact (List.getElem?_eq_some_iff.1 hk).1
  have hch := fun W (hf : Fr Nob w W) => check_any W _ ps n hn (h.fr hf) fun i hi => (hok i hi).fr hf
  have hm : ∀ W : World, Calls Tryz.prog 84 #[.int .i64 op] W fun e w' => e = .returned (.bool false) ∧ W = w' := fun W => by have := mine_any W op; rwa [hmi] at this
  obtain ⟨_, hl, A, c1, rfl, hc1, hc2, hA⟩ := h
  obtain ⟨g, o, rfl, hgl, hc⟩ := hA (by omega)
  unfold maxLen at hl
  have q0 := hc _ _ ((insGet ps k 0 _ hk (by omega)).trans rfl)
  rw [Nat.add_zero] at q0
  have hi28 : (Tryz.prog.info? 138).map (fun i => i.size) = some 12 := by kernel_rfl
  have hf0 : Fr Nob w ((w.alloc (.cells (regA r) 74)).alloc (.cells outZ 138)) := ((Fr.refl _ _).alloc _).alloc _
  have hb0 : ((w.alloc (.cells (regA r) 74)).alloc (.cells outZ 138)).heap[w.heap.size + 1]? = some (.cells outZ 138 (0, 0)) := blk_alloc_eq _ (by simp)
  rw [hgood] at hch
  have hki : (k : Int) < n := by omega
  have key : ∀ w1 w2, Fr Nob ((w.alloc (.cells (regA r) 74)).alloc (.cells outZ 138)) w1 → Fr (fun k => k = w.heap.size + 1) w1 w2 → Fr Nob w w2 := fun w1 w2 f1 f2 => (hf0.trans0 f1).trans f2 fun k hk e => by omega
  have Hch := Lib.hid hch; have Hf0 := Lib.hid hf0; have Hb0 := Lib.hid hb0; have Hi := Lib.hid hi28; have Hm := Lib.hid hm; have Q0 := Lib.hid q0; have Key := Lib.hid key
  clear hch hok hf0 hb0 hi28 hc hk hm q0 key hmi
  go_enter Tryz.func57, Tryz.ntmps57
  go_wp2_with fail
  refine (Hch.out _ Hf0.out).mono ?_
  rintro e w1 ⟨rfl, hf1⟩
  have Hf1 := Lib.hid hf1; have Hb1 := Lib.hid (hf1.blk id Hb0.out)
  have x0 := (Hf0.out.trans0 hf1).cell (p := ⟨g, o + k * 6, none⟩) id Q0.out
  clear hf1
  have k0 : decide (0 ≤ k) = true := decide_eq_true (Nat.zero_le k)
  have k0' : decide ((0 : Int) ≤ k) = true := decide_eq_true (by omega)
  have k1 : decide ((k : Int) < 0) = false := decide_eq_false (by omega)
  have k2 : decide ((n : Int) < k) = false := decide_eq_false (by omega)
  have k2' : decide (n < k) = false := decide_eq_false (by omega)
  have k3 : decide (k < n) = true := decide_eq_true hkn
  have k4 : decide ((k : Int) < n) = true := decide_eq_true hki
  have k5 : ((k : Int) == (n : Int)) = false := beq_eq_false_iff_ne.2 (by omega)
  have k6 : (k == n) = false := beq_eq_false_iff_ne.2 (by omega)
  go_wp2_with fail
  refine (Hm.out _).mono ?_
  rintro e _ ⟨rfl, rfl⟩
  go_wp2_with (refine wpList_store_row w1 rfl 138 (.tmp 8) (.tmp 43) rfl (w.heap.size + 1) outZ outZ 138 rfl rfl Hb1.out rfl Hi.out outZ_one ?_; intro w2 hb2 hf2; have Hb2 := Lib.hid hb2; have Hf2 := Lib.hid hf2; clear hb2 hf2)
  obtain ⟨t0, t1, t2, t3, t4, t5, t6, t7, t8, t9, t10, t11⟩ := row_cellsZ Hb2.out
  exact bodyPost_ret (v := .tuple #[.agg outZ, .int .i64 7]) (by simp [results, Tryz.results57, go_sem, t0, t1, t2, t3, t4, t5, t6, t7, t8, t9, t10, t11]) rfl ⟨rfl, Key.out _ _ Hf1.out Hf2.out⟩
theorem do_any (pc : Int) : Calls Tryz.prog 57 #[v, .int .i64 pc, .agg (regA r), .int .i64 now] w fun e w' => e = .returned (lresV (doR ps pc r now)) ∧ Fr Nob w w' := by
  unfold doR
  by_cases hbad : progB ps = false ∨ pc < 0 ∨ (ps.length : Int) < pc
  · rw [if_pos hbad]
    exact do_bad w v ps n pc r now hn h hok (by rwa [hn] at hbad)
  · rw [if_neg hbad]
    have hg : progB ps = true := by cases hq : progB ps; exact absurd (.inl hq) hbad; rfl
    have hp0 : 0 ≤ pc := Int.not_lt.1 fun q => hbad (.inr (.inl q))
    have hp1 : pc ≤ ps.length := Int.not_lt.1 fun q => hbad (.inr (.inr q))
    by_cases he : pc = ps.length
    · rw [if_pos he]
      subst he
      have := do_end w v ps n (ps.length : Int) r now hn h hok hg (by rw [hn])
      rw [← hn] at this
      exact this
    · rw [if_neg he]
      obtain ⟨k, rfl⟩ : ∃ k : Nat, pc = k := ⟨pc.toNat, by omega⟩
      have hk : ps[k]? = some (ps[k]'(by omega)) := List.getElem?_eq_getElem _
      rw [Int.toNat_natCast, hk]
      dsimp only
      generalize ps[k] = y at hk ⊢
      have hgd := good_of hg hk
      obtain ⟨⟨op, a, b, c⟩, v2, cs, d⟩ := y
      dsimp only at hgd ⊢
      by_cases hm : mineB op = false
      · rw [if_pos hm]
        exact do_other w v ps n k r now hn h hok op a b c v2 cs d hk hg hm
      · rw [if_neg hm]
        have hm' : mineB op = true := by simpa using hm
        have hop : op = 1 ∨ op = 2 ∨ op = 3 ∨ op = 4 ∨ op = 5 ∨ op = 6 ∨ op = 7 ∨ op = 16 := by
          simp [mineB] at hm'
          omega
        unfold goodB at hgd
        dsimp only at hgd
        simp only [Bool.and_eq_true] at hgd
        obtain ⟨⟨⟨⟨_, ha⟩, hb⟩, _⟩, _⟩ := hgd
        rcases hop with rfl | rfl | rfl | rfl | rfl | rfl | rfl | rfl
        · obtain ⟨a, rfl, ha8⟩ := reg_of (n := a) ha
          exact do_set w v ps n k r now hn h hok a b c v2 cs d hk hg ha8
        · obtain ⟨a, rfl, ha8⟩ := reg_of (n := a) ha
          obtain ⟨b, rfl, hb8⟩ := reg_of (n := b) hb
          exact do_move w v ps n k r now hn h hok a b c v2 cs d hk hg ha8 hb8
        · obtain ⟨a, rfl, ha8⟩ := reg_of (n := a) ha
          exact do_inc w v ps n k r now hn h hok a b c v2 cs d hk hg ha8
        · exact do_jump w v ps n k r now hn h hok a b c v2 cs d hk hg
        · obtain ⟨a, rfl, ha8⟩ := reg_of (n := a) ha
          by_cases hz : r a = 0
          · have := do_zero w v ps n k r now hn h hok a b c v2 cs d hk hg ha8 hz
            simp only [stepR, lresV]
            simp [hz]
            exact this
          · have := do_stay w v ps n k r now hn h hok a b c v2 cs d hk hg ha8 hz
            simp only [stepR, lresV]
            simp [hz]
            exact this
        · obtain ⟨a, rfl, ha8⟩ := reg_of (n := a) ha
          exact do_emit w v ps n k r now hn h hok a b c v2 cs d hk hg ha8
        · exact do_exit w v ps n k r now hn h hok a b c v2 cs d hk hg
        · obtain ⟨a, rfl, ha8⟩ := reg_of (n := a) ha
          exact do_now w v ps n k r now hn h hok a b c v2 cs d hk hg ha8
end
/-- An arena: T its struct's type, E its things' type, sz their cells. -/
def ArenaAt (T E sz : Nat) (w : World) (S : Nat → Prop) (b : Nat) (most : Nat) (n : Nat) (cs : List Value) : Prop :=
  ∃ v, S b ∧ w.heap[b]? = some (.cells #[v, .int .i64 (most : Int)] T (0, 0)) ∧ Sl w (fun k => S k ∧ k ≠ b) E sz v n cs ∧ n ≤ most ∧ most ≤ 1000
section
variable {T E sz : Nat}
theorem ArenaAt.fr {w w' : World} {S F : Nat → Prop} {b most n : Nat} {cs : List Value} (h : ArenaAt T E sz w S b most n cs) (hf : Fr F w w') (hd : ∀ k, S k → F k → False) : ArenaAt T E sz w' S b most n cs := by
  obtain ⟨v, hS, hb, hs, r⟩ := h
  exact ⟨v, hS, hf.blk (hd _ hS) hb, hs.fr hf (fun k q => hd k q.1), r⟩
theorem ArenaAt.mono {w : World} {S S' : Nat → Prop} {b most n : Nat} {cs : List Value} (h : ArenaAt T E sz w S b most n cs) (hs : ∀ k, k < w.heap.size → S k → S' k) : ArenaAt T E sz w S' b most n cs := by
  obtain ⟨v, hS, hb, hsl, r⟩ := h
  exact ⟨v, hs _ (lt_of_block hb) hS, hb, hsl.mono (fun k hk q => ⟨hs k hk q.1, q.2⟩), r⟩
end
/-- A task: its 16 numbers (prog, pc, state, how, 8 registers, its instruction's 4), its instruction's default; no cases. -/
abbrev tkA (t : Nat → Int) (d : Bool) : Array Value := #[.int .i64 (t 0), .int .i64 (t 1), .int .i64 (t 2), .int .i64 (t 3), .int .i64 (t 4), .int .i64 (t 5), .int .i64 (t 6), .int .i64 (t 7), .int .i64 (t 8), .int .i64 (t 9), .int .i64 (t 10), .int .i64 (t 11), .int .i64 (t 12), .int .i64 (t 13), .int .i64 (t 14), .int .i64 (t 15), .slice none 0 0, .bool d]
abbrev tkL (t : Nat → Int) (d : Bool) : List Value := [.int .i64 (t 0), .int .i64 (t 1), .int .i64 (t 2), .int .i64 (t 3), .int .i64 (t 4), .int .i64 (t 5), .int .i64 (t 6), .int .i64 (t 7), .int .i64 (t 8), .int .i64 (t 9), .int .i64 (t 10), .int .i64 (t 11), .int .i64 (t 12), .int .i64 (t 13), .int .i64 (t 14), .int .i64 (t 15), .slice none 0 0, .bool d]
theorem Fr.setT {b : Nat} {w w' : World} (h : Fr (fun k => k = b) w w') (o : Nat) (v : Value) : Fr (fun k => k = b) w (w'.setCell ⟨b, o, Option.none⟩ v) := h.setCell (p := ⟨b, o, Option.none⟩) (.inl rfl) v
theorem Tryz.info_task : (Tryz.prog.info? 98).map (fun i => (i.zero, i.size, i.bytes)) = some (some (.agg #[.int .i64 0, .int .i64 0, .int .i64 0, .int .i64 0, .int .i64 0, .int .i64 0, .int .i64 0, .int .i64 0, .int .i64 0, .int .i64 0, .int .i64 0, .int .i64 0, .int .i64 0, .int .i64 0, .int .i64 0, .int .i64 0, .slice none 0 0, .bool false]), 18, 160) := by kernel_rfl
theorem arena_new (most : Nat) (w : World) (h1 : 1 ≤ most) (h2 : most ≤ 1000) :
    Calls Tryz.prog 41 #[.int .i64 (most : Int)] w fun e w' => ∃ b, e = .returned (.tuple #[.pointer (some ⟨b, 0, none⟩), .int .i64 0]) ∧ Fr Nob w w' ∧ ArenaAt 161 98 18 w' (fun k => w.heap.size ≤ k ∧ k < w'.heap.size) b most 0 [] := by
  have h3 : ¬ (most : Int) < 1 := by omega
  have h4 : ¬ (1000 : Int) < most := by omega
  go_enter Tryz.func41, Tryz.ntmps41
  go_wp2
  go_ret2
  exact ⟨w.heap.size, rfl, (Fr.refl Nob w).alloc _, .slice none 0 0, by simp, blk_alloc_eq _ rfl, Sl.nil _ _ _ _, by omega, h2⟩
theorem arena_len (w : World) (S : Nat → Prop) (b most n : Nat) (cs : List Value) (h : ArenaAt 161 98 18 w S b most n cs) :
    Calls Tryz.prog 129 #[.pointer (some ⟨b, 0, none⟩)] w fun e w' => e = .returned (.int .i64 (n : Int)) ∧ w = w' := by
  obtain ⟨v, hS, hb, hs, hn, hm⟩ := h
  obtain ⟨X, c, rfl⟩ := hs.slice
  have c0 := blk_cell hb 0 rfl
  clear hb hs
  go_enter Tryz.func129, Tryz.ntmps129
  go_wp2
  go_ret
  exact ⟨rfl, rfl⟩
theorem arena_left (w : World) (S : Nat → Prop) (b most n : Nat) (cs : List Value) (h : ArenaAt 161 98 18 w S b most n cs) :
    Calls Tryz.prog 68 #[.pointer (some ⟨b, 0, none⟩)] w fun e w' => e = .returned (.int .i64 ((most : Int) - n)) ∧ ∃ m, w' = w.drewN m := by
  obtain ⟨v, hS, hb, hs, hn, hm⟩ := h
  obtain ⟨X, c, rfl⟩ := hs.slice
  have c0 := blk_cell hb 0 rfl
  have c1 := blk_cell hb 1 rfl
  clear hb hs
  go_enter Tryz.func68, Tryz.ntmps68
  go_wp2
  go_quiet (fail)
  go_wp2
  go_ret
  exact ⟨rfl, _, rfl⟩
set_option maxHeartbeats 4000000 in
theorem arena_add (w : World) (S : Nat → Prop) (b most n : Nat) (cs : List Value) (t : Nat → Int) (d : Bool) (h : ArenaAt 161 98 18 w S b most n cs) (hlt : n < most) :
    Calls Tryz.prog 48 #[.pointer (some ⟨b, 0, none⟩), .agg (tkA t d)] w fun e w' => e = .returned (.tuple #[.int .i64 (n : Int), .int .i64 0]) ∧ Fr S w w' ∧ ArenaAt 161 98 18 w' (And' S w w') b most (n + 1) (cs ++ tkL t d) := by
  have hl := fun w' (hf : Fr Nob w w') => arena_left w' S b most n cs (h.fr hf fun _ _ q => q)
  obtain ⟨v, hS, hb, hs, hn, hm⟩ := h
  obtain ⟨X, c, rfl⟩ := hs.slice
  have hz : (((most : Int) - n) == 0) = false := by simp; omega
  have Hl := Lib.hid hl
  have lb := lt_of_block hb
  have Hb := Lib.hid hb; have Hs := Lib.hid hs
  clear hl hb hs
  go_enter Tryz.func48, Tryz.ntmps48
  go_wp2_with fail
  refine (Hl.out _ ((Fr.refl _ _).alloc _)).mono ?_
  rintro e w' ⟨rfl, m, rfl⟩
  go_wp2_with fail
  obtain ⟨W, hW⟩ : ∃ W, W = (w.alloc (.cells (tkA t d) 98)).drewN m := ⟨_, rfl⟩
  rw [← hW]
  have hfW : Fr Nob w W := by rw [hW]; exact ((Fr.refl Nob w).alloc _).drewN m
  have hxW : W.heap[w.heap.size]? = some (.cells #[.int .i64 (t 0), .int .i64 (t 1), .int .i64 (t 2), .int .i64 (t 3), .int .i64 (t 4), .int .i64 (t 5), .int .i64 (t 6), .int .i64 (t 7), .int .i64 (t 8), .int .i64 (t 9), .int .i64 (t 10), .int .i64 (t 11), .int .i64 (t 12), .int .i64 (t 13), .int .i64 (t 14), .int .i64 (t 15), .slice none 0 0, .bool d] 98 (0, 0)) := by rw [hW]; exact blk_alloc_eq (w := w) _ rfl
  have hzW : W.heap.size = w.heap.size + 1 := by rw [hW]; simp [size_drewN']
  clear hW
  have hbW := hfW.blk id Hb.out
  have hsW := Hs.out.fr hfW fun _ _ q => q
  have hwrap : IntKind.i64.wrap ((n : Int) + 1 - 1) = n := by rw [show (n : Int) + 1 - 1 = n by omega]; exact IntWalk.i64_in _ (by omega)
  have x0 := blk_cell hxW 0 rfl
  have x1 := blk_cell hxW 1 rfl
  have x2 := blk_cell hxW 2 rfl
  have x3 := blk_cell hxW 3 rfl
  have x4 := blk_cell hxW 4 rfl
  have x5 := blk_cell hxW 5 rfl
  have x6 := blk_cell hxW 6 rfl
  have x7 := blk_cell hxW 7 rfl
  have x8 := blk_cell hxW 8 rfl
  have x9 := blk_cell hxW 9 rfl
  have x10 := blk_cell hxW 10 rfl
  have x11 := blk_cell hxW 11 rfl
  have x12 := blk_cell hxW 12 rfl
  have x13 := blk_cell hxW 13 rfl
  have x14 := blk_cell hxW 14 rfl
  have x15 := blk_cell hxW 15 rfl
  have x16 := blk_cell hxW 16 rfl
  have x17 := blk_cell hxW 17 rfl
  have b0 := blk_cell hbW 0 rfl
  have b1 := blk_froz hbW 0
  have lbW := lt_of_block hbW
  have lxW := lt_of_block hxW
  generalize w.heap.size = p at *
  have HbW := Lib.hid hbW; have HsW := Lib.hid hsW; have HfW := Lib.hid hfW; have HzW := Lib.hid hzW; have HxW := Lib.hid hxW
  clear hbW hsW hxW hfW hzW
  go_region_law ((refine step_append_sl _ (by rfl) _ _ _ (by rfl) (fun k => S k ∧ k ≠ b) 98 _ 18 160 Tryz.underlying159 Tryz.info_task rfl (by omega) (.slice X n c) n cs (by rfl) ((HsW.out.alloc _).drew) ⟨W.heap.size, 0, none⟩ 1 1 [.int .i64 (t 0), .int .i64 (t 1), .int .i64 (t 2), .int .i64 (t 3), .int .i64 (t 4), .int .i64 (t 5), .int .i64 (t 6), .int .i64 (t 7), .int .i64 (t 8), .int .i64 (t 9), .int .i64 (t 10), .int .i64 (t 11), .int .i64 (t 12), .int .i64 (t 13), .int .i64 (t 14), .int .i64 (t 15), .slice none 0 0, .bool d] (by rfl) (by rfl) (news_lit _ [.int .i64 (t 0), .int .i64 (t 1), .int .i64 (t 2), .int .i64 (t 3), .int .i64 (t 4), .int .i64 (t 5), .int .i64 (t 6), .int .i64 (t 7), .int .i64 (t 8), .int .i64 (t 9), .int .i64 (t 10), .int .i64 (t 11), .int .i64 (t 12), .int .i64 (t 13), .int .i64 (t 14), .int .i64 (t 15), .slice none 0 0, .bool d] 98 (0, 0) _ (heap_alloc_new W _)) (by rfl) (by omega) (by omega) ?_; intro v3 w3 hs3 hf3; obtain ⟨X3, c3, rfl⟩ := hs3.slice; have hb3 := hf3.blk (fun q => q.2 rfl) (show ((W.alloc (.cells #[.int .i64 (t 0), .int .i64 (t 1), .int .i64 (t 2), .int .i64 (t 3), .int .i64 (t 4), .int .i64 (t 5), .int .i64 (t 6), .int .i64 (t 7), .int .i64 (t 8), .int .i64 (t 9), .int .i64 (t 10), .int .i64 (t 11), .int .i64 (t 12), .int .i64 (t 13), .int .i64 (t 14), .int .i64 (t 15), .slice none 0 0, .bool d] 98)).drew).heap[b]? = _ from (blk_alloc_ne _ lbW).trans HbW.out); have d0 := blk_cell hb3 0 rfl; have g0 := blk_froz hb3 0; have hsz := hf3.size; have Hb3 := Lib.hid hb3; have Hs3 := Lib.hid hs3; have Hf3 := Lib.hid hf3; clear hb3 hs3 hf3))
  all_goals
    have d1 := blk_cell (blk_set Hb3.out 0 (.slice X3 (n + 1) c3)) 0 rfl
    go_wp2_with fail
    go_ret2
    have e1 : ((n : Int) + 1 - 1) = n := by omega
    have ez : ((W.alloc (.cells #[.int .i64 (t 0), .int .i64 (t 1), .int .i64 (t 2), .int .i64 (t 3), .int .i64 (t 4), .int .i64 (t 5), .int .i64 (t 6), .int .i64 (t 7), .int .i64 (t 8), .int .i64 (t 9), .int .i64 (t 10), .int .i64 (t 11), .int .i64 (t 12), .int .i64 (t 13), .int .i64 (t 14), .int .i64 (t 15), .slice none 0 0, .bool d] 98)).drew).heap.size = W.heap.size + 1 := by simp
    refine ⟨by simp [e1], ((HfW.out.none.alloc _).drew.trans0 (Hf3.out.mono fun k _ q => q.1)).setCell (.inl hS) _, .slice X3 (n + 1) c3, .inl hS, ?_, ?_, by omega, hm⟩
    · exact blk_set Hb3.out 0 _
    · refine (Hs3.out.fr ((Fr.refl (fun k => k = b) w3).setCell (p := ⟨b, 0, none⟩) (.inl rfl) _) ?_).mono ?_
      · intro k q e
        rcases q with q | q
        · exact q.2 e
        · subst e; omega
      · intro k hk q
        have hh := HfW.out.size
        rcases q with q | q
        · exact ⟨.inl q.1, q.2⟩
        · exact ⟨.inr ⟨by omega, by simpa using hk⟩, by rintro rfl; omega⟩
/-- The cells of a task, as one. -/
def tkD (t : Nat → Int) (d : Bool) : List Value := tkL t d
theorem tkD_len (t : Nat → Int) (d : Bool) : (tkD t d).length = 18 := rfl
theorem tkD_one (t : Nat → Int) (d : Bool) : ∀ v ∈ tkD t d, v.oneCell' = true := by
  intro v hv
  simp only [tkD, tkL, List.mem_cons, List.not_mem_nil, or_false] at hv
  rcases hv with rfl | rfl | rfl | rfl | rfl | rfl | rfl | rfl | rfl | rfl | rfl | rfl | rfl | rfl | rfl | rfl | rfl | rfl <;> rfl
theorem tkD_all (t : Nat → Int) (d : Bool) : (tkD t d).toArray.all (·.oneCell') = true := all_oneCell_toArray (tkD_one t d)
def tkZ : List Value := tkL (fun _ => 0) false
theorem info_task18 : (Tryz.prog.info? 98).map (·.size) = some 18 := by kernel_rfl
theorem arena_addD (w : World) (S : Nat → Prop) (b most n : Nat) (cs : List Value) (t : Nat → Int) (d : Bool) (h : ArenaAt 161 98 18 w S b most n cs) (hlt : n < most) :
    Calls Tryz.prog 48 #[.pointer (some ⟨b, 0, none⟩), .agg (tkD t d).toArray] w fun e w' => e = .returned (.tuple #[.int .i64 (n : Int), .int .i64 0]) ∧ Fr S w w' ∧ ArenaAt 161 98 18 w' (And' S w w') b most (n + 1) (cs ++ tkD t d) :=
  arena_add w S b most n cs t d h hlt
theorem setRow (w : World) (b : Nat) (cells old : Array Value) (T : TypeId) (hb : w.heap[b]? = some (.cells old T (0, 0))) (hsz : old.size = cells.size) : (w.setCells b 0 cells.toList).heap[b]? = some (.cells cells T (0, 0)) := by
  obtain ⟨blk', q1, q2, q3, q4⟩ := setCells_blk b T (0, 0) cells.toList 0 w old hb (by simp; omega)
  have e : blk' = cells := by
    apply Array.ext_getElem?
    intro i
    by_cases hi : i < cells.size
    · have := q4 i cells[i] (by simp [hi])
      rw [Nat.zero_add] at this
      rw [this]; simp [hi]
    · rw [Array.getElem?_eq_none (by omega), Array.getElem?_eq_none (by omega)]
  rw [e] at q1; exact q1
theorem thereRow {w : World} {b : Nat} {old : Array Value} {T : TypeId} (hb : w.heap[b]? = some (.cells old T (0, 0))) (n : Nat) (hn : n ≤ old.size) : w.there b 0 n := fun j hj => by
  rw [Nat.zero_add]
  have hj' : j < old.size := by omega
  exact ⟨by rw [blk_cell hb j (Array.getElem?_eq_getElem hj')]; rfl, blk_froz hb j⟩
theorem rangeRow {w : World} {b : Nat} {cs : List Value} {T : TypeId} (hb : w.heap[b]? = some (.cells cs.toArray T (0, 0))) : w.rangeAt b 0 cs := fun j v hv => by
  rw [Nat.zero_add]; exact blk_cell hb j (by simpa using hv)
/-- Two results, the first of them a row in its block. -/
theorem res_row2 {P : Program} {fn : Func} {p q : Tmp} {ty : TypeId} (h : fn.results = #[.cell p ty, .tmp q]) (tmps : Array Value) (w : World) (g : Nat) (t : TypeId) (cs : Array Value) (fr : Nat × Nat) (d : TypeDesc) (v : Value)
    (hp : tmps.getD p undef = .pointer (some ⟨g, 0, none⟩)) (hq : tmps.getD q undef = v) (hg : w.heap[g]? = some (.cells cs t fr))
    (hu : P.underlying ty = some d) (hd : (match d with | .struct _ | .array _ _ => true | _ => false) = true) (hi : (P.info? ty).map (·.size) = some cs.size) :
    (results fn tmps).run P w = .ok (.tuple #[.agg cs, v]) w := by
  have hp' : tmps[p]?.getD undef = .pointer (some ⟨g, 0, none⟩) := by simpa using hp
  have hq' : tmps[q]?.getD undef = v := by simpa using hq
  simp [results, h, hp', hq', asAddr, run_loadVar_row w g t ty cs fr d hg hu hd hi]
set_option maxHeartbeats 1000000 in
theorem arena_get (w : World) (S : Nat → Prop) (b most n : Nat) (cs : List Value) (i : Nat) (t : Nat → Int) (d : Bool) (h : ArenaAt 161 98 18 w S b most n cs) (hi : i < n) (hx : ∀ j, j < 18 → cs[i * 18 + j]? = (tkD t d)[j]?) :
    Calls Tryz.prog 83 #[.pointer (some ⟨b, 0, none⟩), .int .i64 (i : Int)] w fun e w' => e = .returned (.tuple #[.agg (tkD t d).toArray, .bool true]) ∧ Fr Nob w w' := by
  have hl := fun w' (hf : Fr Nob w w') => arena_len w' S b most n cs (h.fr hf fun _ _ q => q)
  have Hl := Lib.hid hl
  obtain ⟨v, hS, hb, hs, hn, hm⟩ := h
  obtain ⟨g, off, c, rfl, _, hg, hc1, hc2, hc, _⟩ := hs.form (by omega)
  have hr : ∀ W, Fr Nob w W → W.rangeAt g (off + i * 18) (tkD t d) := fun W hW j u hj => by
    have hj18 : j < 18 := by have := (List.getElem?_eq_some_iff.1 hj).1; rwa [tkD_len] at this
    rw [Nat.add_assoc]
    exact hW.cell (p := ⟨g, off + (i * 18 + j), none⟩) id (hc _ _ ((hx j hj18).trans hj))
  unfold maxLen at hc2
  have h0 : ¬ (i : Int) < 0 := by omega
  have h1 : ¬ (n : Int) ≤ i := by omega
  have Hb := Lib.hid hb; have Hr := Lib.hid hr
  have Hone := Lib.hid (tkD_all t d)
  have Hlen := Lib.hid (tkD_len t d)
  clear hl hb hs hc hx hr
  generalize tkD t d = L at *
  go_enter Tryz.func83, Tryz.ntmps83
  go_wp2_with fail
  obtain ⟨w1, hw1⟩ : ∃ w1, w1 = w.alloc (.cells tkZ.toArray 98) := ⟨_, rfl⟩
  have hw1' := hw1
  unfold tkZ at hw1'
  dsimp only [tkL] at hw1'
  rw [← hw1']
  clear hw1'
  obtain ⟨rb, hrb⟩ : ∃ rb, rb = w.heap.size := ⟨_, rfl⟩
  rw [← hrb]
  have hf1 : Fr Nob w w1 := by rw [hw1]; exact (Fr.refl Nob w).alloc _
  have hb1 : w1.heap[rb]? = some (.cells tkZ.toArray 98 (0, 0)) := by rw [hw1, hrb]; exact heap_alloc_new _ _
  have Hz1 : Hid (w.heap.size = rb) := hrb.symm
  clear hw1 hrb
  refine (Hl.out _ hf1).mono ?_
  rintro e wx ⟨rfl, hwx⟩
  obtain rfl : w1 = wx := hwx
  have c0 := blk_cell (hf1.blk id Hb.out) 0 rfl
  have Hf1 := Lib.hid hf1; have Hb1 := Lib.hid hb1
  clear hf1 hb1
  go_wp2_with (first | (refine wpList_load_mid rfl 98 (.tmp 21) rfl g (off + i * 18) rfl L _ (Hr.out w1 Hf1.out) Tryz.underlying98 rfl (by rw [info_task18, Hlen.out]) ?_) | (refine wpList_store_mid rfl 98 (.tmp 4) (.tmp 22) rfl rb 0 L.toArray rfl rfl (thereRow Hb1.out _ (by rw [List.size_toArray, Hlen.out]; exact Nat.le_refl _)) (by rw [info_task18, List.size_toArray, Hlen.out]) Hone.out ?_))
  have hb2 := setRow w1 rb L.toArray tkZ.toArray 98 Hb1.out (by rw [List.size_toArray, List.size_toArray, Hlen.out]; rfl)
  have hf2 : Fr (fun k => k = rb) w1 (w1.setCells rb 0 L) := setCells_fr rb L 0 w1
  refine bodyPost_ret (res_row2 Tryz.results83 _ _ rb 98 L.toArray (0, 0) _ (.bool true) rfl rfl hb2 Tryz.underlying98 rfl (by rw [info_task18, List.size_toArray, Hlen.out])) rfl ⟨rfl, Hf1.out.trans hf2 fun k hk e => by have := Hz1.out; omega⟩
/-- A row of such things with number i another one. -/
def rowSet (cs : List Value) (i : Nat) (L : List Value) : List Value := cs.take (i * 18) ++ L ++ cs.drop (i * 18 + 18)
theorem rowSet_len {cs : List Value} {i n : Nat} {L : List Value} (hn : cs.length = n * 18) (hi : i < n) (hL : L.length = 18) : (rowSet cs i L).length = n * 18 := by
  have : i * 18 + 18 ≤ n * 18 := by omega
  unfold rowSet; simp; omega
theorem rowSet_get {cs : List Value} {i n : Nat} {L : List Value} (hn : cs.length = n * 18) (hi : i < n) (hL : L.length = 18) (j : Nat) : (rowSet cs i L)[j]? = if i * 18 ≤ j ∧ j < i * 18 + 18 then L[j - i * 18]? else cs[j]? := by
  have h0 : i * 18 + 18 ≤ n * 18 := by omega
  have h1 : (cs.take (i * 18)).length = i * 18 := by rw [List.length_take]; omega
  unfold rowSet
  rw [List.append_assoc, List.getElem?_append]
  split
  · next h =>
    rw [h1] at h
    rw [List.getElem?_take, if_pos h, if_neg (by omega)]
  · next h =>
    rw [h1] at h ⊢
    rw [List.getElem?_append]
    split
    · next h2 => rw [hL] at h2; rw [if_pos (by omega)]
    · next h2 =>
      rw [hL] at h2 ⊢
      rw [if_neg (by omega), List.getElem?_drop]
      congr 1; omega
theorem setCells_behind (b : Nat) (T : TypeId) (fr : Nat × Nat) : ∀ (vs : List Value) (o : Nat) (w : World) (blk blk' : Array Value), w.heap[b]? = some (.cells blk T fr) → (w.setCells b o vs).heap[b]? = some (.cells blk' T fr) → o + vs.length ≤ blk.size → ∀ j, o + vs.length ≤ j → blk'[j]? = blk[j]?
  | [], o, w, blk, blk', h, h', _, j, _ => by
    have : some (Obj.cells blk T fr) = some (Obj.cells blk' T fr) := h.symm.trans h'
    injection this with this; injection this with this; rw [this]
  | v :: r, o, w, blk, blk', h, h', hs, j, hj => by
    simp only [List.length_cons] at hs hj
    have := setCells_behind b T fr r (o + 1) (w.setCell ⟨b, o, none⟩ v) (blk.setIfInBounds o v) blk' (blk_set h o v) h' (by simp; omega) j (by omega)
    rw [this, Array.getElem?_setIfInBounds, if_neg (by omega)]
theorem Sl.setRows {w : World} {S : Nat → Prop} {T : TypeId} {n cap g off i : Nat} {cs L : List Value} (h : Sl w S T 18 (.slice (some ⟨g, off, none⟩) n cap) n cs) (hi : i < n) (hL : L.length = 18) : Sl (w.setCells g (off + i * 18) L) S T 18 (.slice (some ⟨g, off, none⟩) n cap) n (rowSet cs i L) := by
  have hlen := h.1
  refine ⟨rowSet_len hlen hi hL, ?_⟩
  rcases h.2 with ⟨h', _⟩ | ⟨g', off', cap', blk, hv, hg, hb, h1, h2, h3, h4⟩
  · cases h'
  · cases hv
    have hle : (i + 1) * 18 ≤ n * 18 := Nat.mul_le_mul_right _ hi
    have hle2 : n * 18 ≤ cap * 18 := Nat.mul_le_mul_right _ h1
    obtain ⟨blk', q1, q2, q3, q4⟩ := setCells_blk g T (0, 0) L (off + i * 18) w blk hb (by omega)
    refine .inr ⟨g, off, cap, blk', rfl, hg, q1, h1, h2, by omega, fun j u hj => ?_⟩
    rw [rowSet_get hlen hi hL] at hj
    split at hj
    · next hin =>
      have := q4 (j - i * 18) u hj
      rwa [show off + i * 18 + (j - i * 18) = off + j by omega] at this
    · next hout =>
      have hjc := h4 j u hj
      by_cases hlo : j < i * 18
      · rw [q3 (off + j) (by omega)]; exact hjc
      · -- behind the row
        have hj18 : i * 18 + 18 ≤ j := by omega
        have : blk'[off + j]? = blk[off + j]? := setCells_behind g T (0, 0) L (off + i * 18) w blk blk' hb q1 (by omega) (off + j) (by omega)
        rw [this]; exact hjc
/-- The last operation of a region that draws: the store of a row. -/
theorem last_store {P : Program} {md : Region.Mode} {ops : Array Oper} {Q : Exit → Act → World → Prop} {S : World → Prop} {fuel : Nat} {listed : Array Bool} {a : Act} {w : World} (i : Nat) (o : Oper) (hr : Region.ready md ops listed = [i]) (ho : ops[i]? = some o) (hgd : o.guard = none)
    (ty : TypeId) (x y : Operand) (hop : o.op = .store ty x y) (b off : Nat) (cells : Array Value) (hx : a.eval x = .pointer (some ⟨b, off, none⟩)) (hy : a.eval y = .agg cells) (ht : w.there b off cells.size) (hi : (P.info? ty).map (·.size) = some cells.size) (h1 : cells.all (·.oneCell') = true)
    (hS : S (w.setCells b off cells.toList)) (hd : Region.ready md ops (listed.setIfInBounds i true) = []) (h : Q .normal (a.put o.dst undef) (w.setCells b off cells.toList)) : wpAnyH P md ops Q S (fuel + 1) listed a w := by
  refine wpAnyH_ready hr (by simp) ?_
  refine AllReadyH.cons ho (fun K hK => ?_) AllReadyH.nil
  have hw : Region.wanted o (yielded ops a.tmps) = true := by simp [Region.wanted, hgd]
  rw [if_pos hw]
  exact wp_store_mid ty x y hop b off cells hx hy ht hi h1 (hK.out _ _ hS fun _ => wpAnyH_done hd h _)
end Go.Proofs.YtcffplgimbbflaaGreat
