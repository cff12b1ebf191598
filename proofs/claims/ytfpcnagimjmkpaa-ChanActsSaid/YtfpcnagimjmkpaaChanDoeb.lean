/- What does of the channels' statements does: waiting, and leaving. -/
import Derived.Test.YtfpcnagimjmkpaaChanDoes
set_option linter.unusedVariables false
set_option linter.unusedSimpArgs false
namespace Go.Proofs.Ytfpcnagimjmkpaa
open Go.RowKit
set_option maxRecDepth 100000
set_option maxHeartbeats 2000000 in
theorem does_4 {w0 w : World} {b m : Nat} {c : ChS} (h : Both w0 w b m c) (hfew : c.Few) (v : Int) (y0 y1 y2 : Int) (s : Bool) :
    Calls Try.prog 30 #[.pointer (some ⟨b, 0, none⟩), .pointer (some ⟨m, 0, none⟩), .agg #[.int .i64 4, .int .i64 v, .int .i64 y0, .int .i64 y1, .int .i64 y2, .bool s]] w (Done w0 b m c) := by
  obtain ⟨S, T, hc, hr, hS0, hT0, hd, hf0⟩ := h
  have Hc := Lib.hid hc; have Hr := Lib.hid hr; have HS0 := Lib.hid hS0; have HT0 := Lib.hid hT0; have Hd := Lib.hid hd; have Hf0 := Lib.hid hf0; have Hfew := Lib.hid hfew
  clear hc hr hS0 hT0 hd hf0 hfew
  obtain ⟨r, hre⟩ : ∃ r, c.waitR (y0, y1, y2) s = r := ⟨_, rfl⟩
  obtain ⟨c', hce⟩ : ∃ c', c.waitS (y0, y1, y2) s = c' := ⟨_, rfl⟩
  have Hre := Lib.hid hre; have Hce := Lib.hid hce
  clear hre hce
  go_enter Try.func30, Try.ntmps30
  go_wp2_with fail
  obtain ⟨w1, hw1⟩ : ∃ w1, w1 = w.alloc (.cells #[.int .i64 4, .int .i64 v, .int .i64 y0, .int .i64 y1, .int .i64 y2, .bool s] 64) := ⟨_, rfl⟩
  rw [← hw1]
  obtain ⟨pb, hpb⟩ : ∃ pb, pb = w.heap.size := ⟨_, rfl⟩
  try rw [← hpb]
  have hf1 : Fr Nob w w1 := by rw [hw1]; exact (Fr.refl Nob w).alloc _
  have hp1 : w1.heap[pb]? = some (.cells #[.int .i64 4, .int .i64 v, .int .i64 y0, .int .i64 y1, .int .i64 y2, .bool s] 64 (0, 0)) := by rw [hw1, hpb]; exact heap_alloc_new _ _
  have hns : ¬ S pb := fun q => by have := Hc.out.lt _ q; omega
  have hnt : ¬ T pb := fun q => by have := Hr.out.lt _ q; omega
  have HC := Lib.hid (Hc.out.fr0 hf1); have HR := Lib.hid (Hr.out.fr0 hf1); have HF := Lib.hid (Hf0.out.trans0 hf1)
  have Hp1 := Lib.hid hp1
  have hlt : pb < w1.heap.size := lt_of_block hp1
  clear hw1 hpb hf1 hp1 Hc Hr Hf0
  have hkey : ∀ W : World, W.heap[pb]? = some (.cells #[.int .i64 4, .int .i64 v, .int .i64 y0, .int .i64 y1, .int .i64 y2, .bool s] 64 (0, 0)) → W.cell? ⟨pb, 1, none⟩ = some (.int .i64 v) ∧ W.cell? ⟨pb, 2, none⟩ = some (.int .i64 y0) ∧ W.cell? ⟨pb, 3, none⟩ = some (.int .i64 y1) ∧ W.cell? ⟨pb, 4, none⟩ = some (.int .i64 y2) ∧ W.cell? ⟨pb, 5, none⟩ = some (.bool s) := fun W h => ⟨blk_cell h 1 rfl, blk_cell h 2 rfl, blk_cell h 3 rfl, blk_cell h 4 rfl, blk_cell h 5 rfl⟩
  have Key := Lib.hid hkey
  have hb1 := ((Fr.refl Nob w1).drew).blk id Hp1.out
  clear hkey
  go_region_held3 (fun W => W.cell? ⟨pb, 1, none⟩ = some (.int .i64 v) ∧ W.cell? ⟨pb, 2, none⟩ = some (.int .i64 y0) ∧ W.cell? ⟨pb, 3, none⟩ = some (.int .i64 y1) ∧ W.cell? ⟨pb, 4, none⟩ = some (.int .i64 y2) ∧ W.cell? ⟨pb, 5, none⟩ = some (.bool s))
    ((refine Key.out _ ?_; first | with_reducible exact hb3 | with_reducible exact hb2 | with_reducible exact hb1 | exact hb1 | exact Hp1.out))
    ((first
      | (go_at_call 14; refine (chan_wait (HC.out.fr0 ((Fr.refl Nob w1).drew)) (y0, y1, y2) s r Hre.out Hce.out (by have := Hfew.out.1; have := Hfew.out.2.1; omega)).mono ?_; rintro e w2 ⟨S', rfl, hf2, hc2, hsub⟩; have hb2 := hf2.blk hns hb1; have Hh := Lib.hid (half1 (HR.out.fr0 ((Fr.refl Nob w1).drew)) HS0.out HT0.out Hd.out (HF.out.drew) hf2 hc2 hsub); clear hf2 hc2 hsub)
      | (go_at_call 56; refine (ref_wait Hh.out.rf Hfew.out (y0, y1, y2) s r Hre.out Hce.out).mono ?_; rintro e w3 ⟨rfl, ht3⟩; have hb3 := ht3.1.blk hnt hb2; have HB := Lib.hid (half2 Hh.out ht3); clear ht3)))
  all_goals (
    clear hb1 hb2 hb3 Key
    have hrr : (r == r) = true := by simp
    go_wp2_with fail
    go_ret
    exact ⟨by simp, _, HB.out, by rw [← Hce.out]; exact waitS_le c _ s⟩)
set_option maxHeartbeats 2000000 in
theorem does_5 {w0 w : World} {b m : Nat} {c : ChS} (h : Both w0 w b m c) (hfew : c.Few) (v : Int) (y0 y1 y2 : Int) (s : Bool) :
    Calls Try.prog 30 #[.pointer (some ⟨b, 0, none⟩), .pointer (some ⟨m, 0, none⟩), .agg #[.int .i64 5, .int .i64 v, .int .i64 y0, .int .i64 y1, .int .i64 y2, .bool s]] w (Done w0 b m c) := by
  obtain ⟨S, T, hc, hr, hS0, hT0, hd, hf0⟩ := h
  have Hc := Lib.hid hc; have Hr := Lib.hid hr; have HS0 := Lib.hid hS0; have HT0 := Lib.hid hT0; have Hd := Lib.hid hd; have Hf0 := Lib.hid hf0; have Hfew := Lib.hid hfew
  clear hc hr hS0 hT0 hd hf0 hfew
  obtain ⟨r, hre⟩ : ∃ r, c.removeR v = r := ⟨_, rfl⟩
  obtain ⟨c', hce⟩ : ∃ c', c.removeS v = c' := ⟨_, rfl⟩
  have Hre := Lib.hid hre; have Hce := Lib.hid hce
  clear hre hce
  go_enter Try.func30, Try.ntmps30
  go_wp2_with fail
  obtain ⟨w1, hw1⟩ : ∃ w1, w1 = w.alloc (.cells #[.int .i64 5, .int .i64 v, .int .i64 y0, .int .i64 y1, .int .i64 y2, .bool s] 64) := ⟨_, rfl⟩
  rw [← hw1]
  obtain ⟨pb, hpb⟩ : ∃ pb, pb = w.heap.size := ⟨_, rfl⟩
  try rw [← hpb]
  have hf1 : Fr Nob w w1 := by rw [hw1]; exact (Fr.refl Nob w).alloc _
  have hp1 : w1.heap[pb]? = some (.cells #[.int .i64 5, .int .i64 v, .int .i64 y0, .int .i64 y1, .int .i64 y2, .bool s] 64 (0, 0)) := by rw [hw1, hpb]; exact heap_alloc_new _ _
  have hns : ¬ S pb := fun q => by have := Hc.out.lt _ q; omega
  have hnt : ¬ T pb := fun q => by have := Hr.out.lt _ q; omega
  have HC := Lib.hid (Hc.out.fr0 hf1); have HR := Lib.hid (Hr.out.fr0 hf1); have HF := Lib.hid (Hf0.out.trans0 hf1)
  have Hp1 := Lib.hid hp1
  have hlt : pb < w1.heap.size := lt_of_block hp1
  clear hw1 hpb hf1 hp1 Hc Hr Hf0
  have hkey : ∀ W : World, W.heap[pb]? = some (.cells #[.int .i64 5, .int .i64 v, .int .i64 y0, .int .i64 y1, .int .i64 y2, .bool s] 64 (0, 0)) → W.cell? ⟨pb, 1, none⟩ = some (.int .i64 v) ∧ W.cell? ⟨pb, 2, none⟩ = some (.int .i64 y0) ∧ W.cell? ⟨pb, 3, none⟩ = some (.int .i64 y1) ∧ W.cell? ⟨pb, 4, none⟩ = some (.int .i64 y2) ∧ W.cell? ⟨pb, 5, none⟩ = some (.bool s) := fun W h => ⟨blk_cell h 1 rfl, blk_cell h 2 rfl, blk_cell h 3 rfl, blk_cell h 4 rfl, blk_cell h 5 rfl⟩
  have Key := Lib.hid hkey
  have hb1 := ((Fr.refl Nob w1).drew).blk id Hp1.out
  clear hkey
  go_region_held3 (fun W => W.cell? ⟨pb, 1, none⟩ = some (.int .i64 v) ∧ W.cell? ⟨pb, 2, none⟩ = some (.int .i64 y0) ∧ W.cell? ⟨pb, 3, none⟩ = some (.int .i64 y1) ∧ W.cell? ⟨pb, 4, none⟩ = some (.int .i64 y2) ∧ W.cell? ⟨pb, 5, none⟩ = some (.bool s))
    ((refine Key.out _ ?_; first | with_reducible exact hb3 | with_reducible exact hb2 | with_reducible exact hb1 | exact hb1 | exact Hp1.out))
    ((first
      | (go_at_call 19; refine (chan_remove (HC.out.fr0 ((Fr.refl Nob w1).drew)) v r c' Hre.out Hce.out).mono ?_; rintro e w2 ⟨rfl, hf2, hc2⟩; have hb2 := hf2.blk hns hb1; have Hh := Lib.hid (half1 (HR.out.fr0 ((Fr.refl Nob w1).drew)) HS0.out HT0.out Hd.out (HF.out.drew) hf2 hc2 (fun k q => .inl q)); clear hf2 hc2)
      | (go_at_call 57; refine (ref_remove Hh.out.rf Hfew.out v r c' Hre.out Hce.out).mono ?_; rintro e w3 ⟨rfl, ht3⟩; have hb3 := ht3.1.blk hnt hb2; have HB := Lib.hid (half2 Hh.out ht3); clear ht3)))
  all_goals (
    clear hb1 hb2 hb3 Key
    have hrr : ((r : Int) == (r : Int)) = true := by simp
    go_wp2_with fail
    go_ret
    exact ⟨by simp, _, HB.out, by rw [← Hce.out]; exact removeS_le c v⟩)
theorem doesn_1 (w : World) (v : Int) (y0 y1 y2 : Int) (s : Bool) :
    Calls Try.prog 30 #[.pointer none, .pointer none, .agg #[.int .i64 1, .int .i64 v, .int .i64 y0, .int .i64 y1, .int .i64 y2, .bool s]] w fun e w' => e = .returned (.bool true) ∧ Fr Nob w w' := by
  go_enter Try.func30, Try.ntmps30
  go_wp2_with fail
  obtain ⟨w1, hw1⟩ : ∃ w1, w1 = w.alloc (.cells #[.int .i64 1, .int .i64 v, .int .i64 y0, .int .i64 y1, .int .i64 y2, .bool s] 64) := ⟨_, rfl⟩
  rw [← hw1]
  obtain ⟨pb, hpb⟩ : ∃ pb, pb = w.heap.size := ⟨_, rfl⟩
  try rw [← hpb]
  have hf1 : Fr Nob w w1 := by rw [hw1]; exact (Fr.refl Nob w).alloc _
  have hp1 : w1.heap[pb]? = some (.cells #[.int .i64 1, .int .i64 v, .int .i64 y0, .int .i64 y1, .int .i64 y2, .bool s] 64 (0, 0)) := by rw [hw1, hpb]; exact heap_alloc_new _ _
  have Hp1 := Lib.hid hp1; have HF1 := Lib.hid hf1
  have hlt : pb < w1.heap.size := lt_of_block hp1
  clear hw1 hpb hf1 hp1
  refine (send_nil w1 v).mono ?_
  rintro e w2 ⟨rfl, hf2⟩
  have F2 := Lib.hid (HF1.out.trans0 hf2)
  have p1 := blk_cell (hf2.blk id Hp1.out) 1 rfl
  clear hf2
  go_wp2_with fail
  refine (rsend_nil w2 v).mono ?_
  rintro e w3 ⟨rfl, hf3⟩
  have F3 := Lib.hid (F2.out.trans0 hf3)
  clear hf3 p1
  go_wp2_with fail
  refine (alike_wakes w3 _ _ [] 0 rfl (rd_nil _ _) (rd_nil _ _)).mono ?_
  rintro e w4 ⟨rfl, hq4⟩
  have F4 := Lib.hid (F3.out.trans0 (Fr.ofDrew hq4))
  clear hq4
  go_wp2_with fail
  go_ret
  exact ⟨rfl, F4.out⟩
theorem doesn_2 (w : World) (v : Int) (y0 y1 y2 : Int) (s : Bool) :
    Calls Try.prog 30 #[.pointer none, .pointer none, .agg #[.int .i64 2, .int .i64 v, .int .i64 y0, .int .i64 y1, .int .i64 y2, .bool s]] w fun e w' => e = .returned (.bool true) ∧ Fr Nob w w' := by
  go_enter Try.func30, Try.ntmps30
  go_wp2_with fail
  obtain ⟨w1, hw1⟩ : ∃ w1, w1 = w.alloc (.cells #[.int .i64 2, .int .i64 v, .int .i64 y0, .int .i64 y1, .int .i64 y2, .bool s] 64) := ⟨_, rfl⟩
  rw [← hw1]
  obtain ⟨pb, hpb⟩ : ∃ pb, pb = w.heap.size := ⟨_, rfl⟩
  try rw [← hpb]
  have hf1 : Fr Nob w w1 := by rw [hw1]; exact (Fr.refl Nob w).alloc _
  have hp1 : w1.heap[pb]? = some (.cells #[.int .i64 2, .int .i64 v, .int .i64 y0, .int .i64 y1, .int .i64 y2, .bool s] 64 (0, 0)) := by rw [hw1, hpb]; exact heap_alloc_new _ _
  have Hp1 := Lib.hid hp1; have HF1 := Lib.hid hf1
  have hlt : pb < w1.heap.size := lt_of_block hp1
  clear hw1 hpb hf1 hp1
  refine (recv_nil w1).mono ?_
  rintro e w2 ⟨rfl, hf2⟩
  have F2 := Lib.hid (HF1.out.trans0 hf2)
  
  clear hf2
  go_wp2_with fail
  refine (rrecv_nil w2).mono ?_
  rintro e w3 ⟨rfl, hf3⟩
  have F3 := Lib.hid (F2.out.trans0 hf3)
  clear hf3 
  go_wp2_with fail
  refine (alike_wakes w3 _ _ [] 0 rfl (rd_nil _ _) (rd_nil _ _)).mono ?_
  rintro e w4 ⟨rfl, hq4⟩
  have F4 := Lib.hid (F3.out.trans0 (Fr.ofDrew hq4))
  clear hq4
  go_wp2_with fail
  go_ret
  exact ⟨rfl, F4.out⟩
theorem doesn_3 (w : World) (v : Int) (y0 y1 y2 : Int) (s : Bool) :
    Calls Try.prog 30 #[.pointer none, .pointer none, .agg #[.int .i64 3, .int .i64 v, .int .i64 y0, .int .i64 y1, .int .i64 y2, .bool s]] w fun e w' => e = .returned (.bool true) ∧ Fr Nob w w' := by
  go_enter Try.func30, Try.ntmps30
  go_wp2_with fail
  obtain ⟨w1, hw1⟩ : ∃ w1, w1 = w.alloc (.cells #[.int .i64 3, .int .i64 v, .int .i64 y0, .int .i64 y1, .int .i64 y2, .bool s] 64) := ⟨_, rfl⟩
  rw [← hw1]
  obtain ⟨pb, hpb⟩ : ∃ pb, pb = w.heap.size := ⟨_, rfl⟩
  try rw [← hpb]
  have hf1 : Fr Nob w w1 := by rw [hw1]; exact (Fr.refl Nob w).alloc _
  have hp1 : w1.heap[pb]? = some (.cells #[.int .i64 3, .int .i64 v, .int .i64 y0, .int .i64 y1, .int .i64 y2, .bool s] 64 (0, 0)) := by rw [hw1, hpb]; exact heap_alloc_new _ _
  have Hp1 := Lib.hid hp1; have HF1 := Lib.hid hf1
  have hlt : pb < w1.heap.size := lt_of_block hp1
  clear hw1 hpb hf1 hp1
  refine ((chan_close_nil w1).mono (R' := fun e w' => e = .returned (.tuple #[.slice none 0 0, .int .i64 6]) ∧ Fr Nob w1 w') fun e w' h => ⟨h.1, h.2 ▸ Fr.refl _ _⟩).mono ?_
  rintro e w2 ⟨rfl, hf2⟩
  have F2 := Lib.hid (HF1.out.trans0 hf2)
  
  clear hf2
  go_wp2_with fail
  refine (rclose_nil w2).mono ?_
  rintro e w3 ⟨rfl, hf3⟩
  have F3 := Lib.hid (F2.out.trans0 hf3)
  clear hf3 
  go_wp2_with fail
  refine (alike_wakes w3 _ _ [] 0 rfl (rd_nil _ _) (rd_nil _ _)).mono ?_
  rintro e w4 ⟨rfl, hq4⟩
  have F4 := Lib.hid (F3.out.trans0 (Fr.ofDrew hq4))
  clear hq4
  go_wp2_with fail
  go_ret
  exact ⟨rfl, F4.out⟩
theorem doesn_6 (w : World) (v : Int) (y0 y1 y2 : Int) (s : Bool) :
    Calls Try.prog 30 #[.pointer none, .pointer none, .agg #[.int .i64 6, .int .i64 v, .int .i64 y0, .int .i64 y1, .int .i64 y2, .bool s]] w fun e w' => e = .returned (.bool true) ∧ Fr Nob w w' := by
  go_enter Try.func30, Try.ntmps30
  go_wp2_with fail
  obtain ⟨w1, hw1⟩ : ∃ w1, w1 = w.alloc (.cells #[.int .i64 6, .int .i64 v, .int .i64 y0, .int .i64 y1, .int .i64 y2, .bool s] 64) := ⟨_, rfl⟩
  rw [← hw1]
  obtain ⟨pb, hpb⟩ : ∃ pb, pb = w.heap.size := ⟨_, rfl⟩
  try rw [← hpb]
  have hf1 : Fr Nob w w1 := by rw [hw1]; exact (Fr.refl Nob w).alloc _
  have hp1 : w1.heap[pb]? = some (.cells #[.int .i64 6, .int .i64 v, .int .i64 y0, .int .i64 y1, .int .i64 y2, .bool s] 64 (0, 0)) := by rw [hw1, hpb]; exact heap_alloc_new _ _
  have Hp1 := Lib.hid hp1; have HF1 := Lib.hid hf1
  have hlt : pb < w1.heap.size := lt_of_block hp1
  clear hw1 hpb hf1 hp1
  refine (put_nil w1 v).mono ?_
  rintro e w2 ⟨rfl, hf2⟩
  have F2 := Lib.hid (HF1.out.trans0 hf2)
  have p1 := blk_cell (hf2.blk id Hp1.out) 1 rfl
  clear hf2
  go_wp2_with fail
  refine (rput_nil w2 v).mono ?_
  rintro e w3 ⟨rfl, hf3⟩
  have F3 := Lib.hid (F2.out.trans0 hf3)
  clear hf3 p1
  go_wp2_with fail
  refine (alike_wakes w3 _ _ [] 0 rfl (rd_nil _ _) (rd_nil _ _)).mono ?_
  rintro e w4 ⟨rfl, hq4⟩
  have F4 := Lib.hid (F3.out.trans0 (Fr.ofDrew hq4))
  clear hq4
  go_wp2_with fail
  go_ret
  exact ⟨rfl, F4.out⟩
theorem doesn_7 (w : World) (v : Int) (y0 y1 y2 : Int) (s : Bool) :
    Calls Try.prog 30 #[.pointer none, .pointer none, .agg #[.int .i64 7, .int .i64 v, .int .i64 y0, .int .i64 y1, .int .i64 y2, .bool s]] w fun e w' => e = .returned (.bool true) ∧ Fr Nob w w' := by
  go_enter Try.func30, Try.ntmps30
  go_wp2_with fail
  obtain ⟨w1, hw1⟩ : ∃ w1, w1 = w.alloc (.cells #[.int .i64 7, .int .i64 v, .int .i64 y0, .int .i64 y1, .int .i64 y2, .bool s] 64) := ⟨_, rfl⟩
  rw [← hw1]
  obtain ⟨pb, hpb⟩ : ∃ pb, pb = w.heap.size := ⟨_, rfl⟩
  try rw [← hpb]
  have hf1 : Fr Nob w w1 := by rw [hw1]; exact (Fr.refl Nob w).alloc _
  have hp1 : w1.heap[pb]? = some (.cells #[.int .i64 7, .int .i64 v, .int .i64 y0, .int .i64 y1, .int .i64 y2, .bool s] 64 (0, 0)) := by rw [hw1, hpb]; exact heap_alloc_new _ _
  have Hp1 := Lib.hid hp1; have HF1 := Lib.hid hf1
  have hlt : pb < w1.heap.size := lt_of_block hp1
  clear hw1 hpb hf1 hp1
  refine (drop_nil w1).mono ?_
  rintro e w2 ⟨rfl, hf2⟩
  have F2 := Lib.hid (HF1.out.trans0 hf2)
  
  clear hf2
  go_wp2_with fail
  refine (rdrop_nil w2).mono ?_
  rintro e w3 ⟨rfl, hf3⟩
  have F3 := Lib.hid (F2.out.trans0 hf3)
  clear hf3 
  go_wp2_with fail
  go_ret
  exact ⟨rfl, F3.out⟩
theorem doesn_8 (w : World) (v : Int) (y0 y1 y2 : Int) (s : Bool) :
    Calls Try.prog 30 #[.pointer none, .pointer none, .agg #[.int .i64 8, .int .i64 v, .int .i64 y0, .int .i64 y1, .int .i64 y2, .bool s]] w fun e w' => e = .returned (.bool true) ∧ Fr Nob w w' := by
  go_enter Try.func30, Try.ntmps30
  go_wp2_with fail
  obtain ⟨w1, hw1⟩ : ∃ w1, w1 = w.alloc (.cells #[.int .i64 8, .int .i64 v, .int .i64 y0, .int .i64 y1, .int .i64 y2, .bool s] 64) := ⟨_, rfl⟩
  rw [← hw1]
  obtain ⟨pb, hpb⟩ : ∃ pb, pb = w.heap.size := ⟨_, rfl⟩
  try rw [← hpb]
  have hf1 : Fr Nob w w1 := by rw [hw1]; exact (Fr.refl Nob w).alloc _
  have hp1 : w1.heap[pb]? = some (.cells #[.int .i64 8, .int .i64 v, .int .i64 y0, .int .i64 y1, .int .i64 y2, .bool s] 64 (0, 0)) := by rw [hw1, hpb]; exact heap_alloc_new _ _
  have Hp1 := Lib.hid hp1; have HF1 := Lib.hid hf1
  have hlt : pb < w1.heap.size := lt_of_block hp1
  clear hw1 hpb hf1 hp1
  refine (over_nil w1).mono ?_
  rintro e w2 ⟨rfl, hf2⟩
  have F2 := Lib.hid (HF1.out.trans0 hf2)
  
  clear hf2
  go_wp2_with fail
  refine (rover_nil w2).mono ?_
  rintro e w3 ⟨rfl, hf3⟩
  have F3 := Lib.hid (F2.out.trans0 hf3)
  clear hf3 
  go_wp2_with fail
  refine (alike_wakes w3 _ _ [] 0 rfl (rd_nil _ _) (rd_nil _ _)).mono ?_
  rintro e w4 ⟨rfl, hq4⟩
  have F4 := Lib.hid (F3.out.trans0 (Fr.ofDrew hq4))
  clear hq4
  go_wp2_with fail
  go_ret
  exact ⟨rfl, F4.out⟩
theorem doesn_4 (w : World) (v : Int) (y0 y1 y2 : Int) (s : Bool) :
    Calls Try.prog 30 #[.pointer none, .pointer none, .agg #[.int .i64 4, .int .i64 v, .int .i64 y0, .int .i64 y1, .int .i64 y2, .bool s]] w fun e w' => e = .returned (.bool true) ∧ Fr Nob w w' := by
  go_enter Try.func30, Try.ntmps30
  go_wp2_with fail
  obtain ⟨w1, hw1⟩ : ∃ w1, w1 = w.alloc (.cells #[.int .i64 4, .int .i64 v, .int .i64 y0, .int .i64 y1, .int .i64 y2, .bool s] 64) := ⟨_, rfl⟩
  rw [← hw1]
  obtain ⟨pb, hpb⟩ : ∃ pb, pb = w.heap.size := ⟨_, rfl⟩
  try rw [← hpb]
  have hf1 : Fr Nob w w1 := by rw [hw1]; exact (Fr.refl Nob w).alloc _
  have hp1 : w1.heap[pb]? = some (.cells #[.int .i64 4, .int .i64 v, .int .i64 y0, .int .i64 y1, .int .i64 y2, .bool s] 64 (0, 0)) := by rw [hw1, hpb]; exact heap_alloc_new _ _
  have Hp1 := Lib.hid hp1; have HF1 := Lib.hid hf1
  have hlt : pb < w1.heap.size := lt_of_block hp1
  clear hw1 hpb hf1 hp1
  have hkey : ∀ W : World, W.heap[pb]? = some (.cells #[.int .i64 4, .int .i64 v, .int .i64 y0, .int .i64 y1, .int .i64 y2, .bool s] 64 (0, 0)) → W.cell? ⟨pb, 1, none⟩ = some (.int .i64 v) ∧ W.cell? ⟨pb, 2, none⟩ = some (.int .i64 y0) ∧ W.cell? ⟨pb, 3, none⟩ = some (.int .i64 y1) ∧ W.cell? ⟨pb, 4, none⟩ = some (.int .i64 y2) ∧ W.cell? ⟨pb, 5, none⟩ = some (.bool s) := fun W h => ⟨blk_cell h 1 rfl, blk_cell h 2 rfl, blk_cell h 3 rfl, blk_cell h 4 rfl, blk_cell h 5 rfl⟩
  have Key := Lib.hid hkey
  have hb1 := ((Fr.refl Nob w1).drew).blk id Hp1.out
  clear hkey
  go_region_held3 (fun W => W.cell? ⟨pb, 1, none⟩ = some (.int .i64 v) ∧ W.cell? ⟨pb, 2, none⟩ = some (.int .i64 y0) ∧ W.cell? ⟨pb, 3, none⟩ = some (.int .i64 y1) ∧ W.cell? ⟨pb, 4, none⟩ = some (.int .i64 y2) ∧ W.cell? ⟨pb, 5, none⟩ = some (.bool s))
    ((refine Key.out _ ?_; first | with_reducible exact hb3 | with_reducible exact hb2 | with_reducible exact hb1 | exact hb1 | exact Hp1.out))
    ((first
      | (go_at_call 14; refine (wait_nil w1.drew (y0, y1, y2) s).mono ?_; rintro e w2 ⟨rfl, hf2⟩; have hb2 := hf2.blk id hb1; have F2 := Lib.hid ((HF1.out.drew).trans0 hf2); clear hf2)
      | (go_at_call 56; refine (rwait_nil w2 s y0 y1 y2).mono ?_; rintro e w3 ⟨rfl, hf3⟩; have hb3 := hf3.blk id hb2; have F3 := Lib.hid (F2.out.trans0 hf3); clear hf3)))
  all_goals (
    clear hb1 hb2 hb3 Key
    go_wp2_with fail
    go_ret
    exact ⟨rfl, F3.out⟩)
theorem doesn_5 (w : World) (v : Int) (y0 y1 y2 : Int) (s : Bool) :
    Calls Try.prog 30 #[.pointer none, .pointer none, .agg #[.int .i64 5, .int .i64 v, .int .i64 y0, .int .i64 y1, .int .i64 y2, .bool s]] w fun e w' => e = .returned (.bool true) ∧ Fr Nob w w' := by
  go_enter Try.func30, Try.ntmps30
  go_wp2_with fail
  obtain ⟨w1, hw1⟩ : ∃ w1, w1 = w.alloc (.cells #[.int .i64 5, .int .i64 v, .int .i64 y0, .int .i64 y1, .int .i64 y2, .bool s] 64) := ⟨_, rfl⟩
  rw [← hw1]
  obtain ⟨pb, hpb⟩ : ∃ pb, pb = w.heap.size := ⟨_, rfl⟩
  try rw [← hpb]
  have hf1 : Fr Nob w w1 := by rw [hw1]; exact (Fr.refl Nob w).alloc _
  have hp1 : w1.heap[pb]? = some (.cells #[.int .i64 5, .int .i64 v, .int .i64 y0, .int .i64 y1, .int .i64 y2, .bool s] 64 (0, 0)) := by rw [hw1, hpb]; exact heap_alloc_new _ _
  have Hp1 := Lib.hid hp1; have HF1 := Lib.hid hf1
  have hlt : pb < w1.heap.size := lt_of_block hp1
  clear hw1 hpb hf1 hp1
  have hkey : ∀ W : World, W.heap[pb]? = some (.cells #[.int .i64 5, .int .i64 v, .int .i64 y0, .int .i64 y1, .int .i64 y2, .bool s] 64 (0, 0)) → W.cell? ⟨pb, 1, none⟩ = some (.int .i64 v) ∧ W.cell? ⟨pb, 2, none⟩ = some (.int .i64 y0) ∧ W.cell? ⟨pb, 3, none⟩ = some (.int .i64 y1) ∧ W.cell? ⟨pb, 4, none⟩ = some (.int .i64 y2) ∧ W.cell? ⟨pb, 5, none⟩ = some (.bool s) := fun W h => ⟨blk_cell h 1 rfl, blk_cell h 2 rfl, blk_cell h 3 rfl, blk_cell h 4 rfl, blk_cell h 5 rfl⟩
  have Key := Lib.hid hkey
  have hb1 := ((Fr.refl Nob w1).drew).blk id Hp1.out
  clear hkey
  go_region_held3 (fun W => W.cell? ⟨pb, 1, none⟩ = some (.int .i64 v) ∧ W.cell? ⟨pb, 2, none⟩ = some (.int .i64 y0) ∧ W.cell? ⟨pb, 3, none⟩ = some (.int .i64 y1) ∧ W.cell? ⟨pb, 4, none⟩ = some (.int .i64 y2) ∧ W.cell? ⟨pb, 5, none⟩ = some (.bool s))
    ((refine Key.out _ ?_; first | with_reducible exact hb3 | with_reducible exact hb2 | with_reducible exact hb1 | exact hb1 | exact Hp1.out))
    ((first
      | (go_at_call 19; refine (remove_nil w1.drew v).mono ?_; rintro e w2 ⟨rfl, hf2⟩; have hb2 := hf2.blk id hb1; have F2 := Lib.hid ((HF1.out.drew).trans0 hf2); clear hf2)
      | (go_at_call 57; refine (rremove_nil w2 v).mono ?_; rintro e w3 ⟨rfl, hf3⟩; have hb3 := hf3.blk id hb2; have F3 := Lib.hid (F2.out.trans0 hf3); clear hf3)))
  all_goals (
    clear hb1 hb2 hb3 Key
    go_wp2_with fail
    go_ret
    exact ⟨rfl, F3.out⟩)
theorem doesn_0 (w : World) (kd : Int) (n1 : (kd == 1) = false) (n2 : (kd == 2) = false) (n3 : (kd == 3) = false) (n4 : (kd == 4) = false) (n5 : (kd == 5) = false) (n6 : (kd == 6) = false) (n7 : (kd == 7) = false) (n8 : (kd == 8) = false) (v : Int) (y0 y1 y2 : Int) (s : Bool) :
    Calls Try.prog 30 #[.pointer none, .pointer none, .agg #[.int .i64 kd, .int .i64 v, .int .i64 y0, .int .i64 y1, .int .i64 y2, .bool s]] w fun e w' => e = .returned (.bool true) ∧ Fr Nob w w' := by
  go_enter Try.func30, Try.ntmps30
  go_wp2_with fail
  go_ret
  exact ⟨rfl, (Fr.refl Nob w).alloc _⟩
end Go.Proofs.Ytfpcnagimjmkpaa
