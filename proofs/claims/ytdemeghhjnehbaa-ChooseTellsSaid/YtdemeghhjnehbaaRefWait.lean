/- What Wait of the document's own channel does. -/
import Derived.Test.YtdemeghhjnehbaaRefCan
set_option linter.unusedVariables false
set_option linter.unusedSimpArgs false
namespace Go.Proofs.Ytdemeghhjnehbaa
open Go.RowKit
set_option maxRecDepth 100000
theorem old_of {wa W : World} {k0 : Nat} (hF : Fr (From wa.heap.size) wa W) (h0 : wa.heap.size ≤ k0) {n : Nat} : ∀ k, k < n → (k = k0 ∨ W.heap.size ≤ k) → From wa.heap.size k := fun k _ q => by
  have := hF.size; unfold From; omega
theorem new_of {wa W : World} (hF : Fr (From wa.heap.size) wa W) {n : Nat} : ∀ k, k < n → (From wa.heap.size k ∨ W.heap.size ≤ k) → From wa.heap.size k := fun k _ q => by
  have := hF.size; unfold From at q ⊢; omega
theorem at_of {wa : World} {k0 : Nat} (h0 : wa.heap.size ≤ k0) {n : Nat} : ∀ k, k < n → k = k0 → From wa.heap.size k := fun k _ q => by unfold From; omega
theorem lit_cells {W : World} {b : Nat} {x y z : Int} {T : TypeId} (h : W.heap[b]? = some (.cells #[.int .i64 x, .int .i64 y, .int .i64 z] T (0, 0))) : ∀ j u, ([.int .i64 x, .int .i64 y, .int .i64 z] : List Value)[j]? = some u → W.cell? ((⟨b, 0, none⟩ : Addr).add j) = some u := fun j u hj => by
  rw [Addr.add_lit]; exact blk_cell h _ (by rw [Nat.zero_add]; simpa using hj)
def WaitF (w : World) (S : Nat → Prop) (b : Nat) (c' : ChS) (r : Int) (e : Ending) (w' : World) : Prop := e = .returned (.int .i64 r) ∧ RfTo w S b c' w'
set_option maxHeartbeats 8000000 in
theorem wait_push_true {w : World} {S : Nat → Prop} {b : Nat} {c : ChS} (h : RefAt w S b c) (hfew : c.Few) (x : Wt) (ht : c.mute = false) (hk : c.closed = false) (hfr : c.free true = false) (ho : (c.rv.any fun y => y.1 != x.1) = false) :
    Calls Try.prog 51 #[.pointer (some ⟨b, 0, none⟩), wtVal x, .bool true] w (WaitF w S b { c with sd := c.sd ++ [x] } 0) := by
  obtain ⟨v1, v2, v3, h⟩ := h
  obtain ⟨m2, hm2⟩ : ∃ m, c.sd.length = m := ⟨_, rfl⟩
  obtain ⟨m3, hm3⟩ : ∃ m, c.rv.length = m := ⟨_, rfl⟩
  obtain ⟨n1, hn1⟩ : ∃ m, c.q.length = m := ⟨_, rfl⟩
  obtain ⟨sz, hsz⟩ : ∃ m, c.size = m := ⟨_, rfl⟩
  have hset := fun W (hW : Fr Nob w W) u hs W' => RfTo.set (w' := W') h hW (h.setSd hW (c.sd ++ [x]) (m2 + 1) (by simp [hm2]) u hs)
  obtain ⟨A1, c1, A2, c2, A3, c3, rfl, rfl, rfl, p0, p1, p2, p3, p4, p5, p6⟩ := h.cells
  have hR0 := h.sd.rd; have hRo := h.rv.rd
  have hb := h.blk
  have hbl := lt_of_block hb
  rw [hm2] at p5 hR0; rw [hm3] at p6 hRo; rw [hn1] at p4; rw [hsz] at p0
  rw [hm2, hm3] at hb
  have hm24 : (0 + m2) * 24 ≤ 140737488355328 ∧ (0 + m2 + 1) * 24 ≤ 140737488355328 := by have := hfew.2.1; omega
  have hoth := fun W (hW : Fr Nob w W) => ref_others W _ c.rv m3 hm3 x.1 (hRo.fr hW)
  rw [ho] at hoth
  unfold ChS.free at hfr
  rw [hk] at p3
  obtain ⟨y0, y1, y2⟩ := x
  have hmu : c.timed = false ∧ c.signal = false := by unfold ChS.mute at ht; simpa using ht
  rw [hmu.1] at p1; rw [hmu.2] at p2
  have h1 : ¬ (n1 : Int) < sz := by simp [hn1, hsz] at hfr; omega
  have hd1 : decide ((n1 : Int) < sz) = false := decide_eq_false h1
  have hd2 : decide (n1 < sz) = false := decide_eq_false (by omega)
  have Hset := Lib.hid hset; have Hm24 := Lib.hid hm24; have Hb := Lib.hid hb; have Hoth := Lib.hid hoth; have HR0 := Lib.hid hR0
  clear hset hm24 hb hoth h hfew ht hk hfr ho hm2 hm3 hsz hR0 hRo hmu hn1
  go_enter Try.func51, Try.ntmps51
  go_wp2_with fail
  obtain ⟨w1, hw1⟩ : ∃ w1, w1 = w.alloc (.cells #[.int .i64 y0, .int .i64 y1, .int .i64 y2] 63) := ⟨_, rfl⟩
  rw [← hw1]
  obtain ⟨pb, hpb⟩ : ∃ pb, pb = w.heap.size := ⟨_, rfl⟩
  rw [← hpb]
  have hf1 : Fr Nob w w1 := by rw [hw1]; exact (Fr.refl Nob w).alloc _
  have hp1 : w1.heap[pb]? = some (.cells #[.int .i64 y0, .int .i64 y1, .int .i64 y2] 63 (0, 0)) := by rw [hw1, hpb]; exact heap_alloc_new _ _
  have hbp : b < pb := by omega
  have q0 := hf1.cell id p0; have q4 := hf1.cell id p4; have q5 := hf1.cell id p5; have q6 := hf1.cell id p6
  have t0 := blk_cell hp1 0 rfl
  have Hf1 := Lib.hid hf1; have Hp1 := Lib.hid hp1
  have hpw1 := lt_of_block hp1
  clear hw1 hpb hf1 hp1 p0 p1 p2 p3 p4 p5 p6
  go_quiet ((go_at_call 78; exact Calls.quiet_of_same ((Hoth.out _ (Hf1.out.trans0 ((Fr.refl Nob w1).drewN _))).mono fun e w' h => ⟨h.1, h.2.symm⟩)))
  obtain ⟨w2, hw2⟩ : ∃ w2, w2 = w1.drewN nq := ⟨_, rfl⟩
  rw [← hw2]
  have hf12 := Fr.ofDrew ⟨nq, hw2⟩
  clear hw2 q0 q4 q5 q6 t0
  go_wp2_with fail
  go_quiet (fail)
  obtain ⟨wa, hwa⟩ : ∃ wa, wa = w2.drewN nq := ⟨_, rfl⟩
  rw [← hwa]
  have hf2a := Fr.ofDrew ⟨_, hwa⟩
  have Hfa := Lib.hid ((Hf1.out.trans0 hf12).trans0 hf2a)
  have hpa := hf2a.blk id (hf12.blk id Hp1.out)
  have hba := Hfa.out.blk id Hb.out
  clear hwa hf2a hf12 
  go_wp2_with fail
  have u5 := blk_cell hba 5 rfl
  have y0' := blk_cell hpa 0 rfl; have y1' := blk_cell hpa 1 rfl; have y2' := blk_cell hpa 2 rfl
  have hR := HR0.out.fr Hfa.out
  have hbl := lt_of_block hba; have hpl := lt_of_block hpa
  clear Hb
  have Hb := Lib.hid hba; have Hpb := Lib.hid hpa
  clear hba hpa Hp1 HR0 Hoth
  have hz1 : (wa.alloc (.cells #[.int .i64 y0, .int .i64 y1, .int .i64 y2] 63)).heap.size = wa.heap.size + 1 := by simp
  have hz1' : (wa.alloc (.cells #[] 63)).heap.size = wa.heap.size + 1 := by simp
  have h01 : Sl (wa.alloc (.cells #[] 63)) (fun k => k = wa.heap.size) 63 3 (.slice (some ⟨wa.heap.size, 0, none⟩) 0 0) 0 [] := Sl.lit wa 63 3 #[] 0 (fun k => k = wa.heap.size) rfl (by simp [maxLen]) rfl
  have h03 := Sl.lit (wa.alloc (.cells #[.int .i64 y0, .int .i64 y1, .int .i64 y2] 63)) 63 3 #[] 0 (fun k => k = wa.heap.size + 1) hz1 (by simp [maxLen]) rfl
  rw [hz1] at h03
  have H01 := Lib.hid h01.drew; have H02 := Lib.hid (h01.alloc (.cells #[.int .i64 y0, .int .i64 y1, .int .i64 y2] 63)).drew; have H03 := Lib.hid h03.drew
  have F1 := (((Fr.refl Nob wa).alloc (.cells #[] 63)).drew)
  have F2 := ((((Fr.refl Nob wa).alloc (.cells #[] 63))).alloc (.cells #[.int .i64 y0, .int .i64 y1, .int .i64 y2] 63)).drew
  have F3 := ((((Fr.refl Nob wa).alloc (.cells #[.int .i64 y0, .int .i64 y1, .int .i64 y2] 63))).alloc (.cells #[] 63)).drew
  have HR1 := Lib.hid (hR.fr F1); have HR2 := Lib.hid (hR.fr F2); have HR3 := Lib.hid (hR.fr F3)
  have hb2 : ((wa.alloc (.cells #[] 63)).alloc (.cells #[.int .i64 y0, .int .i64 y1, .int .i64 y2] 63)).drew.heap[wa.heap.size + 1]? = some (.cells #[.int .i64 y0, .int .i64 y1, .int .i64 y2] 63 (0, 0)) := blk_alloc_eq _ hz1'.symm
  have hb3 : ((wa.alloc (.cells #[.int .i64 y0, .int .i64 y1, .int .i64 y2] 63)).alloc (.cells #[] 63)).drew.heap[wa.heap.size]? = some (.cells #[.int .i64 y0, .int .i64 y1, .int .i64 y2] 63 (0, 0)) := ((Fr.refl Nob (wa.alloc (.cells #[.int .i64 y0, .int .i64 y1, .int .i64 y2] 63))).alloc _).drew.blk id (heap_alloc_new wa _)
  have HF1 := Lib.hid (F1.none (S := From wa.heap.size)); have HF2 := Lib.hid (F2.none (S := From wa.heap.size)); have HF3 := Lib.hid (F3.none (S := From wa.heap.size)); have HB2 := Lib.hid hb2; have HB3 := Lib.hid hb3
  have Hk1 := Lib.hid (Nat.le_refl wa.heap.size); have Hk3 := Lib.hid (Nat.le_succ wa.heap.size)
  have Hne2 := Lib.hid (Nat.succ_ne_self wa.heap.size); have Hne3 := Lib.hid (Nat.succ_ne_self wa.heap.size).symm
  clear hz1 hz1' h01 h03 F1 F2 F3 hb2 hb3 hR
  go_region_law ((first
    | (refine step_append_rd _ rfl _ _ _ rfl (fun k => k = wa.heap.size) 63 _ 3 24 Try.underlying47 info_wait rfl (by decide) (.slice (some ⟨wa.heap.size, 0, none⟩) 0 0) 0 [] rfl (by with_reducible exact H01.out) (.slice A2 m2 c2) m2 (waits c.sd) rfl (by with_reducible exact HR1.out) (waits_one c.sd) (by decide) Hm24.out.1 ?_; intro v4 w4 hs40 hf40; have hf4 := HF1.out.trans0 (hf40.mono (at_of Hk1.out)); have hs4 := hs40.mono (old_of HF1.out Hk1.out); have hx4 := Lib.hid (show True from trivial); have HF := Lib.hid hf4; have z0 := blk_cell (HF.out.blk (by unfold From; omega) Hpb.out) 0 rfl; have z1 := blk_cell (HF.out.blk (by unfold From; omega) Hpb.out) 1 rfl; have z2 := blk_cell (HF.out.blk (by unfold From; omega) Hpb.out) 2 rfl)
    | (refine step_append_rd _ rfl _ _ _ rfl (fun k => k = wa.heap.size) 63 _ 3 24 Try.underlying47 info_wait rfl (by decide) (.slice (some ⟨wa.heap.size, 0, none⟩) 0 0) 0 [] rfl (by with_reducible exact H02.out) (.slice A2 m2 c2) m2 (waits c.sd) rfl (by with_reducible exact HR2.out) (waits_one c.sd) (by decide) Hm24.out.1 ?_; intro v4 w4 hs40 hf40; have hf4 := HF2.out.trans0 (hf40.mono (at_of Hk1.out)); have hs4 := hs40.mono (old_of HF2.out Hk1.out); have hx4 := Lib.hid (hf40.blk Hne2.out HB2.out); have HF := Lib.hid hf4; have z0 := blk_cell (HF.out.blk (by unfold From; omega) Hpb.out) 0 rfl; have z1 := blk_cell (HF.out.blk (by unfold From; omega) Hpb.out) 1 rfl; have z2 := blk_cell (HF.out.blk (by unfold From; omega) Hpb.out) 2 rfl)
    | (refine step_append_rd _ rfl _ _ _ rfl (fun k => k = wa.heap.size + 1) 63 _ 3 24 Try.underlying47 info_wait rfl (by decide) (.slice (some ⟨wa.heap.size + 1, 0, none⟩) 0 0) 0 [] rfl (by with_reducible exact H03.out) (.slice A2 m2 c2) m2 (waits c.sd) rfl (by with_reducible exact HR3.out) (waits_one c.sd) (by decide) Hm24.out.1 ?_; intro v4 w4 hs40 hf40; have hf4 := HF3.out.trans0 (hf40.mono (at_of Hk3.out)); have hs4 := hs40.mono (old_of HF3.out Hk3.out); have hx4 := Lib.hid (hf40.blk Hne3.out HB3.out); have HF := Lib.hid hf4; have z0 := blk_cell (HF.out.blk (by unfold From; omega) Hpb.out) 0 rfl; have z1 := blk_cell (HF.out.blk (by unfold From; omega) Hpb.out) 1 rfl; have z2 := blk_cell (HF.out.blk (by unfold From; omega) Hpb.out) 2 rfl)
    | (refine step_append_sl _ rfl _ _ _ rfl (From wa.heap.size) 63 _ 3 24 Try.underlying47 info_wait rfl (by decide) v4 (0 + m2) ([] ++ waits c.sd) rfl (by with_reducible exact hs4.alloc _) ⟨w4.heap.size, 0, none⟩ 1 1 [.int .i64 y0, .int .i64 y1, .int .i64 y2] rfl rfl (lit_cells (heap_alloc_new w4 _)) rfl Hm24.out.2 (by decide) ?_; intro v5 w5 hs50 hf50; have hf5 := (hf4.alloc (.cells #[.int .i64 y0, .int .i64 y1, .int .i64 y2] 63)).trans0 hf50; have hs5 := hs50.mono (new_of (hf4.alloc (.cells #[.int .i64 y0, .int .i64 y1, .int .i64 y2] 63))); obtain ⟨A6, c6, rfl⟩ := hs5.slice; have d5 := blk_cell (hf5.blk (by unfold From; omega) Hb.out) 5 rfl; have g5 := blk_froz (hf5.blk (by unfold From; omega) Hb.out) 5)
    | (refine step_append_sl _ rfl _ _ _ rfl (From wa.heap.size) 63 _ 3 24 Try.underlying47 info_wait rfl (by decide) v4 (0 + m2) ([] ++ waits c.sd) rfl (by with_reducible exact hs4) ⟨wa.heap.size + 1, 0, none⟩ 1 1 [.int .i64 y0, .int .i64 y1, .int .i64 y2] rfl rfl (lit_cells hx4.out) rfl Hm24.out.2 (by decide) ?_; intro v5 w5 hs50 hf50; have hf5 := (hf4).trans0 hf50; have hs5 := hs50.mono (new_of (hf4)); obtain ⟨A6, c6, rfl⟩ := hs5.slice; have d5 := blk_cell (hf5.blk (by unfold From; omega) Hb.out) 5 rfl; have g5 := blk_froz (hf5.blk (by unfold From; omega) Hb.out) 5)
    | (refine step_append_sl _ rfl _ _ _ rfl (From wa.heap.size) 63 _ 3 24 Try.underlying47 info_wait rfl (by decide) v4 (0 + m2) ([] ++ waits c.sd) rfl (by with_reducible exact hs4) ⟨wa.heap.size, 0, none⟩ 1 1 [.int .i64 y0, .int .i64 y1, .int .i64 y2] rfl rfl (lit_cells hx4.out) rfl Hm24.out.2 (by decide) ?_; intro v5 w5 hs50 hf50; have hf5 := (hf4).trans0 hf50; have hs5 := hs50.mono (new_of (hf4)); obtain ⟨A6, c6, rfl⟩ := hs5.slice; have d5 := blk_cell (hf5.blk (by unfold From; omega) Hb.out) 5 rfl; have g5 := blk_froz (hf5.blk (by unfold From; omega) Hb.out) 5)))
  all_goals (
    have hzz := Hfa.out.size
    have key := Hset.out w5 (Hfa.out.trans hf5 fun k hk q => by unfold From at q; omega) (.slice A6 (m2 + 1) c6) (by have := hs5.mono (S' := From w.heap.size) (fun k hk q => by unfold From at q ⊢; omega); simpa [waits] using this) _ (Fr.refl Nob _)
    clear hzz Hset Hfa
    go_wp2_with fail
    go_ret
    exact ⟨rfl, key⟩)
set_option maxHeartbeats 8000000 in
theorem wait_push_false {w : World} {S : Nat → Prop} {b : Nat} {c : ChS} (h : RefAt w S b c) (hfew : c.Few) (x : Wt) (ht : True) (hk : c.closed = false) (hfr : c.free false = false) (ho : (c.sd.any fun y => y.1 != x.1) = false) :
    Calls Try.prog 51 #[.pointer (some ⟨b, 0, none⟩), wtVal x, .bool false] w (WaitF w S b { c with rv := c.rv ++ [x] } 0) := by
  obtain ⟨v1, v2, v3, h⟩ := h
  obtain ⟨m3, hm3⟩ : ∃ m, c.rv.length = m := ⟨_, rfl⟩
  obtain ⟨m2, hm2⟩ : ∃ m, c.sd.length = m := ⟨_, rfl⟩
  obtain ⟨n1, hn1⟩ : ∃ m, c.q.length = m := ⟨_, rfl⟩
  obtain ⟨sz, hsz⟩ : ∃ m, c.size = m := ⟨_, rfl⟩
  have hset := fun W (hW : Fr Nob w W) u hs W' => RfTo.set (w' := W') h hW (h.setRv hW (c.rv ++ [x]) (m3 + 1) (by simp [hm3]) u hs)
  obtain ⟨A1, c1, A2, c2, A3, c3, rfl, rfl, rfl, p0, p1, p2, p3, p4, p5, p6⟩ := h.cells
  have hR0 := h.rv.rd; have hRo := h.sd.rd
  have hb := h.blk
  have hbl := lt_of_block hb
  rw [hm3] at p6 hR0; rw [hm2] at p5 hRo; rw [hn1] at p4; rw [hsz] at p0
  rw [hm3, hm2] at hb
  have hm24 : (0 + m3) * 24 ≤ 140737488355328 ∧ (0 + m3 + 1) * 24 ≤ 140737488355328 := by have := hfew.1; omega
  have hoth := fun W (hW : Fr Nob w W) => ref_others W _ c.sd m2 hm2 x.1 (hRo.fr hW)
  rw [ho] at hoth
  unfold ChS.free at hfr
  rw [hk] at p3
  obtain ⟨y0, y1, y2⟩ := x
  have h1 : n1 = 0 := by simp [hn1] at hfr; omega
  subst h1
  have h1 : ¬ (0 : Int) < ((0 : Nat) : Int) := by omega
  have Hset := Lib.hid hset; have Hm24 := Lib.hid hm24; have Hb := Lib.hid hb; have Hoth := Lib.hid hoth; have HR0 := Lib.hid hR0
  clear hset hm24 hb hoth h hfew ht hk hfr ho hm3 hm2 hsz hR0 hRo  hn1
  go_enter Try.func51, Try.ntmps51
  go_wp2_with fail
  obtain ⟨w1, hw1⟩ : ∃ w1, w1 = w.alloc (.cells #[.int .i64 y0, .int .i64 y1, .int .i64 y2] 63) := ⟨_, rfl⟩
  rw [← hw1]
  obtain ⟨pb, hpb⟩ : ∃ pb, pb = w.heap.size := ⟨_, rfl⟩
  rw [← hpb]
  have hf1 : Fr Nob w w1 := by rw [hw1]; exact (Fr.refl Nob w).alloc _
  have hp1 : w1.heap[pb]? = some (.cells #[.int .i64 y0, .int .i64 y1, .int .i64 y2] 63 (0, 0)) := by rw [hw1, hpb]; exact heap_alloc_new _ _
  have hbp : b < pb := by omega
  have q0 := hf1.cell id p0; have q4 := hf1.cell id p4; have q5 := hf1.cell id p5; have q6 := hf1.cell id p6
  have t0 := blk_cell hp1 0 rfl
  have Hf1 := Lib.hid hf1; have Hp1 := Lib.hid hp1
  have hpw1 := lt_of_block hp1
  clear hw1 hpb hf1 hp1 p0 p1 p2 p3 p4 p5 p6
  go_quiet (fail)
  obtain ⟨w2, hw2⟩ : ∃ w2, w2 = w1.drewN nq := ⟨_, rfl⟩
  rw [← hw2]
  have hf12 := Fr.ofDrew ⟨nq, hw2⟩
  have r4 := hf12.cell id q4; have r5 := hf12.cell id q5; have r0 := hf12.cell id t0
  clear hw2 q0 q4 q5 q6 t0
  go_wp2_with fail
  go_quiet ((go_at_call 78; exact Calls.quiet_of_same ((Hoth.out _ ((Hf1.out.trans0 hf12).trans0 ((Fr.refl Nob w2).drewN _))).mono fun e w' h => ⟨h.1, h.2.symm⟩)))
  obtain ⟨wa, hwa⟩ : ∃ wa, wa = w2.drewN nq := ⟨_, rfl⟩
  rw [← hwa]
  have hf2a := Fr.ofDrew ⟨_, hwa⟩
  have Hfa := Lib.hid ((Hf1.out.trans0 hf12).trans0 hf2a)
  have hpa := hf2a.blk id (hf12.blk id Hp1.out)
  have hba := Hfa.out.blk id Hb.out
  clear hwa hf2a hf12 r4 r5 r0
  go_wp2_with fail
  have u6 := blk_cell hba 6 rfl
  have y0' := blk_cell hpa 0 rfl; have y1' := blk_cell hpa 1 rfl; have y2' := blk_cell hpa 2 rfl
  have hR := HR0.out.fr Hfa.out
  have hbl := lt_of_block hba; have hpl := lt_of_block hpa
  clear Hb
  have Hb := Lib.hid hba; have Hpb := Lib.hid hpa
  clear hba hpa Hp1 HR0 Hoth
  have hz1 : (wa.alloc (.cells #[.int .i64 y0, .int .i64 y1, .int .i64 y2] 63)).heap.size = wa.heap.size + 1 := by simp
  have hz1' : (wa.alloc (.cells #[] 63)).heap.size = wa.heap.size + 1 := by simp
  have h01 : Sl (wa.alloc (.cells #[] 63)) (fun k => k = wa.heap.size) 63 3 (.slice (some ⟨wa.heap.size, 0, none⟩) 0 0) 0 [] := Sl.lit wa 63 3 #[] 0 (fun k => k = wa.heap.size) rfl (by simp [maxLen]) rfl
  have h03 := Sl.lit (wa.alloc (.cells #[.int .i64 y0, .int .i64 y1, .int .i64 y2] 63)) 63 3 #[] 0 (fun k => k = wa.heap.size + 1) hz1 (by simp [maxLen]) rfl
  rw [hz1] at h03
  have H01 := Lib.hid h01.drew; have H02 := Lib.hid (h01.alloc (.cells #[.int .i64 y0, .int .i64 y1, .int .i64 y2] 63)).drew; have H03 := Lib.hid h03.drew
  have F1 := (((Fr.refl Nob wa).alloc (.cells #[] 63)).drew)
  have F2 := ((((Fr.refl Nob wa).alloc (.cells #[] 63))).alloc (.cells #[.int .i64 y0, .int .i64 y1, .int .i64 y2] 63)).drew
  have F3 := ((((Fr.refl Nob wa).alloc (.cells #[.int .i64 y0, .int .i64 y1, .int .i64 y2] 63))).alloc (.cells #[] 63)).drew
  have HR1 := Lib.hid (hR.fr F1); have HR2 := Lib.hid (hR.fr F2); have HR3 := Lib.hid (hR.fr F3)
  have hb2 : ((wa.alloc (.cells #[] 63)).alloc (.cells #[.int .i64 y0, .int .i64 y1, .int .i64 y2] 63)).drew.heap[wa.heap.size + 1]? = some (.cells #[.int .i64 y0, .int .i64 y1, .int .i64 y2] 63 (0, 0)) := blk_alloc_eq _ hz1'.symm
  have hb3 : ((wa.alloc (.cells #[.int .i64 y0, .int .i64 y1, .int .i64 y2] 63)).alloc (.cells #[] 63)).drew.heap[wa.heap.size]? = some (.cells #[.int .i64 y0, .int .i64 y1, .int .i64 y2] 63 (0, 0)) := ((Fr.refl Nob (wa.alloc (.cells #[.int .i64 y0, .int .i64 y1, .int .i64 y2] 63))).alloc _).drew.blk id (heap_alloc_new wa _)
  have HF1 := Lib.hid (F1.none (S := From wa.heap.size)); have HF2 := Lib.hid (F2.none (S := From wa.heap.size)); have HF3 := Lib.hid (F3.none (S := From wa.heap.size)); have HB2 := Lib.hid hb2; have HB3 := Lib.hid hb3
  have Hk1 := Lib.hid (Nat.le_refl wa.heap.size); have Hk3 := Lib.hid (Nat.le_succ wa.heap.size)
  have Hne2 := Lib.hid (Nat.succ_ne_self wa.heap.size); have Hne3 := Lib.hid (Nat.succ_ne_self wa.heap.size).symm
  clear hz1 hz1' h01 h03 F1 F2 F3 hb2 hb3 hR
  go_region_law ((first
    | (refine step_append_rd _ rfl _ _ _ rfl (fun k => k = wa.heap.size) 63 _ 3 24 Try.underlying47 info_wait rfl (by decide) (.slice (some ⟨wa.heap.size, 0, none⟩) 0 0) 0 [] rfl (by with_reducible exact H01.out) (.slice A3 m3 c3) m3 (waits c.rv) rfl (by with_reducible exact HR1.out) (waits_one c.rv) (by decide) Hm24.out.1 ?_; intro v4 w4 hs40 hf40; have hf4 := HF1.out.trans0 (hf40.mono (at_of Hk1.out)); have hs4 := hs40.mono (old_of HF1.out Hk1.out); have hx4 := Lib.hid (show True from trivial); have HF := Lib.hid hf4; have z0 := blk_cell (HF.out.blk (by unfold From; omega) Hpb.out) 0 rfl; have z1 := blk_cell (HF.out.blk (by unfold From; omega) Hpb.out) 1 rfl; have z2 := blk_cell (HF.out.blk (by unfold From; omega) Hpb.out) 2 rfl)
    | (refine step_append_rd _ rfl _ _ _ rfl (fun k => k = wa.heap.size) 63 _ 3 24 Try.underlying47 info_wait rfl (by decide) (.slice (some ⟨wa.heap.size, 0, none⟩) 0 0) 0 [] rfl (by with_reducible exact H02.out) (.slice A3 m3 c3) m3 (waits c.rv) rfl (by with_reducible exact HR2.out) (waits_one c.rv) (by decide) Hm24.out.1 ?_; intro v4 w4 hs40 hf40; have hf4 := HF2.out.trans0 (hf40.mono (at_of Hk1.out)); have hs4 := hs40.mono (old_of HF2.out Hk1.out); have hx4 := Lib.hid (hf40.blk Hne2.out HB2.out); have HF := Lib.hid hf4; have z0 := blk_cell (HF.out.blk (by unfold From; omega) Hpb.out) 0 rfl; have z1 := blk_cell (HF.out.blk (by unfold From; omega) Hpb.out) 1 rfl; have z2 := blk_cell (HF.out.blk (by unfold From; omega) Hpb.out) 2 rfl)
    | (refine step_append_rd _ rfl _ _ _ rfl (fun k => k = wa.heap.size + 1) 63 _ 3 24 Try.underlying47 info_wait rfl (by decide) (.slice (some ⟨wa.heap.size + 1, 0, none⟩) 0 0) 0 [] rfl (by with_reducible exact H03.out) (.slice A3 m3 c3) m3 (waits c.rv) rfl (by with_reducible exact HR3.out) (waits_one c.rv) (by decide) Hm24.out.1 ?_; intro v4 w4 hs40 hf40; have hf4 := HF3.out.trans0 (hf40.mono (at_of Hk3.out)); have hs4 := hs40.mono (old_of HF3.out Hk3.out); have hx4 := Lib.hid (hf40.blk Hne3.out HB3.out); have HF := Lib.hid hf4; have z0 := blk_cell (HF.out.blk (by unfold From; omega) Hpb.out) 0 rfl; have z1 := blk_cell (HF.out.blk (by unfold From; omega) Hpb.out) 1 rfl; have z2 := blk_cell (HF.out.blk (by unfold From; omega) Hpb.out) 2 rfl)
    | (refine step_append_sl _ rfl _ _ _ rfl (From wa.heap.size) 63 _ 3 24 Try.underlying47 info_wait rfl (by decide) v4 (0 + m3) ([] ++ waits c.rv) rfl (by with_reducible exact hs4.alloc _) ⟨w4.heap.size, 0, none⟩ 1 1 [.int .i64 y0, .int .i64 y1, .int .i64 y2] rfl rfl (lit_cells (heap_alloc_new w4 _)) rfl Hm24.out.2 (by decide) ?_; intro v5 w5 hs50 hf50; have hf5 := (hf4.alloc (.cells #[.int .i64 y0, .int .i64 y1, .int .i64 y2] 63)).trans0 hf50; have hs5 := hs50.mono (new_of (hf4.alloc (.cells #[.int .i64 y0, .int .i64 y1, .int .i64 y2] 63))); obtain ⟨A6, c6, rfl⟩ := hs5.slice; have d5 := blk_cell (hf5.blk (by unfold From; omega) Hb.out) 6 rfl; have g5 := blk_froz (hf5.blk (by unfold From; omega) Hb.out) 6)
    | (refine step_append_sl _ rfl _ _ _ rfl (From wa.heap.size) 63 _ 3 24 Try.underlying47 info_wait rfl (by decide) v4 (0 + m3) ([] ++ waits c.rv) rfl (by with_reducible exact hs4) ⟨wa.heap.size + 1, 0, none⟩ 1 1 [.int .i64 y0, .int .i64 y1, .int .i64 y2] rfl rfl (lit_cells hx4.out) rfl Hm24.out.2 (by decide) ?_; intro v5 w5 hs50 hf50; have hf5 := (hf4).trans0 hf50; have hs5 := hs50.mono (new_of (hf4)); obtain ⟨A6, c6, rfl⟩ := hs5.slice; have d5 := blk_cell (hf5.blk (by unfold From; omega) Hb.out) 6 rfl; have g5 := blk_froz (hf5.blk (by unfold From; omega) Hb.out) 6)
    | (refine step_append_sl _ rfl _ _ _ rfl (From wa.heap.size) 63 _ 3 24 Try.underlying47 info_wait rfl (by decide) v4 (0 + m3) ([] ++ waits c.rv) rfl (by with_reducible exact hs4) ⟨wa.heap.size, 0, none⟩ 1 1 [.int .i64 y0, .int .i64 y1, .int .i64 y2] rfl rfl (lit_cells hx4.out) rfl Hm24.out.2 (by decide) ?_; intro v5 w5 hs50 hf50; have hf5 := (hf4).trans0 hf50; have hs5 := hs50.mono (new_of (hf4)); obtain ⟨A6, c6, rfl⟩ := hs5.slice; have d5 := blk_cell (hf5.blk (by unfold From; omega) Hb.out) 6 rfl; have g5 := blk_froz (hf5.blk (by unfold From; omega) Hb.out) 6)))
  all_goals (
    have hzz := Hfa.out.size
    have key := Hset.out w5 (Hfa.out.trans hf5 fun k hk q => by unfold From at q; omega) (.slice A6 (m3 + 1) c6) (by have := hs5.mono (S' := From w.heap.size) (fun k hk q => by unfold From at q ⊢; omega); simpa [waits] using this) _ (Fr.refl Nob _)
    clear hzz Hset Hfa
    go_wp2_with fail
    go_ret
    exact ⟨rfl, key⟩)
end Go.Proofs.Ytdemeghhjnehbaa
