/- Who waits on a channel, from outside; what two laws need. -/
import Derived.Test.YtcffplgimbbflaaGreatSlQ10
set_option linter.unusedVariables false
set_option linter.unusedSimpArgs false
namespace Go.Proofs.YtcffplgimbbflaaGreat
open Go.RowKit
set_option maxRecDepth 100000
def DueP (w : World) (S : Nat → Prop) (b : Nat) (x : Hi) (now : Int) (hp : List Hi) (seq : Nat) (per : Int → Option Int) (nm : Nat) (e : Ending) (w' : World) : Prop := ∃ S' : Nat → Prop, e = .returned (.tuple #[dueV x now, .bool true]) ∧ Fr S w w' ∧ ExpAt w' S' b hp seq per nm ∧ ∀ k, S' k → S k ∨ w.heap.size ≤ k
section
variable {w : World} {S : Nat → Prop} {b : Nat} {hp : List Hi} {seq : Nat} {per : Int → Option Int} {nm : Nat} (h : ExpAt w S b hp seq per nm) (x : Hi) (r : List Hi) (hx : hp = x :: r) (now : Int) (hn : x.2.1 ≤ now) (hn2 : now ≤ maxT) (hnm : nm < 700000) (p : Int) (hp' : (per x.1).getD 0 = p)
include h hx hn hn2 hnm hp'
set_option maxHeartbeats 2000000 in
theorem exp_take_once (hc : p < 1) : Calls Tryz.prog 71 #[.pointer (some ⟨b, 0, none⟩), .int .i64 now] w (DueP w S b x now (heapDel hp x.1) seq (delP per x.1) (nm + 3)) := by
  have _ := hn2
  obtain ⟨hb, pb, SH, h⟩ := h
  have hxb := h.whenB x (by rw [hx]; simp)
  have hn0 : ¬ now < 0 := by omega
  have hgt : ¬ now < x.2.1 := by omega
  have hid : 0 ≤ x.1 ∧ x.1 < 1000 := by obtain ⟨mb, SL, v, n, f, hq, _, hids, _⟩ := h.heap; exact hids x (by rw [hx]; simp)
  have hkx : (Lit.int .i64 x.1).wf = true := wf_small (by omega) (by omega)
  have hpb : 0 ≤ p ∧ p ≤ maxT := by
    cases hq : per x.1 with
    | none => rw [hq] at hp'; unfold maxT; subst hp'; simp
    | some y => rw [hq] at hp'; simp at hp'; subst hp'; exact h.perB _ _ hq
  have hhead : heapDel hp x.1 = heapDel hp x.1 := rfl
  have Hnx := Lib.hid (fun W (hW : Fr Nob w W) => exp_next (w := W) (S := S) (b := b) ⟨hb, pb, SH, h.fr0 hW⟩ x r hx)
  have Hpop := Lib.hid (fun W (hW : Fr Nob w W) => heap_pop ((h.fr0 hW).heap) h.len x r hx (by omega))
  have H := Lib.hid h; have Hp' := Lib.hid hp'
  obtain ⟨c0, c1⟩ := h.ptr
  have C0 := Lib.hid c0
  clear h hp' hx hhead c0 c1 hxb
  go_enter Tryz.func71, Tryz.ntmps71
  go_wp2_with fail
  obtain ⟨w1, hw1⟩ : ∃ w1, w1 = w.alloc (.cells #[.int .i64 0, .int .i64 0, .int .i64 0] 175) := ⟨_, rfl⟩
  rw [← hw1]
  obtain ⟨rb, hrb⟩ : ∃ rb, rb = w.heap.size := ⟨_, rfl⟩
  rw [← hrb]
  have hfw1 : Fr Nob w w1 := by rw [hw1]; exact (Fr.refl Nob w).alloc _
  have hbw1 : w1.heap[rb]? = some (.cells #[.int .i64 0, .int .i64 0, .int .i64 0] 175 (0, 0)) := by rw [hw1, hrb]; exact heap_alloc_new _ _
  have Hfw1 := Lib.hid hfw1; have Hbw1 := Lib.hid hbw1; have Hzw1 : Hid (w.heap.size = rb ∧ rb < w1.heap.size) := ⟨hrb.symm, lt_of_block hbw1⟩
  clear hw1 hrb hfw1 hbw1
  refine (Hnx.out _ Hfw1.out).mono ?_
  rintro e w2 ⟨rfl, hf2⟩
  have Hf2 := Lib.hid (Hfw1.out.trans0 hf2); have Hb2 := Lib.hid (hf2.blk id Hbw1.out); have Hz2 := Lib.hid hf2.size
  have c0 := Hf2.out.cell id C0.out
  clear hf2
  go_wp2_with fail
  refine (Hpop.out _ Hf2.out).mono ?_
  rintro e w3 ⟨rfl, hf3, ha3⟩
  have hS : ∀ k, S k → k < w.heap.size := H.out.lt
  have hr3 := hf3.blk (k := rb) (fun q => by have := hS _ (H.out.subH _ q).1; have := Hzw1.out; omega) Hb2.out
  have h3 := (H.out.fr0 Hf2.out).toHeap hf3 ha3 (by omega) (Nat.le_trans (heapDel_len _ _) H.out.len) fun y hy => H.out.whenB y (heapDel_mem hy)
  have H3 := Lib.hid h3; have Hf3 := Lib.hid (Hf2.out.none.trans (hf3.mono fun k _ q => (H.out.subH k q).1) fun _ _ q => q); have Hr3 := Lib.hid hr3
  clear hf3 ha3 h3 hr3 c0
  go_wp2_with fail
  obtain ⟨w4, hw4⟩ : ∃ w4, w4 = w3.alloc (.cells #[.int .i64 x.1, .int .i64 x.2.1, .int .i64 x.2.2] 208) := ⟨_, rfl⟩
  rw [← hw4]
  obtain ⟨xb, hxb⟩ : ∃ xb, xb = w3.heap.size := ⟨_, rfl⟩
  rw [← hxb]
  have hfw4 : Fr Nob w3 w4 := by rw [hw4]; exact (Fr.refl Nob w3).alloc _
  have hbw4 : w4.heap[xb]? = some (.cells #[.int .i64 x.1, .int .i64 x.2.1, .int .i64 x.2.2] 208 (0, 0)) := by rw [hw4, hxb]; exact heap_alloc_new _ _
  have Hfw4 := Lib.hid hfw4; have Hbw4 := Lib.hid hbw4; have Hzw4 : Hid (w3.heap.size = xb ∧ xb < w4.heap.size) := ⟨hxb.symm, lt_of_block hbw4⟩
  clear hw4 hxb hfw4 hbw4
  have H4 := Lib.hid (H3.out.fr0 Hfw4.out); have Hf4 := Lib.hid (Hf3.out.trans0 Hfw4.out.none); have Hr4 := Lib.hid (Hfw4.out.blk id Hr3.out)
  have hxw : w.heap.size ≤ xb ∧ w.heap.size ≤ rb ∧ rb ≠ xb := by have := Hzw4.out; have := Hzw1.out; have := Hf3.out.size; have := lt_of_block Hr3.out; omega
  have Hxw := Lib.hid hxw
  clear hxw
  have hlk : ∀ q, (Go.Instr.lookup 113 (.map (some pb)) (.int .i64 x.1) false).run Tryz.prog (w4.drewN q) = .ok (.int .i64 p) (w4.drewN q) := fun q => by
    have := (H4.out.fr0 ((Fr.refl Nob w4).drewN q)).map.look x.1 hkx
    rwa [Hp'.out] at this
  obtain ⟨c0, c1⟩ := H4.out.ptr
  have x0 := blk_cell Hbw4.out 0 rfl
  go_quiet (fail)
  obtain ⟨w5, hw5⟩ : ∃ w5, w5 = w4.drewN nq := ⟨_, rfl⟩
  rw [← hw5]
  have hf45 : Fr Nob w4 w5 := by rw [hw5]; exact (Fr.refl Nob w4).drewN _
  have H5 := Lib.hid (H4.out.fr0 hf45); have Hf5 := Lib.hid (Hf4.out.trans0 hf45.none); have Hr5 := Lib.hid (hf45.blk id Hr4.out); have Hx5 := Lib.hid (hf45.blk id Hbw4.out)
  clear hw5 hf45 hlk c0 c1 x0
  go_wp2_with fail
  refine wp_region_held_drew (S := fun W => W.cell? ⟨b, 1, none⟩ = some (.map (some pb)) ∧ W.cell? ⟨xb, 0, none⟩ = some (.int .i64 x.1)) (by kernel_rfl) ⟨H5.out.ptr.2, blk_cell Hx5.out 0 rfl⟩ (fun hHeld => ?_)
  refine wpAnyH_take (i := 0) (v := ?_) rfl (by kernel_rfl) (by kernel_rfl) (by kernel_rfl) (fun _ _ _ h => h) (Or.inl ⟨by rfl, ?_⟩) (by assumption) ?_
  rotate_left
  · intro w hSw; (try dsimp only at hSw); go_simp; try with_reducible rfl
  try simp only [List.getElem_toArray, List.getElem_cons_zero, List.getElem_cons_succ, Act.put, List.setIfInBounds_toArray, List.set_cons_zero, List.set_cons_succ]
  refine wpAnyH_take (i := 1) (v := ?_) rfl (by kernel_rfl) (by kernel_rfl) (by kernel_rfl) (fun _ _ _ h => h) (Or.inl ⟨by rfl, ?_⟩) (by assumption) ?_
  rotate_left
  · intro w hSw; (try dsimp only at hSw); go_simp; try with_reducible rfl
  try simp only [List.getElem_toArray, List.getElem_cons_zero, List.getElem_cons_succ, Act.put, List.setIfInBounds_toArray, List.set_cons_zero, List.set_cons_succ]
  refine wpAnyH_take (i := 2) (v := ?_) rfl (by kernel_rfl) (by kernel_rfl) (by kernel_rfl) (fun _ _ _ h => h) (Or.inl ⟨by rfl, ?_⟩) (by assumption) ?_
  rotate_left
  · intro w hSw; (try dsimp only at hSw); go_simp; try with_reducible rfl
  try simp only [List.getElem_toArray, List.getElem_cons_zero, List.getElem_cons_succ, Act.put, List.setIfInBounds_toArray, List.set_cons_zero, List.set_cons_succ]
  refine wpAnyH_take (i := 3) (v := ?_) rfl (by kernel_rfl) (by kernel_rfl) (by kernel_rfl) (fun _ _ _ h => h) (Or.inl ⟨by rfl, ?_⟩) (by assumption) ?_
  rotate_left
  · intro w hSw; (try dsimp only at hSw); go_simp; try with_reducible rfl
  try simp only [List.getElem_toArray, List.getElem_cons_zero, List.getElem_cons_succ, Act.put, List.setIfInBounds_toArray, List.set_cons_zero, List.set_cons_succ]
  refine wpAnyH_take (i := 4) (v := ?_) rfl (by kernel_rfl) (by kernel_rfl) (by kernel_rfl) (fun _ _ _ h => h) (Or.inl ⟨by rfl, ?_⟩) (by assumption) ?_
  rotate_left
  · intro w hSw; (try dsimp only at hSw); go_simp; try with_reducible rfl
  try simp only [List.getElem_toArray, List.getElem_cons_zero, List.getElem_cons_succ, Act.put, List.setIfInBounds_toArray, List.set_cons_zero, List.set_cons_succ]
  refine wpAnyH_take (i := 5) (v := ?_) rfl (by kernel_rfl) (by kernel_rfl) (by kernel_rfl) (fun _ _ _ h => h) (Or.inl ⟨by rfl, ?_⟩) (by assumption) ?_
  rotate_left
  · intro w hSw; (try dsimp only at hSw); go_simp; try with_reducible rfl
  try simp only [List.getElem_toArray, List.getElem_cons_zero, List.getElem_cons_succ, Act.put, List.setIfInBounds_toArray, List.set_cons_zero, List.set_cons_succ]
  refine wpAnyH_ready (rs := [6]) (by kernel_rfl) (by simp) ?_
  refine AllReadyH.cons rfl (fun K hK => ?_) AllReadyH.nil
  refine map_del_op rfl (.tmp 48) (.tmp 50) rfl pb (nm + 3) per rfl (H5.out.map.drew) x.1 rfl hkx fun w6 hm6 hf6 => ?_
  have hf56 : Fr (fun k => k = pb) w5 w6 := ((Fr.refl _ w5).drew).trans0 hf6
  have hpS := hS _ H.out.ownP
  have hxp : xb ≠ pb ∧ rb ≠ pb := by have := Hxw.out; omega
  have h6 := H5.out.toMap hf56 hm6 (Nat.le_refl _) fun j y hy => by
    by_cases e : j = x.1
    · subst e; rw [fup_same] at hy; cases hy
    · rw [fup_ne _ _ e] at hy; exact H.out.perB j y hy
  have hx6 := hf56.blk hxp.1 Hx5.out
  have hr6 := hf56.blk hxp.2 Hr5.out
  refine hK.out _ _ ⟨h6.ptr.2, blk_cell hx6 0 rfl⟩ (fun hHeld2 => ?_)
  refine wpAnyH_done (by kernel_rfl) ?_ _
  try simp only [List.getElem_toArray, List.getElem_cons_zero, List.getElem_cons_succ, Act.put, List.setIfInBounds_toArray, List.set_cons_zero, List.set_cons_succ]
  have H6 := Lib.hid h6; have Hx6 := Lib.hid hx6; have Hr6 := Lib.hid hr6
  have Hf6 := Lib.hid (Hf5.out.trans hf56 fun j _ e => by rw [e]; exact H.out.ownP)
  clear hf6 hm6 hHeld hHeld2 hK K hx6 hr6 h6 hf56 hxp
  go_wp2_with fail
  refine (clock_next_no _ _ _ _ hc).mono ?_
  rintro e _ ⟨rfl, rfl⟩
  have x0 := blk_cell Hx6.out 0 rfl
  have v0 := blk_cell Hr6.out 0 rfl; have v1 := blk_cell Hr6.out 1 rfl; have v2 := blk_cell Hr6.out 2 rfl
  have z0 := blk_froz Hr6.out 0; have z1 := blk_froz Hr6.out 1; have z2 := blk_froz Hr6.out 2
  go_wp2_with fail
  have tb := three_blk Hr6.out (.int .i64 x.1) (.int .i64 x.2.1) (.int .i64 now)
  have y0 := blk_cell tb 0 rfl; have y1 := blk_cell tb 1 rfl; have y2 := blk_cell tb 2 rfl
  have hrb : ∀ k, S k → k ≠ rb := fun k q e => by have := hS k q; have := Hxw.out; omega
  refine bodyPost_ret (v := .tuple #[dueV x now, .bool true]) (by simp [results, Tryz.results71, go_sem, y0, y1, y2]) rfl ⟨S, rfl, Hf6.out.trans (three_fr _ rb _ _ _) fun j hj e => ?_, ⟨hb, pb, SH, H6.out.fr (three_fr _ rb _ _ _) hrb⟩, fun k q => .inl q⟩
  have := Hxw.out; omega
set_option maxHeartbeats 2000000 in
theorem exp_take_last (hc : 1 ≤ p) (hc2 : ¬ now < nextT x.2.1 p now) : Calls Tryz.prog 71 #[.pointer (some ⟨b, 0, none⟩), .int .i64 now] w (DueP w S b x now (heapDel hp x.1) seq (delP per x.1) (nm + 3)) := by
  have hx0 : 0 ≤ x.2.1 := by obtain ⟨_, _, _, h⟩ := h; exact (h.whenB x (by rw [hx]; simp)).1
  obtain ⟨hb, pb, SH, h⟩ := h
  have hxb := h.whenB x (by rw [hx]; simp)
  have hn0 : ¬ now < 0 := by omega
  have hgt : ¬ now < x.2.1 := by omega
  have hid : 0 ≤ x.1 ∧ x.1 < 1000 := by obtain ⟨mb, SL, v, n, f, hq, _, hids, _⟩ := h.heap; exact hids x (by rw [hx]; simp)
  have hkx : (Lit.int .i64 x.1).wf = true := wf_small (by omega) (by omega)
  have hpb : 0 ≤ p ∧ p ≤ maxT := by
    cases hq : per x.1 with
    | none => rw [hq] at hp'; unfold maxT; subst hp'; simp
    | some y => rw [hq] at hp'; simp at hp'; subst hp'; exact h.perB _ _ hq
  have hhead : heapDel hp x.1 = heapDel hp x.1 := rfl
  have Hnx := Lib.hid (fun W (hW : Fr Nob w W) => exp_next (w := W) (S := S) (b := b) ⟨hb, pb, SH, h.fr0 hW⟩ x r hx)
  have Hpop := Lib.hid (fun W (hW : Fr Nob w W) => heap_pop ((h.fr0 hW).heap) h.len x r hx (by omega))
  have H := Lib.hid h; have Hp' := Lib.hid hp'
  obtain ⟨c0, c1⟩ := h.ptr
  have C0 := Lib.hid c0
  clear h hp' hx hhead c0 c1 hxb
  go_enter Tryz.func71, Tryz.ntmps71
  go_wp2_with fail
  obtain ⟨w1, hw1⟩ : ∃ w1, w1 = w.alloc (.cells #[.int .i64 0, .int .i64 0, .int .i64 0] 175) := ⟨_, rfl⟩
  rw [← hw1]
  obtain ⟨rb, hrb⟩ : ∃ rb, rb = w.heap.size := ⟨_, rfl⟩
  rw [← hrb]
  have hfw1 : Fr Nob w w1 := by rw [hw1]; exact (Fr.refl Nob w).alloc _
  have hbw1 : w1.heap[rb]? = some (.cells #[.int .i64 0, .int .i64 0, .int .i64 0] 175 (0, 0)) := by rw [hw1, hrb]; exact heap_alloc_new _ _
  have Hfw1 := Lib.hid hfw1; have Hbw1 := Lib.hid hbw1; have Hzw1 : Hid (w.heap.size = rb ∧ rb < w1.heap.size) := ⟨hrb.symm, lt_of_block hbw1⟩
  clear hw1 hrb hfw1 hbw1
  refine (Hnx.out _ Hfw1.out).mono ?_
  rintro e w2 ⟨rfl, hf2⟩
  have Hf2 := Lib.hid (Hfw1.out.trans0 hf2); have Hb2 := Lib.hid (hf2.blk id Hbw1.out); have Hz2 := Lib.hid hf2.size
  have c0 := Hf2.out.cell id C0.out
  clear hf2
  go_wp2_with fail
  refine (Hpop.out _ Hf2.out).mono ?_
  rintro e w3 ⟨rfl, hf3, ha3⟩
  have hS : ∀ k, S k → k < w.heap.size := H.out.lt
  have hr3 := hf3.blk (k := rb) (fun q => by have := hS _ (H.out.subH _ q).1; have := Hzw1.out; omega) Hb2.out
  have h3 := (H.out.fr0 Hf2.out).toHeap hf3 ha3 (by omega) (Nat.le_trans (heapDel_len _ _) H.out.len) fun y hy => H.out.whenB y (heapDel_mem hy)
  have H3 := Lib.hid h3; have Hf3 := Lib.hid (Hf2.out.none.trans (hf3.mono fun k _ q => (H.out.subH k q).1) fun _ _ q => q); have Hr3 := Lib.hid hr3
  clear hf3 ha3 h3 hr3 c0
  go_wp2_with fail
  obtain ⟨w4, hw4⟩ : ∃ w4, w4 = w3.alloc (.cells #[.int .i64 x.1, .int .i64 x.2.1, .int .i64 x.2.2] 208) := ⟨_, rfl⟩
  rw [← hw4]
  obtain ⟨xb, hxb⟩ : ∃ xb, xb = w3.heap.size := ⟨_, rfl⟩
  rw [← hxb]
  have hfw4 : Fr Nob w3 w4 := by rw [hw4]; exact (Fr.refl Nob w3).alloc _
  have hbw4 : w4.heap[xb]? = some (.cells #[.int .i64 x.1, .int .i64 x.2.1, .int .i64 x.2.2] 208 (0, 0)) := by rw [hw4, hxb]; exact heap_alloc_new _ _
  have Hfw4 := Lib.hid hfw4; have Hbw4 := Lib.hid hbw4; have Hzw4 : Hid (w3.heap.size = xb ∧ xb < w4.heap.size) := ⟨hxb.symm, lt_of_block hbw4⟩
  clear hw4 hxb hfw4 hbw4
  have H4 := Lib.hid (H3.out.fr0 Hfw4.out); have Hf4 := Lib.hid (Hf3.out.trans0 Hfw4.out.none); have Hr4 := Lib.hid (Hfw4.out.blk id Hr3.out)
  have hxw : w.heap.size ≤ xb ∧ w.heap.size ≤ rb ∧ rb ≠ xb := by have := Hzw4.out; have := Hzw1.out; have := Hf3.out.size; have := lt_of_block Hr3.out; omega
  have Hxw := Lib.hid hxw
  clear hxw
  have hlk : ∀ q, (Go.Instr.lookup 113 (.map (some pb)) (.int .i64 x.1) false).run Tryz.prog (w4.drewN q) = .ok (.int .i64 p) (w4.drewN q) := fun q => by
    have := (H4.out.fr0 ((Fr.refl Nob w4).drewN q)).map.look x.1 hkx
    rwa [Hp'.out] at this
  obtain ⟨c0, c1⟩ := H4.out.ptr
  have x0 := blk_cell Hbw4.out 0 rfl
  go_quiet (fail)
  obtain ⟨w5, hw5⟩ : ∃ w5, w5 = w4.drewN nq := ⟨_, rfl⟩
  rw [← hw5]
  have hf45 : Fr Nob w4 w5 := by rw [hw5]; exact (Fr.refl Nob w4).drewN _
  have H5 := Lib.hid (H4.out.fr0 hf45); have Hf5 := Lib.hid (Hf4.out.trans0 hf45.none); have Hr5 := Lib.hid (hf45.blk id Hr4.out); have Hx5 := Lib.hid (hf45.blk id Hbw4.out)
  clear hw5 hf45 hlk c0 c1 x0
  go_wp2_with fail
  refine wp_region_held_drew (S := fun W => W.cell? ⟨b, 1, none⟩ = some (.map (some pb)) ∧ W.cell? ⟨xb, 0, none⟩ = some (.int .i64 x.1)) (by kernel_rfl) ⟨H5.out.ptr.2, blk_cell Hx5.out 0 rfl⟩ (fun hHeld => ?_)
  refine wpAnyH_take (i := 0) (v := ?_) rfl (by kernel_rfl) (by kernel_rfl) (by kernel_rfl) (fun _ _ _ h => h) (Or.inl ⟨by rfl, ?_⟩) (by assumption) ?_
  rotate_left
  · intro w hSw; (try dsimp only at hSw); go_simp; try with_reducible rfl
  try simp only [List.getElem_toArray, List.getElem_cons_zero, List.getElem_cons_succ, Act.put, List.setIfInBounds_toArray, List.set_cons_zero, List.set_cons_succ]
  refine wpAnyH_take (i := 1) (v := ?_) rfl (by kernel_rfl) (by kernel_rfl) (by kernel_rfl) (fun _ _ _ h => h) (Or.inl ⟨by rfl, ?_⟩) (by assumption) ?_
  rotate_left
  · intro w hSw; (try dsimp only at hSw); go_simp; try with_reducible rfl
  try simp only [List.getElem_toArray, List.getElem_cons_zero, List.getElem_cons_succ, Act.put, List.setIfInBounds_toArray, List.set_cons_zero, List.set_cons_succ]
  refine wpAnyH_take (i := 2) (v := ?_) rfl (by kernel_rfl) (by kernel_rfl) (by kernel_rfl) (fun _ _ _ h => h) (Or.inl ⟨by rfl, ?_⟩) (by assumption) ?_
  rotate_left
  · intro w hSw; (try dsimp only at hSw); go_simp; try with_reducible rfl
  try simp only [List.getElem_toArray, List.getElem_cons_zero, List.getElem_cons_succ, Act.put, List.setIfInBounds_toArray, List.set_cons_zero, List.set_cons_succ]
  refine wpAnyH_take (i := 3) (v := ?_) rfl (by kernel_rfl) (by kernel_rfl) (by kernel_rfl) (fun _ _ _ h => h) (Or.inl ⟨by rfl, ?_⟩) (by assumption) ?_
  rotate_left
  · intro w hSw; (try dsimp only at hSw); go_simp; try with_reducible rfl
  try simp only [List.getElem_toArray, List.getElem_cons_zero, List.getElem_cons_succ, Act.put, List.setIfInBounds_toArray, List.set_cons_zero, List.set_cons_succ]
  refine wpAnyH_take (i := 4) (v := ?_) rfl (by kernel_rfl) (by kernel_rfl) (by kernel_rfl) (fun _ _ _ h => h) (Or.inl ⟨by rfl, ?_⟩) (by assumption) ?_
  rotate_left
  · intro w hSw; (try dsimp only at hSw); go_simp; try with_reducible rfl
  try simp only [List.getElem_toArray, List.getElem_cons_zero, List.getElem_cons_succ, Act.put, List.setIfInBounds_toArray, List.set_cons_zero, List.set_cons_succ]
  refine wpAnyH_take (i := 5) (v := ?_) rfl (by kernel_rfl) (by kernel_rfl) (by kernel_rfl) (fun _ _ _ h => h) (Or.inl ⟨by rfl, ?_⟩) (by assumption) ?_
  rotate_left
  · intro w hSw; (try dsimp only at hSw); go_simp; try with_reducible rfl
  try simp only [List.getElem_toArray, List.getElem_cons_zero, List.getElem_cons_succ, Act.put, List.setIfInBounds_toArray, List.set_cons_zero, List.set_cons_succ]
  refine wpAnyH_ready (rs := [6]) (by kernel_rfl) (by simp) ?_
  refine AllReadyH.cons rfl (fun K hK => ?_) AllReadyH.nil
  refine map_del_op rfl (.tmp 48) (.tmp 50) rfl pb (nm + 3) per rfl (H5.out.map.drew) x.1 rfl hkx fun w6 hm6 hf6 => ?_
  have hf56 : Fr (fun k => k = pb) w5 w6 := ((Fr.refl _ w5).drew).trans0 hf6
  have hpS := hS _ H.out.ownP
  have hxp : xb ≠ pb ∧ rb ≠ pb := by have := Hxw.out; omega
  have h6 := H5.out.toMap hf56 hm6 (Nat.le_refl _) fun j y hy => by
    by_cases e : j = x.1
    · subst e; rw [fup_same] at hy; cases hy
    · rw [fup_ne _ _ e] at hy; exact H.out.perB j y hy
  have hx6 := hf56.blk hxp.1 Hx5.out
  have hr6 := hf56.blk hxp.2 Hr5.out
  refine hK.out _ _ ⟨h6.ptr.2, blk_cell hx6 0 rfl⟩ (fun hHeld2 => ?_)
  refine wpAnyH_done (by kernel_rfl) ?_ _
  try simp only [List.getElem_toArray, List.getElem_cons_zero, List.getElem_cons_succ, Act.put, List.setIfInBounds_toArray, List.set_cons_zero, List.set_cons_succ]
  have H6 := Lib.hid h6; have Hx6 := Lib.hid hx6; have Hr6 := Lib.hid hr6
  have Hf6 := Lib.hid (Hf5.out.trans hf56 fun j _ e => by rw [e]; exact H.out.ownP)
  clear hf6 hm6 hHeld hHeld2 hK K hx6 hr6 h6 hf56 hxp
  go_wp2_with fail
  refine (clock_next _ _ _ _ hc hpb.2 hx0 hn hn2).mono ?_
  rintro e _ ⟨rfl, rfl⟩
  generalize nextT x.2.1 p now = nx at *
  have x0 := blk_cell Hx6.out 0 rfl
  have v0 := blk_cell Hr6.out 0 rfl; have v1 := blk_cell Hr6.out 1 rfl; have v2 := blk_cell Hr6.out 2 rfl
  have z0 := blk_froz Hr6.out 0; have z1 := blk_froz Hr6.out 1; have z2 := blk_froz Hr6.out 2
  go_wp2_with fail
  have tb := three_blk Hr6.out (.int .i64 x.1) (.int .i64 x.2.1) (.int .i64 now)
  have y0 := blk_cell tb 0 rfl; have y1 := blk_cell tb 1 rfl; have y2 := blk_cell tb 2 rfl
  have hrb : ∀ k, S k → k ≠ rb := fun k q e => by have := hS k q; have := Hxw.out; omega
  refine bodyPost_ret (v := .tuple #[dueV x now, .bool true]) (by simp [results, Tryz.results71, go_sem, y0, y1, y2]) rfl ⟨S, rfl, Hf6.out.trans (three_fr _ rb _ _ _) fun j hj e => ?_, ⟨hb, pb, SH, H6.out.fr (three_fr _ rb _ _ _) hrb⟩, fun k q => .inl q⟩
  have := Hxw.out; omega
set_option maxHeartbeats 2000000 in
theorem exp_take_anew (hc : 1 ≤ p) (hc2 : now < nextT x.2.1 p now) {l' : List Hi} (hl' : heapAdd (heapDel (heapDel hp x.1) x.1) (x.1, nextT x.2.1 p now, ((seq + 1 : Nat) : Int)) = some l') : Calls Tryz.prog 71 #[.pointer (some ⟨b, 0, none⟩), .int .i64 now] w (DueP w S b x now l' (seq + 1) (putP (delP per x.1) x.1 p) (nm + 9)) := by
  have hx0 : 0 ≤ x.2.1 := by obtain ⟨_, _, _, h⟩ := h; exact (h.whenB x (by rw [hx]; simp)).1
  have hnx : nextT x.2.1 p now ≤ maxT := by unfold nextT addT maxT; omega
  obtain ⟨hb, pb, SH, h⟩ := h
  have hxb := h.whenB x (by rw [hx]; simp)
  have hn0 : ¬ now < 0 := by omega
  have hgt : ¬ now < x.2.1 := by omega
  have hid : 0 ≤ x.1 ∧ x.1 < 1000 := by obtain ⟨mb, SL, v, n, f, hq, _, hids, _⟩ := h.heap; exact hids x (by rw [hx]; simp)
  have hkx : (Lit.int .i64 x.1).wf = true := wf_small (by omega) (by omega)
  have hpb : 0 ≤ p ∧ p ≤ maxT := by
    cases hq : per x.1 with
    | none => rw [hq] at hp'; unfold maxT; subst hp'; simp
    | some y => rw [hq] at hp'; simp at hp'; subst hp'; exact h.perB _ _ hq
  have hhead : heapDel hp x.1 = heapDel hp x.1 := rfl
  have Hnx := Lib.hid (fun W (hW : Fr Nob w W) => exp_next (w := W) (S := S) (b := b) ⟨hb, pb, SH, h.fr0 hW⟩ x r hx)
  have Hpop := Lib.hid (fun W (hW : Fr Nob w W) => heap_pop ((h.fr0 hW).heap) h.len x r hx (by omega))
  have H := Lib.hid h; have Hp' := Lib.hid hp'
  obtain ⟨c0, c1⟩ := h.ptr
  have C0 := Lib.hid c0
  clear h hp' hx hhead c0 c1 hxb
  go_enter Tryz.func71, Tryz.ntmps71
  go_wp2_with fail
  obtain ⟨w1, hw1⟩ : ∃ w1, w1 = w.alloc (.cells #[.int .i64 0, .int .i64 0, .int .i64 0] 175) := ⟨_, rfl⟩
  rw [← hw1]
  obtain ⟨rb, hrb⟩ : ∃ rb, rb = w.heap.size := ⟨_, rfl⟩
  rw [← hrb]
  have hfw1 : Fr Nob w w1 := by rw [hw1]; exact (Fr.refl Nob w).alloc _
  have hbw1 : w1.heap[rb]? = some (.cells #[.int .i64 0, .int .i64 0, .int .i64 0] 175 (0, 0)) := by rw [hw1, hrb]; exact heap_alloc_new _ _
  have Hfw1 := Lib.hid hfw1; have Hbw1 := Lib.hid hbw1; have Hzw1 : Hid (w.heap.size = rb ∧ rb < w1.heap.size) := ⟨hrb.symm, lt_of_block hbw1⟩
  clear hw1 hrb hfw1 hbw1
  refine (Hnx.out _ Hfw1.out).mono ?_
  rintro e w2 ⟨rfl, hf2⟩
  have Hf2 := Lib.hid (Hfw1.out.trans0 hf2); have Hb2 := Lib.hid (hf2.blk id Hbw1.out); have Hz2 := Lib.hid hf2.size
  have c0 := Hf2.out.cell id C0.out
  clear hf2
  go_wp2_with fail
  refine (Hpop.out _ Hf2.out).mono ?_
  rintro e w3 ⟨rfl, hf3, ha3⟩
  have hS : ∀ k, S k → k < w.heap.size := H.out.lt
  have hr3 := hf3.blk (k := rb) (fun q => by have := hS _ (H.out.subH _ q).1; have := Hzw1.out; omega) Hb2.out
  have h3 := (H.out.fr0 Hf2.out).toHeap hf3 ha3 (by omega) (Nat.le_trans (heapDel_len _ _) H.out.len) fun y hy => H.out.whenB y (heapDel_mem hy)
  have H3 := Lib.hid h3; have Hf3 := Lib.hid (Hf2.out.none.trans (hf3.mono fun k _ q => (H.out.subH k q).1) fun _ _ q => q); have Hr3 := Lib.hid hr3
  clear hf3 ha3 h3 hr3 c0
  go_wp2_with fail
  obtain ⟨w4, hw4⟩ : ∃ w4, w4 = w3.alloc (.cells #[.int .i64 x.1, .int .i64 x.2.1, .int .i64 x.2.2] 208) := ⟨_, rfl⟩
  rw [← hw4]
  obtain ⟨xb, hxb⟩ : ∃ xb, xb = w3.heap.size := ⟨_, rfl⟩
  rw [← hxb]
  have hfw4 : Fr Nob w3 w4 := by rw [hw4]; exact (Fr.refl Nob w3).alloc _
  have hbw4 : w4.heap[xb]? = some (.cells #[.int .i64 x.1, .int .i64 x.2.1, .int .i64 x.2.2] 208 (0, 0)) := by rw [hw4, hxb]; exact heap_alloc_new _ _
  have Hfw4 := Lib.hid hfw4; have Hbw4 := Lib.hid hbw4; have Hzw4 : Hid (w3.heap.size = xb ∧ xb < w4.heap.size) := ⟨hxb.symm, lt_of_block hbw4⟩
  clear hw4 hxb hfw4 hbw4
  have H4 := Lib.hid (H3.out.fr0 Hfw4.out); have Hf4 := Lib.hid (Hf3.out.trans0 Hfw4.out.none); have Hr4 := Lib.hid (Hfw4.out.blk id Hr3.out)
  have hxw : w.heap.size ≤ xb ∧ w.heap.size ≤ rb ∧ rb ≠ xb := by have := Hzw4.out; have := Hzw1.out; have := Hf3.out.size; have := lt_of_block Hr3.out; omega
  have Hxw := Lib.hid hxw
  clear hxw
  have hlk : ∀ q, (Go.Instr.lookup 113 (.map (some pb)) (.int .i64 x.1) false).run Tryz.prog (w4.drewN q) = .ok (.int .i64 p) (w4.drewN q) := fun q => by
    have := (H4.out.fr0 ((Fr.refl Nob w4).drewN q)).map.look x.1 hkx
    rwa [Hp'.out] at this
  obtain ⟨c0, c1⟩ := H4.out.ptr
  have x0 := blk_cell Hbw4.out 0 rfl
  go_quiet (fail)
  obtain ⟨w5, hw5⟩ : ∃ w5, w5 = w4.drewN nq := ⟨_, rfl⟩
  rw [← hw5]
  have hf45 : Fr Nob w4 w5 := by rw [hw5]; exact (Fr.refl Nob w4).drewN _
  have H5 := Lib.hid (H4.out.fr0 hf45); have Hf5 := Lib.hid (Hf4.out.trans0 hf45.none); have Hr5 := Lib.hid (hf45.blk id Hr4.out); have Hx5 := Lib.hid (hf45.blk id Hbw4.out)
  clear hw5 hf45 hlk c0 c1 x0
  go_wp2_with fail
  refine wp_region_held_drew (S := fun W => W.cell? ⟨b, 1, none⟩ = some (.map (some pb)) ∧ W.cell? ⟨xb, 0, none⟩ = some (.int .i64 x.1)) (by kernel_rfl) ⟨H5.out.ptr.2, blk_cell Hx5.out 0 rfl⟩ (fun hHeld => ?_)
  refine wpAnyH_take (i := 0) (v := ?_) rfl (by kernel_rfl) (by kernel_rfl) (by kernel_rfl) (fun _ _ _ h => h) (Or.inl ⟨by rfl, ?_⟩) (by assumption) ?_
  rotate_left
  · intro w hSw; (try dsimp only at hSw); go_simp; try with_reducible rfl
  try simp only [List.getElem_toArray, List.getElem_cons_zero, List.getElem_cons_succ, Act.put, List.setIfInBounds_toArray, List.set_cons_zero, List.set_cons_succ]
  refine wpAnyH_take (i := 1) (v := ?_) rfl (by kernel_rfl) (by kernel_rfl) (by kernel_rfl) (fun _ _ _ h => h) (Or.inl ⟨by rfl, ?_⟩) (by assumption) ?_
  rotate_left
  · intro w hSw; (try dsimp only at hSw); go_simp; try with_reducible rfl
  try simp only [List.getElem_toArray, List.getElem_cons_zero, List.getElem_cons_succ, Act.put, List.setIfInBounds_toArray, List.set_cons_zero, List.set_cons_succ]
  refine wpAnyH_take (i := 2) (v := ?_) rfl (by kernel_rfl) (by kernel_rfl) (by kernel_rfl) (fun _ _ _ h => h) (Or.inl ⟨by rfl, ?_⟩) (by assumption) ?_
  rotate_left
  · intro w hSw; (try dsimp only at hSw); go_simp; try with_reducible rfl
  try simp only [List.getElem_toArray, List.getElem_cons_zero, List.getElem_cons_succ, Act.put, List.setIfInBounds_toArray, List.set_cons_zero, List.set_cons_succ]
  refine wpAnyH_take (i := 3) (v := ?_) rfl (by kernel_rfl) (by kernel_rfl) (by kernel_rfl) (fun _ _ _ h => h) (Or.inl ⟨by rfl, ?_⟩) (by assumption) ?_
  rotate_left
  · intro w hSw; (try dsimp only at hSw); go_simp; try with_reducible rfl
  try simp only [List.getElem_toArray, List.getElem_cons_zero, List.getElem_cons_succ, Act.put, List.setIfInBounds_toArray, List.set_cons_zero, List.set_cons_succ]
  refine wpAnyH_take (i := 4) (v := ?_) rfl (by kernel_rfl) (by kernel_rfl) (by kernel_rfl) (fun _ _ _ h => h) (Or.inl ⟨by rfl, ?_⟩) (by assumption) ?_
  rotate_left
  · intro w hSw; (try dsimp only at hSw); go_simp; try with_reducible rfl
  try simp only [List.getElem_toArray, List.getElem_cons_zero, List.getElem_cons_succ, Act.put, List.setIfInBounds_toArray, List.set_cons_zero, List.set_cons_succ]
  refine wpAnyH_take (i := 5) (v := ?_) rfl (by kernel_rfl) (by kernel_rfl) (by kernel_rfl) (fun _ _ _ h => h) (Or.inl ⟨by rfl, ?_⟩) (by assumption) ?_
  rotate_left
  · intro w hSw; (try dsimp only at hSw); go_simp; try with_reducible rfl
  try simp only [List.getElem_toArray, List.getElem_cons_zero, List.getElem_cons_succ, Act.put, List.setIfInBounds_toArray, List.set_cons_zero, List.set_cons_succ]
  refine wpAnyH_ready (rs := [6]) (by kernel_rfl) (by simp) ?_
  refine AllReadyH.cons rfl (fun K hK => ?_) AllReadyH.nil
  refine map_del_op rfl (.tmp 48) (.tmp 50) rfl pb (nm + 3) per rfl (H5.out.map.drew) x.1 rfl hkx fun w6 hm6 hf6 => ?_
  have hf56 : Fr (fun k => k = pb) w5 w6 := ((Fr.refl _ w5).drew).trans0 hf6
  have hpS := hS _ H.out.ownP
  have hxp : xb ≠ pb ∧ rb ≠ pb := by have := Hxw.out; omega
  have h6 := H5.out.toMap hf56 hm6 (Nat.le_refl _) fun j y hy => by
    by_cases e : j = x.1
    · subst e; rw [fup_same] at hy; cases hy
    · rw [fup_ne _ _ e] at hy; exact H.out.perB j y hy
  have hx6 := hf56.blk hxp.1 Hx5.out
  have hr6 := hf56.blk hxp.2 Hr5.out
  refine hK.out _ _ ⟨h6.ptr.2, blk_cell hx6 0 rfl⟩ (fun hHeld2 => ?_)
  refine wpAnyH_done (by kernel_rfl) ?_ _
  try simp only [List.getElem_toArray, List.getElem_cons_zero, List.getElem_cons_succ, Act.put, List.setIfInBounds_toArray, List.set_cons_zero, List.set_cons_succ]
  have H6 := Lib.hid h6; have Hx6 := Lib.hid hx6; have Hr6 := Lib.hid hr6
  have Hf6 := Lib.hid (Hf5.out.trans hf56 fun j _ e => by rw [e]; exact H.out.ownP)
  clear hf6 hm6 hHeld hHeld2 hK K hx6 hr6 h6 hf56 hxp
  go_wp2_with fail
  refine (clock_next _ _ _ _ hc hpb.2 hx0 hn hn2).mono ?_
  rintro e _ ⟨rfl, rfl⟩
  generalize nextT x.2.1 p now = nx at *
  have x0 := blk_cell Hx6.out 0 rfl
  have v0 := blk_cell Hr6.out 0 rfl; have v1 := blk_cell Hr6.out 1 rfl; have v2 := blk_cell Hr6.out 2 rfl
  have z0 := blk_froz Hr6.out 0; have z1 := blk_froz Hr6.out 1; have z2 := blk_froz Hr6.out 2
  go_wp2_with fail
  refine (exp_arm (w := _) (S := S) (b := b) ⟨hb, pb, SH, H6.out⟩ x.1 nx p hid.1 hid.2 (by omega) hnx hpb.1 hpb.2 (by omega) hl').mono ?_
  rintro e w7 ⟨S7, rfl, hf7, ha7, hs7⟩
  have hlS : ∀ k, w.heap.size ≤ k → ¬ S k := fun k hk q => by have := hS k q; omega
  have hx7 := hf7.blk (hlS _ Hxw.out.1) Hx6.out
  have hr7 := hf7.blk (hlS _ Hxw.out.2.1) Hr6.out
  have Hf7 := Lib.hid (Hf6.out.trans0 hf7); have Ha7 := Lib.hid ha7; have Hr7 := Lib.hid hr7; have Hs7 := Lib.hid (fun k (q : S7 k) => by have hq7 := hs7 k q; have := Hf6.out.size; have hl := lt_of_block Hr6.out; exact (show S k ∨ (w.heap.size ≤ k ∧ k ≠ rb) from hq7.imp id fun q => ⟨by omega, by omega⟩))
  clear x0 v0 v1 v2 z0 z1 z2
  have x0 := blk_cell hx7 0 rfl
  have v0 := blk_cell hr7 0 rfl; have v1 := blk_cell hr7 1 rfl; have v2 := blk_cell hr7 2 rfl
  have z0 := blk_froz hr7 0; have z1 := blk_froz hr7 1; have z2 := blk_froz hr7 2
  clear hf7 ha7 hs7 hx7 hr7
  go_wp2_with fail
  have tb := three_blk Hr7.out (.int .i64 x.1) (.int .i64 x.2.1) (.int .i64 now)
  have y0 := blk_cell tb 0 rfl; have y1 := blk_cell tb 1 rfl; have y2 := blk_cell tb 2 rfl
  have hrb : ∀ k, S7 k → k ≠ rb := fun k q e => by
    rcases Hs7.out k q with q | q
    · have := hS k q; have := Hxw.out; omega
    · omega
  refine bodyPost_ret (v := .tuple #[dueV x now, .bool true]) (by simp [results, Tryz.results71, go_sem, y0, y1, y2]) rfl ⟨S7, rfl, Hf7.out.trans (three_fr _ rb _ _ _) fun j hj e => ?_, Ha7.out.fr (three_fr _ rb _ _ _) hrb, fun k q => ?_⟩
  · have := Hxw.out; omega
  · rcases Hs7.out k q with q | q
    · exact .inl q
    · exact .inr q.1
omit hp' in
theorem exp_take_any {hp2 : List Hi} {seq2 : Nat} {per2 : Int → Option Int} (hr : takeR hp seq per x now = some (hp2, seq2, per2)) : Calls Tryz.prog 71 #[.pointer (some ⟨b, 0, none⟩), .int .i64 now] w (DueP w S b x now hp2 seq2 per2 (nm + 9)) := by
  unfold takeR at hr
  have up : ∀ {a b' : _} {c : _} {n1 : Nat} {e : Ending} {w' : World}, n1 ≤ nm + 9 → DueP w S b x now a b' c n1 e w' → DueP w S b x now a b' c (nm + 9) e w' := fun hn ⟨S', e1, e2, e3, e4⟩ => ⟨S', e1, e2, e3.mono hn, e4⟩
  split at hr
  · next hc =>
    split at hr
    · cases hr
    · next l' hl' =>
      cases hr
      exact exp_take_anew h x r hx now hn hn2 hnm _ rfl hc.1 hc.2 hl'
  · next hc =>
    cases hr
    by_cases h1 : (per x.1).getD 0 < 1
    · exact (exp_take_once h x r hx now hn hn2 hnm _ rfl h1).mono fun e w' q => up (by omega) q
    · exact (exp_take_last h x r hx now hn hn2 hnm _ rfl (by omega) fun q => hc ⟨by omega, q⟩).mono fun e w' q => up (by omega) q
end
/-- A timer as it lies: its kind, what it starts, its channel's block, how often it was armed. -/
abbrev Tr := Int × Int × Nat × Int
abbrev trEn (x : Tr) : List Value := [.int .i64 x.1, .int .i64 x.2.1, .pointer (some ⟨x.2.2.1, 0, none⟩), .int .i64 x.2.2.2]
abbrev trs (l : List Tr) : List Value := l.flatMap trEn
theorem trs_get (l : List Tr) (i j : Nat) (x : Tr) (h : l[i]? = some x) (hj : j < 4) : (trs l)[i * 4 + j]? = (trEn x)[j]? := rowsGet trEn (fun _ => rfl) l i j x h hj
theorem trs_set3 : ∀ (l : List Tr) (i : Nat) (x : Tr) (g : Int), l[i]? = some x → (trs l).set (i * 4 + 3) (.int .i64 g) = trs (l.set i (x.1, x.2.1, x.2.2.1, g))
  | [], i, x, g, h => by simp at h
  | y :: l, 0, x, g, h => by simp at h; subst h; simp [trs, trEn]
  | y :: l, i + 1, x, g, h => by
    have := trs_set3 l i x g (by simpa using h)
    simp only [trs, List.flatMap_cons, List.set_cons_succ] at this ⊢
    rw [← this]
    simp only [trEn, List.cons_append, List.nil_append, show (i + 1) * 4 + 3 = i * 4 + 3 + 1 + 1 + 1 + 1 by omega, List.set_cons_succ]
/-- Where timers lie. -/
structure TmP (w : World) (S : Nat → Prop) (b eb : Nat) (SL SE : Nat → Prop) (v : Value) (l : List Tr) (n : Nat) (named : Nat) (hp : List Hi) (seq : Nat) (per : Int → Option Int) (nm : Nat) : Prop where
  own : S b
  lt : ∀ k, S k → k < w.heap.size
  subL : ∀ k, SL k → S k ∧ k ≠ b
  subE : ∀ k, SE k → S k ∧ k ≠ b ∧ ¬ SL k
  blk : w.heap[b]? = some (.cells #[v, .pointer (some ⟨eb, 0, none⟩), .int .i64 (named : Int)] 107 (0, 0))
  len : l.length = n
  sl : Sl w SL 179 4 v n (trs l)
  exp : ExpAt w SE eb hp seq per nm
def TmAt (w : World) (S : Nat → Prop) (b : Nat) (l : List Tr) (named : Nat) (hp : List Hi) (seq : Nat) (per : Int → Option Int) (nm : Nat) : Prop := ∃ (eb : Nat) (SL SE : Nat → Prop) (v : Value) (n : Nat), TmP w S b eb SL SE v l n named hp seq per nm
section
variable {w w' : World} {S : Nat → Prop} {b eb : Nat} {SL SE : Nat → Prop} {v : Value} {l : List Tr} {n named : Nat} {hp : List Hi} {seq : Nat} {per : Int → Option Int} {nm : Nat}
theorem TmP.fr (h : TmP w S b eb SL SE v l n named hp seq per nm) {F : Nat → Prop} (hf : Fr F w w') (hd : ∀ k, S k → F k → False) : TmP w' S b eb SL SE v l n named hp seq per nm :=
  ⟨h.own, fun k q => by have := h.lt k q; have := hf.size; omega, h.subL, h.subE, hf.blk (hd _ h.own) h.blk, h.len, h.sl.fr hf fun k q => hd k (h.subL k q).1, h.exp.fr hf fun k q => hd k (h.subE k q).1⟩
theorem TmP.fr0 (h : TmP w S b eb SL SE v l n named hp seq per nm) (hf : Fr Nob w w') : TmP w' S b eb SL SE v l n named hp seq per nm := h.fr hf fun _ _ q => q
theorem TmAt.fr (h : TmAt w S b l named hp seq per nm) {F : Nat → Prop} (hf : Fr F w w') (hd : ∀ k, S k → F k → False) : TmAt w' S b l named hp seq per nm := by
  obtain ⟨eb, SL, SE, v, n, h⟩ := h; exact ⟨eb, SL, SE, v, n, h.fr hf hd⟩
theorem TmAt.fr0 (h : TmAt w S b l named hp seq per nm) (hf : Fr Nob w w') : TmAt w' S b l named hp seq per nm := h.fr hf fun _ _ q => q
theorem TmAt.own (h : TmAt w S b l named hp seq per nm) : S b := by obtain ⟨eb, SL, SE, v, n, h⟩ := h; exact h.own
theorem TmAt.lt (h : TmAt w S b l named hp seq per nm) : ∀ k, S k → k < w.heap.size := by obtain ⟨eb, SL, SE, v, n, h⟩ := h; exact h.lt
theorem TmAt.mono (h : TmAt w S b l named hp seq per nm) {m : Nat} (hm : nm ≤ m) : TmAt w S b l named hp seq per m := by
  obtain ⟨eb, SL, SE, v, n, h⟩ := h; exact ⟨eb, SL, SE, v, n, h.own, h.lt, h.subL, h.subE, h.blk, h.len, h.sl, h.exp.mono hm⟩
/-- What will be due has turned. -/
theorem TmP.toExp (h : TmP w S b eb SL SE v l n named hp seq per nm) (hf : Fr SE w w') {hp' : List Hi} {seq' : Nat} {per' : Int → Option Int} {nm' : Nat} (he : ExpAt w' SE eb hp' seq' per' nm') : TmP w' S b eb SL SE v l n named hp' seq' per' nm' :=
  ⟨h.own, fun k q => by have := h.lt k q; have := hf.size; omega, h.subL, h.subE, hf.blk (fun q => (h.subE _ q).2.1 rfl) h.blk, h.len, h.sl.fr hf fun k q q' => (h.subE k q').2.2 q, he⟩
theorem TmP.growExp (h : TmP w S b eb SL SE v l n named hp seq per nm) (hf : Fr SE w w') {SE' : Nat → Prop} {hp' : List Hi} {seq' : Nat} {per' : Int → Option Int} {nm' : Nat} (he : ExpAt w' SE' eb hp' seq' per' nm') (hs : ∀ k, SE' k → SE k ∨ w.heap.size ≤ k) : TmP w' (And' S w w') b eb SL SE' v l n named hp' seq' per' nm' := by
  have hz := hf.size
  refine ⟨.inl h.own, fun k q => ?_, fun k q => ⟨.inl (h.subL k q).1, (h.subL k q).2⟩, fun k q => ?_, hf.blk (fun q => (h.subE _ q).2.1 rfl) h.blk, h.len, h.sl.fr hf fun k q q' => (h.subE k q').2.2 q, he⟩
  · rcases q with q | q
    · have := h.lt k q; omega
    · exact q.2
  · rcases hs k q with q' | q'
    · exact ⟨.inl (h.subE k q').1, (h.subE k q').2⟩
    · exact ⟨.inr ⟨q', he.lt k q⟩, fun e => by have := h.lt b h.own; omega, fun e => by have := h.lt k (h.subL k e).1; omega⟩
theorem TmP.cells (h : TmP w S b eb SL SE v l n named hp seq per nm) : ∃ A cp, v = .slice A n cp ∧ w.cell? ⟨b, 0, none⟩ = some (.slice A n cp) ∧ w.cell? ⟨b, 1, none⟩ = some (.pointer (some ⟨eb, 0, none⟩)) ∧ w.cell? ⟨b, 2, none⟩ = some (.int .i64 (named : Int)) ∧ w.frozen? ⟨b, 0, none⟩ = false ∧ w.frozen? ⟨b, 2, none⟩ = false := by
  obtain ⟨A, cp, e⟩ := h.sl.slice
  have c0 := blk_cell h.blk 0 rfl
  rw [e] at c0
  exact ⟨A, cp, e, c0, blk_cell h.blk 1 rfl, blk_cell h.blk 2 rfl, blk_froz h.blk 0, blk_froz h.blk 2⟩
/-- A timer's cells. -/
theorem TmP.item (h : TmP w S b eb SL SE v l n named hp seq per nm) (i : Nat) (x : Tr) (hi : l[i]? = some x) : ∃ g off cp, v = .slice (some ⟨g, off, none⟩) n cp ∧ SL g ∧ g < w.heap.size ∧ i < n ∧ n ≤ cp ∧ cp ≤ maxLen ∧ w.cell? ⟨g, off + i * 4, none⟩ = some (.int .i64 x.1) ∧ w.cell? ⟨g, off + i * 4 + 1, none⟩ = some (.int .i64 x.2.1) ∧ w.cell? ⟨g, off + i * 4 + 2, none⟩ = some (.pointer (some ⟨x.2.2.1, 0, none⟩)) ∧ w.cell? ⟨g, off + i * 4 + 3, none⟩ = some (.int .i64 x.2.2.2) ∧ ∀ j, w.frozen? ⟨g, j, none⟩ = false := by
  have hin : i < n := by rw [← h.len]; exact (List.getElem?_eq_some_iff.1 hi).1
  obtain ⟨g, off, cp, hv, hg, hgl, hc1, hc2, hc, hfz⟩ := h.sl.form (by omega)
  have q0 := hc _ _ ((trs_get l i 0 x hi (by omega)).trans rfl)
  have q1 := hc _ _ ((trs_get l i 1 x hi (by omega)).trans rfl)
  have q2 := hc _ _ ((trs_get l i 2 x hi (by omega)).trans rfl)
  have q3 := hc _ _ ((trs_get l i 3 x hi (by omega)).trans rfl)
  rw [Nat.add_zero] at q0
  rw [← Nat.add_assoc] at q1 q2 q3
  exact ⟨g, off, cp, hv, hg, hgl, hin, hc1, hc2, q0, q1, q2, q3, hfz⟩
end
theorem tim_new (w : World) : Calls Tryz.prog 22 #[] w fun e w' => ∃ (b : Nat) (S : Nat → Prop), e = .returned (.pointer (some ⟨b, 0, none⟩)) ∧ Fr Nob w w' ∧ TmAt w' S b [] 0 [] 0 (fun _ => none) 0 ∧ ∀ k, S k → w.heap.size ≤ k := by
  have Hh := Lib.hid (exp_new w)
  go_enter Tryz.func22, Tryz.ntmps22
  go_wp2_with fail
  refine Hh.out.mono ?_
  rintro e w1 ⟨eb, SE, rfl, hf1, ha1, hs1⟩
  have Hf1 := Lib.hid hf1; have Ha1 := Lib.hid ha1; have Hs1 := Lib.hid hs1
  clear hf1 ha1 hs1
  go_wp2_with fail
  go_ret
  have hz := Hf1.out.size
  refine ⟨w1.heap.size, fun k => w.heap.size ≤ k ∧ k < w1.heap.size + 1, rfl, Hf1.out.alloc _, ⟨eb, Nob, SE, .slice none 0 0, 0, ⟨by omega, by omega⟩, fun k q => by simp; omega, fun k q => q.elim, fun k q => ?_, heap_alloc_new _ _, rfl, Sl.nil _ _ _ _, Ha1.out.fr0 ((Fr.refl Nob w1).alloc _)⟩, fun k q => q.1⟩
  have := Ha1.out.lt k q
  exact ⟨⟨Hs1.out k q, by omega⟩, by omega, id⟩
theorem tim_bad (w : World) (now : Int) (h0 : 0 ≤ now) (h1 : now ≤ maxT) : Calls Tryz.prog 182 #[.int .i64 now] w fun e w' => e = .returned (.bool false) ∧ w = w' := by
  unfold maxT at h1
  have a : ¬ now < 0 := by omega
  have b : ¬ (4611686018427387904 : Int) < now := by omega
  go_enter Tryz.func182, Tryz.ntmps182
  go_wp2_with fail
  go_ret
  exact ⟨rfl, rfl⟩
section
variable {w : World} {S : Nat → Prop} {b : Nat} {l : List Tr} {named : Nat} {hp : List Hi} {seq : Nat} {per : Int → Option Int} {nm : Nat} (h : TmAt w S b l named hp seq per nm)
include h
theorem tim_has (k : Int) (r : Bool) (hr : (decide (0 ≤ k) && decide (k < l.length)) = r) : Calls Tryz.prog 120 #[.pointer (some ⟨b, 0, none⟩), .int .i64 k] w fun e w' => e = .returned (.bool r) ∧ w = w' := by
  obtain ⟨eb, SL, SE, v, n, h⟩ := h
  rw [h.len] at hr
  obtain ⟨A, cp, rfl, c0, _⟩ := h.cells
  clear h
  by_cases h0 : 0 ≤ k
  · have a : decide ((0 : Int) ≤ k) = true := decide_eq_true h0
    by_cases h1 : k < n
    · have a2 : decide (k < (n : Int)) = true := decide_eq_true h1
      rw [a, a2] at hr; subst hr
      go_enter Tryz.func120, Tryz.ntmps120
      go_wp2_with fail
      go_ret
      exact ⟨rfl, rfl⟩
    · have a2 : decide (k < (n : Int)) = false := decide_eq_false h1
      rw [a, a2] at hr; subst hr
      go_enter Tryz.func120, Tryz.ntmps120
      go_wp2_with fail
      go_ret
      exact ⟨rfl, rfl⟩
  · have a : decide ((0 : Int) ≤ k) = false := decide_eq_false h0
    rw [a] at hr; subst hr
    go_enter Tryz.func120, Tryz.ntmps120
    go_wp2_with fail
    go_ret
    exact ⟨rfl, rfl⟩
theorem tim_chan (i : Nat) (x : Tr) (hi : l[i]? = some x) : Calls Tryz.prog 79 #[.pointer (some ⟨b, 0, none⟩), .int .i64 (i : Int)] w fun e w' => e = .returned (.pointer (some ⟨x.2.2.1, 0, none⟩)) ∧ w = w' := by
  have hil := (List.getElem?_eq_some_iff.1 hi).1
  have Hh := Lib.hid (tim_has h i true (by simp; omega))
  obtain ⟨eb, SL, SE, v, n, h⟩ := h
  obtain ⟨A, cp, hv, c0, _⟩ := h.cells
  obtain ⟨g, off, cp', hv', hg, hgl, hin, hc1, hc2, q0, q1, q2, q3, hfz⟩ := h.item i x hi
  rw [hv] at hv'
  injection hv' with hA hn' hcp
  subst hA; subst hcp
  have hint : (i : Int) < n := by omega
  clear h hi hn' hv hil
  go_enter Tryz.func79, Tryz.ntmps79
  go_wp2_with fail
  refine Hh.out.mono ?_
  rintro e _ ⟨rfl, rfl⟩
  go_wp2_with fail
  go_ret
  exact ⟨rfl, rfl⟩
theorem tim_kind (i : Nat) (x : Tr) (hi : l[i]? = some x) : Calls Tryz.prog 140 #[.pointer (some ⟨b, 0, none⟩), .int .i64 (i : Int)] w fun e w' => e = .returned (.int .i64 x.1) ∧ w = w' := by
  have hil := (List.getElem?_eq_some_iff.1 hi).1
  have Hh := Lib.hid (tim_has h i true (by simp; omega))
  obtain ⟨eb, SL, SE, v, n, h⟩ := h
  obtain ⟨A, cp, hv, c0, _⟩ := h.cells
  obtain ⟨g, off, cp', hv', hg, hgl, hin, hc1, hc2, q0, q1, q2, q3, hfz⟩ := h.item i x hi
  rw [hv] at hv'
  injection hv' with hA hn' hcp
  subst hA; subst hcp
  have hint : (i : Int) < n := by omega
  clear h hi hn' hv hil
  go_enter Tryz.func140, Tryz.ntmps140
  go_wp2_with fail
  refine Hh.out.mono ?_
  rintro e _ ⟨rfl, rfl⟩
  go_wp2_with fail
  go_ret
  exact ⟨rfl, rfl⟩
end
theorem addT_pos (a d : Int) (ha : 0 ≤ a) (hd : 0 ≤ d) : 0 ≤ addT a d ∧ addT a d ≤ maxT := by unfold addT heldT maxT; omega
theorem perOf_b (kind d : Int) (hd : 1 ≤ d) : 0 ≤ perOf kind d ∧ perOf kind d ≤ maxT := by unfold perOf maxT; split <;> omega
section
variable {w : World} {S : Nat → Prop} {b : Nat} {l : List Tr} {named : Nat} {hp : List Hi} {seq : Nat} {per : Int → Option Int} {nm : Nat} (h : TmAt w S b l named hp seq per nm)
include h
set_option maxHeartbeats 1000000 in
theorem tim_arm (i : Nat) (hi1 : i < 1000) (x : Tr) (hi : l[i]? = some x) (hx0 : x.2.2.2 = 0) (now d : Int) (h0 : 0 ≤ now) (hd : 1 ≤ d) (hnm : nm < 700000) {l' : List Hi} (hl' : heapAdd (heapDel hp i) ((i : Int), addT now d, ((seq + 1 : Nat) : Int)) = some l') :
    Calls Tryz.prog 183 #[.pointer (some ⟨b, 0, none⟩), .int .i64 (i : Int), .int .i64 now, .int .i64 d] w fun e w' => ∃ S' : Nat → Prop, e = .returned (.tuple #[]) ∧ Fr S w w' ∧ TmAt w' S' b (l.set i (x.1, x.2.1, x.2.2.1, 1)) named l' (seq + 1) (putP per i (perOf x.1 d)) (nm + 6) ∧ ∀ k, S' k → S k ∨ w.heap.size ≤ k := by
  obtain ⟨eb, SL, SE, v, n, h⟩ := h
  have hpb := perOf_b x.1 d hd
  have hab := addT_pos now d h0 (by omega)
  have Harm := Lib.hid (fun W (hW : Fr Nob w W) => exp_arm ((h.fr0 hW).exp) (i : Int) (addT now d) (perOf x.1 d) (by omega) (by omega) hab.1 hab.2 hpb.1 hpb.2 (by omega) hl')
  have Hadd := Lib.hid (fun W => clock_add W now d)
  obtain ⟨A, cp, hv, c0, c1, c2, f0, f2⟩ := h.cells
  obtain ⟨g, off, cp', hv', hg, hgl, hin, hc1, hc2, q0, q1, q2, q3, hfz⟩ := h.item i x hi
  rw [hv] at hv'
  injection hv' with hA hn' hcp
  subst hA; subst hcp
  subst hv
  have hint : (i : Int) < n := by omega
  have hmx : ∀ W : World, (Builtin.max_ #[3, 3] 3 #[.int .i64 d, .int .i64 0]).run Tryz.prog W = .ok (.int .i64 d) W := fun W => by
    simp [Builtin.max_, Builtin.max2]; omega
  have hmn : ∀ W : World, (Builtin.min_ #[3, 3] 3 #[.int .i64 d, .int .i64 4611686018427387904]).run Tryz.prog W = .ok (.int .i64 (min d maxT)) W := fun W => by
    simp [Builtin.min_, Builtin.min2, maxT]; split <;> omega
  have H := Lib.hid h; have Hi := Lib.hid hi; have Hx0 := Lib.hid hx0
  have hA0 := q3
  rw [hx0] at q3 hA0
  have key : ∀ W, Fr SE w W → W.cell? ⟨b, 1, none⟩ = some (.pointer (some ⟨eb, 0, none⟩)) := fun W hW => hW.cell (fun q => (H.out.subE _ q).2.1 rfl) c1
  have Key := Lib.hid key
  have hw1 : IntKind.i64.wrap ((0 : Int) + 1) = 1 := rfl
  have hPd : ∃ P, P = perOf x.1 d := ⟨_, rfl⟩
  obtain ⟨P, hPd⟩ := hPd
  rw [← hPd] at Harm ⊢
  have HP := Lib.hid hPd
  clear h hi hx0 hn' hl' hpb hab c2 f0 f2 q1 q2 hA0 hPd key
  by_cases hk : x.1 = 2
  · have hkb : (x.1 == 2) = true := by simpa using hk
    have hP : min d maxT = P := by rw [HP.out]; unfold perOf; rw [if_pos hk]
    rw [hP] at hmn
    clear hP hk
    go_enter Tryz.func183, Tryz.ntmps183
    go_wp2_with fail
    have hf0 : Fr SE w w := Fr.refl _ _
    go_region_held3 (fun W => W.cell? ⟨b, 1, none⟩ = some (.pointer (some ⟨eb, 0, none⟩)))
      ((refine Key.out _ ?_; first | with_reducible exact hf2 | with_reducible exact hf0 | exact hf0.drew))
      ((first | (go_at_call 70; refine (Hadd.out _).mono ?_; rintro e _ ⟨rfl, rfl⟩) | (go_at_call 113; refine (Harm.out w.drew ((Fr.refl Nob w).drew)).mono ?_; rintro e w2 ⟨SE', rfl, hf2', he2, hs2⟩; have hf2 : Fr SE w w2 := (hf0.drew).trans0 hf2'; have He2 := Lib.hid he2; have Hs2 := Lib.hid hs2; clear he2 hs2 hf2')))
    have Hf2 := Lib.hid hf2
    have hnS : ¬ SE g := fun q => (H.out.subE g q).2.2 hg
    have hnb : ¬ SE b := fun q => (H.out.subE b q).2.1 rfl
    have d0 := hf2.cell hnb c0; have e3 := hf2.cell (p := ⟨g, off + i * 4 + 3, none⟩) hnS q3; have z3 := (hf2.frozen (p := ⟨g, off + i * 4 + 3, none⟩) hnS hgl).trans (hfz _)
    have H2 := Lib.hid (H.out.growExp hf2 He2.out Hs2.out)
    clear hf2 hf0 c0 c1 q0 q3 hnS hnb
    go_wp2_with fail
    go_end0
    obtain ⟨w3, hw3⟩ : ∃ w3, w3 = w2.setCell ⟨g, off + i * 4 + 3, none⟩ (.int .i64 1) := ⟨_, rfl⟩
    rw [← hw3]
    have hf23 : Fr SL w2 w3 := by rw [hw3]; exact (Fr.refl SL w2).setCell (p := ⟨g, off + i * 4 + 3, none⟩) (.inl hg) _
    have hs3 : Sl w3 SL 179 4 (.slice (some ⟨g, off, none⟩) n cp) n (trs (l.set i (x.1, x.2.1, x.2.2.1, 1))) := by
      have a := H2.out.sl.set (i * 4 + 3) (by omega) (.int .i64 1)
      rw [trs_set3 l i x 1 Hi.out, ← Nat.add_assoc, ← hw3] at a
      exact a
    have q := H2.out
    refine ⟨And' S w w2, rfl, ?_, ⟨eb, SL, SE', _, n, q.own, fun k a => by have := q.lt k a; have := hf23.size; omega, q.subL, q.subE, hf23.blk (fun a => (q.subL _ a).2 rfl) q.blk, by rw [List.length_set]; exact q.len, hs3, q.exp.fr hf23 fun k a e => (q.subE k a).2.2 e⟩, fun k a => ?_⟩
    · exact (Hf2.out.mono fun k _ a => (H.out.subE k a).1).trans hf23 fun k _ a => (H.out.subL k a).1
    · rcases a with a | a
      · exact .inl a
      · exact .inr a.1
  · have hkb : (x.1 == 2) = false := by simpa using hk
    have hP : P = 0 := by rw [HP.out]; unfold perOf; rw [if_neg hk]
    subst hP
    clear hk hmn
    go_enter Tryz.func183, Tryz.ntmps183
    go_wp2_with fail
    have hf0 : Fr SE w w := Fr.refl _ _
    go_region_held3 (fun W => W.cell? ⟨b, 1, none⟩ = some (.pointer (some ⟨eb, 0, none⟩)))
      ((refine Key.out _ ?_; first | with_reducible exact hf2 | with_reducible exact hf0 | exact hf0.drew))
      ((first | (go_at_call 70; refine (Hadd.out _).mono ?_; rintro e _ ⟨rfl, rfl⟩) | (go_at_call 113; refine (Harm.out w.drew ((Fr.refl Nob w).drew)).mono ?_; rintro e w2 ⟨SE', rfl, hf2', he2, hs2⟩; have hf2 : Fr SE w w2 := (hf0.drew).trans0 hf2'; have He2 := Lib.hid he2; have Hs2 := Lib.hid hs2; clear he2 hs2 hf2')))
    have Hf2 := Lib.hid hf2
    have hnS : ¬ SE g := fun q => (H.out.subE g q).2.2 hg
    have hnb : ¬ SE b := fun q => (H.out.subE b q).2.1 rfl
    have d0 := hf2.cell hnb c0; have e3 := hf2.cell (p := ⟨g, off + i * 4 + 3, none⟩) hnS q3; have z3 := (hf2.frozen (p := ⟨g, off + i * 4 + 3, none⟩) hnS hgl).trans (hfz _)
    have H2 := Lib.hid (H.out.growExp hf2 He2.out Hs2.out)
    clear hf2 hf0 c0 c1 q0 q3 hnS hnb
    go_wp2_with fail
    go_end0
    obtain ⟨w3, hw3⟩ : ∃ w3, w3 = w2.setCell ⟨g, off + i * 4 + 3, none⟩ (.int .i64 1) := ⟨_, rfl⟩
    rw [← hw3]
    have hf23 : Fr SL w2 w3 := by rw [hw3]; exact (Fr.refl SL w2).setCell (p := ⟨g, off + i * 4 + 3, none⟩) (.inl hg) _
    have hs3 : Sl w3 SL 179 4 (.slice (some ⟨g, off, none⟩) n cp) n (trs (l.set i (x.1, x.2.1, x.2.2.1, 1))) := by
      have a := H2.out.sl.set (i * 4 + 3) (by omega) (.int .i64 1)
      rw [trs_set3 l i x 1 Hi.out, ← Nat.add_assoc, ← hw3] at a
      exact a
    have q := H2.out
    refine ⟨And' S w w2, rfl, ?_, ⟨eb, SL, SE', _, n, q.own, fun k a => by have := q.lt k a; have := hf23.size; omega, q.subL, q.subE, hf23.blk (fun a => (q.subL _ a).2 rfl) q.blk, by rw [List.length_set]; exact q.len, hs3, q.exp.fr hf23 fun k a e => (q.subE k a).2.2 e⟩, fun k a => ?_⟩
    · exact (Hf2.out.mono fun k _ a => (H.out.subE k a).1).trans hf23 fun k _ a => (H.out.subL k a).1
    · rcases a with a | a
      · exact .inl a
      · exact .inr a.1
end
end Go.Proofs.YtcffplgimbbflaaGreat
