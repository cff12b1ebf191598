/- Who waits on a channel, from outside; what two laws need. -/
import Derived.Test.YtcffplgimbbflaaGreatSlQ9
set_option linter.unusedVariables false
set_option linter.unusedSimpArgs false
namespace Go.Proofs.YtcffplgimbbflaaGreat
open Go.RowKit
set_option maxRecDepth 100000
theorem three_blk {w : World} {b : Nat} {y0 y1 y2 : Value} {T : TypeId} (h : w.heap[b]? = some (.cells #[y0, y1, y2] T (0, 0))) (x0 x1 x2 : Value) : (((w.setCell ⟨b, 0, none⟩ x0).setCell ⟨b, 1, none⟩ x1).setCell ⟨b, 2, none⟩ x2).heap[b]? = some (.cells #[x0, x1, x2] T (0, 0)) :=
  blk_set (blk_set (blk_set h 0 x0) 1 x1) 2 x2
theorem three_fr (w : World) (b : Nat) (x0 x1 x2 : Value) : Fr (fun k => k = b) w (((w.setCell ⟨b, 0, none⟩ x0).setCell ⟨b, 1, none⟩ x1).setCell ⟨b, 2, none⟩ x2) :=
  (((Fr.refl (fun k => k = b) w).setCell (p := ⟨b, 0, none⟩) (.inl rfl) _).setCell (p := ⟨b, 1, none⟩) (.inl rfl) _).setCell (p := ⟨b, 2, none⟩) (.inl rfl) _
theorem heap_remove_no {w : World} {S : Nat → Prop} {b : Nat} {l : List Hi} {seq nm : Nat} (h : HeapAt w S b l seq nm) (k : Int) (h0 : 0 ≤ k) (h1 : k < 1000) (hno : heapHas l k = false) :
    Calls Tryz.prog 157 #[.pointer (some ⟨b, 0, none⟩), .int .i64 k] w fun e w' => (∃ x, e = .returned (.tuple #[hiV x, .bool false])) ∧ Fr Nob w w' := by
  obtain ⟨mb, SL, v, n, f, h, hpos, hids, hsq, hnd⟩ := h
  have hfid : f k = none := by rw [hpos]; exact hPos_none hno
  have hkid : (Lit.int .i64 k).wf = true := wf_small (by omega) (by omega)
  have Hf := Lib.hid (fun W hW => heap_find_none (h.fr0 (w' := W) hW) k hfid hkid)
  clear h hpos hids hno hfid
  go_enter Tryz.func157, Tryz.ntmps157
  go_wp2_with fail
  obtain ⟨w1, hw1⟩ : ∃ w1, w1 = w.alloc (.cells #[.int .i64 0, .int .i64 0, .int .i64 0] 208) := ⟨_, rfl⟩
  rw [← hw1]
  obtain ⟨rb, hrb⟩ : ∃ rb, rb = w.heap.size := ⟨_, rfl⟩
  rw [← hrb]
  have hfw1 : Fr Nob w w1 := by rw [hw1]; exact (Fr.refl Nob w).alloc _
  have hbw1 : w1.heap[rb]? = some (.cells #[.int .i64 0, .int .i64 0, .int .i64 0] 208 (0, 0)) := by rw [hw1, hrb]; exact heap_alloc_new _ _
  have Hfw1 := Lib.hid hfw1; have Hbw1 := Lib.hid hbw1; have Hzw1 : Hid (w.heap.size = rb ∧ rb < w1.heap.size) := ⟨hrb.symm, lt_of_block hbw1⟩
  clear hw1 hrb hfw1 hbw1
  refine (Hf.out _ Hfw1.out).mono ?_
  rintro e w2 ⟨rfl, hf2⟩
  have hb2 := ((Fr.refl Nob w2).alloc (.cells #[.int .i64 0, .int .i64 0, .int .i64 0] 208)).blk id (hf2.blk id Hbw1.out)
  have t0 := blk_cell (hb2) 0 rfl; have t1 := blk_cell (hb2) 1 rfl; have t2 := blk_cell (hb2) 2 rfl
  have z0 := blk_froz (hb2) 0; have z1 := blk_froz (hb2) 1; have z2 := blk_froz (hb2) 2
  have Hf2 := Lib.hid hf2; have Hb2 := Lib.hid hb2
  clear hf2 hb2
  go_wp2_with fail
  have tb := three_blk Hb2.out (.int .i64 0) (.int .i64 0) (.int .i64 0)
  have y0 := blk_cell tb 0 rfl; have y1 := blk_cell tb 1 rfl; have y2 := blk_cell tb 2 rfl
  refine bodyPost_ret (v := .tuple #[hiV hiZ, .bool false]) (by simp [results, Tryz.results157, go_sem, y0, y1, y2]) rfl ⟨⟨_, rfl⟩, ?_⟩
  exact ((Hfw1.out.trans0 Hf2.out).alloc _).trans (three_fr _ rb _ _ _) fun j hj e => by have := Hzw1.out; omega
theorem hPos_last {l r : List Hi} {x : Hi} {i : Nat} (hl : l = r ++ [x]) (hnd : (l.map fun x => x.1).Nodup) (hi : i = r.length) : hPos l x.1 = some (i : Int) := by
  subst hl; subst hi
  induction r with
  | nil => simp [hPos]
  | cons y r ih =>
    simp only [List.cons_append, List.map_cons, List.nodup_cons] at hnd
    have : y.1 ≠ x.1 := fun e => hnd.1 (by rw [e]; simp)
    simp only [List.cons_append, hPos, if_neg this, ih hnd.2, Option.map_some, List.length_cons]
    congr 1
theorem his_take (l : List Hi) (k : Nat) : (his l).take (k * 3) = his (l.take k) := by
  induction l generalizing k with
  | nil => simp [his]
  | cons x l ih =>
    cases k with
    | zero => simp [his]
    | succ k =>
      have := ih k
      simp only [his, List.flatMap_cons, List.take_succ_cons] at this ⊢
      rw [← this, show (k + 1) * 3 = 3 + k * 3 by omega, List.take_append, List.take_of_length_le (by simp)]
      simp
theorem hPos_drop {l r : List Hi} {x : Hi} (hl : l = r ++ [x]) (hnd : (l.map fun x => x.1).Nodup) (k : Int) : (if k = x.1 then none else hPos l k) = hPos r k := by
  subst hl
  induction r with
  | nil => by_cases e : k = x.1 <;> simp [hPos, e, Ne.symm]
  | cons y r ih =>
    simp only [List.cons_append, List.map_cons, List.nodup_cons] at hnd
    have hy : y.1 ≠ x.1 := fun e => hnd.1 (by rw [e]; simp)
    have := ih hnd.2
    by_cases e : k = x.1
    · subst e
      rw [if_pos rfl] at this
      simp [hPos, hy, ← this]
    · rw [if_neg e] at this
      simp only [if_neg e, List.cons_append, hPos, this]
theorem heap_remove_last {w : World} {S : Nat → Prop} {b : Nat} {l r : List Hi} {seq nm : Nat} (h : HeapAt w S b l seq nm) (x : Hi) (hl : l = r ++ [x]) (hnm : nm < 900000) (hr : r.length ≤ 1) :
    Calls Tryz.prog 157 #[.pointer (some ⟨b, 0, none⟩), .int .i64 x.1] w fun e w' => (∃ x, e = .returned (.tuple #[hiV x, .bool true])) ∧ Fr S w w' ∧ HeapAt w' S b r seq nm := by
  obtain ⟨mb, SL, v, n, f, h, hpos, hids, hsq, hnd⟩ := h
  obtain ⟨i, hir⟩ : ∃ i, i = r.length := ⟨_, rfl⟩
  obtain ⟨i', hii⟩ : ∃ i', i' = i := ⟨_, rfl⟩
  have Hii := Lib.hid hii; have Hir := Lib.hid hir
  have hle : i' ≤ i ∧ i ≤ i' := by omega
  have hn : n = i' + 1 := by rw [← h.len, hl, hii, hir]; simp
  have hx := hids x (by rw [hl]; simp)
  have hkx : (Lit.int .i64 x.1).wf = true := wf_small (by omega) (by omega)
  have hi : l[i]? = some x := by rw [hl, hir]; simp
  have hi' : l[i']? = some x := by rw [hii]; exact hi
  have hfx : f x.1 = some (i : Int) := by rw [hpos]; exact hPos_last hl hnd hir
  have Hf := Lib.hid (fun W hW => heap_find (h.fr0 (w' := W) hW) i x hi hfx hkx)
  have hint : ((n : Int) - 1) = (i' : Int) := by omega
  have hws : IntKind.i64.wrap ((n : Int) - 1) = (i' : Int) := by rw [hint]; simp [IntKind.wrap, IntKind.bits, IntKind.signed]; omega
  obtain ⟨A, cp, hv, c0, c1, c2, f0, f2⟩ := h.cells
  obtain ⟨g, off, cp', hv', hg, hgl, hin, hc1, hc2, q0, q1, q2, hfz⟩ := h.item i' x hi'
  rw [hv] at hv'
  injection hv' with hA hn' hcp
  subst hA; subst hcp
  subst hv
  obtain ⟨A', hcut, hcutS, _⟩ := cut_h (P := Tryz.prog) 199 208 3 Tryz.underlying199 (by kernel_rfl) (some ⟨g, off, none⟩) n cp i' (by omega) hc1
  have hintI : (i' : Int) < n := by omega
  have Hlk := Lib.hid (fun W (hW : Fr Nob w W) => ((h.fr0 hW).map).look x.1 hkx)
  have H := Lib.hid h
  have Hi := Lib.hid hi; have Hi' := Lib.hid hi'
  have C0 := Lib.hid c0; have C1 := Lib.hid c1; have Q0 := Lib.hid q0; have Q1 := Lib.hid q1; have Q2 := Lib.hid q2; have F0 := Lib.hid f0
  have Hfx := Lib.hid hfx
  have Hcs := Lib.hid hcutS
  have HPos := Lib.hid hpos; have Hids := Lib.hid hids; have Hnd := Lib.hid hnd; have Hl := Lib.hid hl; have Hhn := Lib.hid hn
  clear hii hir
  clear h hi hi' hn' hfx hcutS hpos hids hnd hl hint hn
  go_enter Tryz.func157, Tryz.ntmps157
  go_wp2_with fail
  obtain ⟨w1, hw1⟩ : ∃ w1, w1 = w.alloc (.cells #[.int .i64 0, .int .i64 0, .int .i64 0] 208) := ⟨_, rfl⟩
  rw [← hw1]
  obtain ⟨rb, hrb⟩ : ∃ rb, rb = w.heap.size := ⟨_, rfl⟩
  rw [← hrb]
  have hfw1 : Fr Nob w w1 := by rw [hw1]; exact (Fr.refl Nob w).alloc _
  have hbw1 : w1.heap[rb]? = some (.cells #[.int .i64 0, .int .i64 0, .int .i64 0] 208 (0, 0)) := by rw [hw1, hrb]; exact heap_alloc_new _ _
  have Hfw1 := Lib.hid hfw1; have Hbw1 := Lib.hid hbw1; have Hzw1 : Hid (w.heap.size = rb ∧ rb < w1.heap.size) := ⟨hrb.symm, lt_of_block hbw1⟩
  clear hw1 hrb hfw1 hbw1
  refine (Hf.out _ Hfw1.out).mono ?_
  rintro e w2 ⟨rfl, hf2⟩
  have Hf2 := Lib.hid (Hfw1.out.trans0 hf2); have Hb2 := Lib.hid (hf2.blk id Hbw1.out); have Hz2 := Lib.hid hf2.size
  clear hf2
  go_wp2_with fail
  obtain ⟨w3, hw3⟩ : ∃ w3, w3 = w2.alloc (.cells #[.int .i64 x.1, .int .i64 x.2.1, .int .i64 x.2.2] 208) := ⟨_, rfl⟩
  rw [← hw3]
  obtain ⟨xb, hxb⟩ : ∃ xb, xb = w2.heap.size := ⟨_, rfl⟩
  rw [← hxb]
  have hfw3 : Fr Nob w2 w3 := by rw [hw3]; exact (Fr.refl Nob w2).alloc _
  have hbw3 : w3.heap[xb]? = some (.cells #[.int .i64 x.1, .int .i64 x.2.1, .int .i64 x.2.2] 208 (0, 0)) := by rw [hw3, hxb]; exact heap_alloc_new _ _
  have Hfw3 := Lib.hid hfw3; have Hbw3 := Lib.hid hbw3; have Hzw3 : Hid (w2.heap.size = xb ∧ xb < w3.heap.size) := ⟨hxb.symm, lt_of_block hbw3⟩
  clear hw3 hxb hfw3 hbw3
  have hlk : ∀ q, (Go.Instr.lookup 113 (.map (some mb)) (.int .i64 x.1) false).run Tryz.prog (w3.drewN q) = .ok (.int .i64 (i : Int)) (w3.drewN q) := fun q => by
    have := Hlk.out _ ((Hf2.out.trans0 Hfw3.out).drewN q)
    rwa [Hfx.out] at this
  have d0 := (Hf2.out.trans0 Hfw3.out).cell id c0; have d1 := (Hf2.out.trans0 Hfw3.out).cell id c1
  have e0 := (Hf2.out.trans0 Hfw3.out).cell id q0; have e1 := (Hf2.out.trans0 Hfw3.out).cell id q1; have e2 := (Hf2.out.trans0 Hfw3.out).cell id q2
  have g0 := ((Hf2.out.trans0 Hfw3.out).frozen (p := ⟨b, 0, none⟩) id (H.out.lt b H.out.own)).trans f0
  clear c0 c1 q0 q1 q2 f0 f2 c2
  go_quiet (fail)
  obtain ⟨w4, hw4⟩ : ∃ w4, w4 = w3.drewN nq := ⟨_, rfl⟩
  rw [← hw4]
  have hf34 : Fr Nob w3 w4 := by rw [hw4]; exact (Fr.refl Nob w3).drewN _
  have Hf4 := Lib.hid (Hf2.out.trans0 (Hfw3.out.trans0 hf34))
  have Hx4 := Lib.hid (hf34.blk id Hbw3.out); have Hb4 := Lib.hid ((Hfw3.out.trans0 hf34).blk id Hb2.out)
  have Hz4 : Hid (w2.heap.size = xb ∧ xb < w4.heap.size) := ⟨Hzw3.out.1, by have := Hzw3.out.2; have := hf34.size; omega⟩
  clear hw4 hf34 d0 d1 e0 e1 e2 g0 hlk
  have hfa := (Fr.refl Nob w4).alloc (.cells #[.int .i64 x.1, .int .i64 x.2.1, .int .i64 x.2.2] 208)
  have d0 := (Hf4.out.trans0 hfa).cell id C0.out; have d1 := (Hf4.out.trans0 hfa).cell id C1.out
  have e0 := Hf4.out.cell id Q0.out; have e1 := Hf4.out.cell id Q1.out; have e2 := Hf4.out.cell id Q2.out
  have d0' := Hf4.out.cell id C0.out
  have g0 := ((Hf4.out.trans0 hfa).frozen (p := ⟨b, 0, none⟩) id (H.out.lt b H.out.own)).trans F0.out
  have Hmd := Lib.hid (fun A => ((H.out.fr0 (Hf4.out.trans0 hfa)).map).fr ((Fr.refl (fun k => k = b) _).setCell (p := ⟨b, 0, none⟩) (.inl rfl) (.slice A i' cp)) (fun e => H.out.ne e.symm))
  have Hpre : Hid (∀ A w5, Fr (fun k => k = mb) ((w4.alloc (.cells #[.int .i64 x.1, .int .i64 x.2.1, .int .i64 x.2.2] 208)).setCell ⟨b, 0, none⟩ (.slice A i' cp)) w5 → w5.heap[xb]? = some (.cells #[.int .i64 x.1, .int .i64 x.2.1, .int .i64 x.2.2] 208 (0, 0)) ∧ w5.heap[rb]? = some (.cells #[.int .i64 0, .int .i64 0, .int .i64 0] 208 (0, 0)) ∧ w5.heap[b]? = some (.cells #[.slice A i' cp, .map (some mb), .int .i64 (seq : Int)] 201 (0, 0)) ∧ w5.heap[w4.heap.size]? = some (.cells #[.int .i64 x.1, .int .i64 x.2.1, .int .i64 x.2.2] 208 (0, 0))) := Lib.hid fun A w5 hf => by
    have hb := H.out.lt b H.out.own; have hm := H.out.lt mb H.out.ownM
    have a1 := Hz4.out; have a2 := Hzw1.out; have a3 := Hz2.out; have a4 := Hzw3.out
    refine ⟨hf.blk (by omega) ((blk_set_ne _ _ (by omega)).trans ((Fr.refl Nob w4).alloc _ |>.blk id Hx4.out)), hf.blk (by omega) ((blk_set_ne _ _ (by omega)).trans ((Fr.refl Nob w4).alloc _ |>.blk id Hb4.out)), hf.blk H.out.ne (blk_set (((Fr.refl Nob w4).alloc _).blk id (Hf4.out.blk id H.out.blk)) 0 _), hf.blk (by omega) ((blk_set_ne _ _ (by omega)).trans (heap_alloc_new _ _))⟩
  have hdi : decide ((i : Int) < (i' : Int)) = false := decide_eq_false (by omega)
  clear hfa
  go_wp2_with (refine map_del rfl (.tmp 51) (.tmp 52) rfl mb nm f rfl (Hmd.out _) x.1 rfl hkx ?_; intro w5 hm5 hf5; obtain ⟨hx5, hr5, hb5, hl5⟩ := Hpre.out _ _ hf5; have u0 := blk_cell hx5 0 rfl; have u1 := blk_cell hx5 1 rfl; have u2 := blk_cell hx5 2 rfl; have t0 := blk_cell hr5 0 rfl; have t1 := blk_cell hr5 1 rfl; have t2 := blk_cell hr5 2 rfl; have s0 := blk_cell hl5 0 rfl; have s1 := blk_cell hl5 1 rfl; have s2 := blk_cell hl5 2 rfl; have z0 := blk_froz hr5 0; have z1 := blk_froz hr5 1; have z2 := blk_froz hr5 2; have Hb5 := Lib.hid hb5; have Hx5 := Lib.hid hx5; have Hr5 := Lib.hid hr5; have Hl5 := Lib.hid hl5; clear hx5 hr5 hb5 hl5; have Hm5 := Lib.hid hm5; have Hf5 := Lib.hid hf5; clear hm5 hf5)
  have hq5 : HeapQ w5 S b mb SL (.slice A' i' cp) (l.take i') i' seq nm (fup f x.1 none) := by
    have q := H.out
    have a1 : Sl w5 SL 208 3 (.slice (some ⟨g, off, none⟩) n cp) n (his l) := (((q.sl.fr Hf4.out fun _ _ e => e).alloc _).fr ((Fr.refl (fun k => k = b) _).setCell (p := ⟨b, 0, none⟩) (.inl rfl) (.slice A' i' cp)) fun k a e => (q.subL k a).2.1 e).fr Hf5.out fun k a e => (q.subL k a).2.2 e
    have a2 := Hcs.out _ _ _ _ a1
    rw [his_take] at a2
    have hz : w.heap.size ≤ w5.heap.size := by have := Hf4.out.size; have := Hf5.out.size; simp at this; omega
    exact ⟨q.own, q.ownM, q.ne, fun k a => by have := q.lt k a; omega, q.subL, Hb5.out, by rw [List.length_take, q.len]; omega, a2, Hm5.out⟩
  have Hq5 := Lib.hid hq5
  have Hf05 : Hid (Fr S w w5) := Lib.hid (((((Hf4.out.none).alloc _).setCell (p := ⟨b, 0, none⟩) (.inl H.out.own) _)).trans Hf5.out fun k _ e => by rw [e]; exact H.out.ownM)
  clear hq5
  have tb := three_blk Hr5.out (.int .i64 x.1) (.int .i64 x.2.1) (.int .i64 x.2.2)
  have y0 := blk_cell tb 0 rfl; have y1 := blk_cell tb 1 rfl; have y2 := blk_cell tb 2 rfl
  have hrb : ∀ k, S k → k ≠ rb := fun k q e => by have := H.out.lt k q; have := Hzw1.out; omega
  have ht : l.take i' = r := by rw [Hl.out, Hii.out, Hir.out]; simp
  have hq := Hq5.out
  rw [ht] at hq
  refine bodyPost_ret (v := .tuple #[hiV x, .bool true]) (by simp [results, Tryz.results157, go_sem, y0, y1, y2]) rfl ⟨⟨_, rfl⟩, Hf05.out.trans (three_fr _ rb _ _ _) fun j hj e => ?_, mb, SL, _, _, _, hq.fr (three_fr _ rb _ _ _) hrb, fun k => ?_, fun z hz => Hids.out z (by rw [Hl.out]; simp [hz]), hsq, ?_⟩
  · have := Hzw1.out; omega
  · rw [← hPos_drop Hl.out Hnd.out]
    unfold fup
    split
    · rfl
    · exact HPos.out k
  · have := Hnd.out
    rw [Hl.out, List.map_append] at this
    exact (List.nodup_append.1 this).1
theorem heap_remove_first {w : World} {S : Nat → Prop} {b : Nat} {seq nm : Nat} (x y : Hi) (h : HeapAt w S b [x, y] seq nm) (hnm : nm < 900000) :
    Calls Tryz.prog 157 #[.pointer (some ⟨b, 0, none⟩), .int .i64 x.1] w fun e w' => (∃ x, e = .returned (.tuple #[hiV x, .bool true])) ∧ Fr S w w' ∧ HeapAt w' S b [y] seq (nm + 3) := by
  obtain ⟨l, hl⟩ : ∃ l, l = [x, y] := ⟨_, rfl⟩
  rw [← hl] at h
  obtain ⟨mb, SL, v, n, f, h, hpos, hids, hsq, hnd⟩ := h
  obtain ⟨i, hir⟩ : ∃ i : Nat, i = 0 := ⟨_, rfl⟩
  obtain ⟨i', hii⟩ : ∃ i' : Nat, i' = 1 := ⟨_, rfl⟩
  have hn : n = 2 := by rw [← h.len, hl]; rfl
  have Hii := Lib.hid hii; have Hir := Lib.hid hir
  have hle : i < i' := by omega
  have hx := hids x (by rw [hl]; simp)
  have hy := hids y (by rw [hl]; simp)
  have hkx : (Lit.int .i64 x.1).wf = true := wf_small (by omega) (by omega)
  have hky : (Lit.int .i64 y.1).wf = true := wf_small (by omega) (by omega)
  have hi : l[i]? = some x := by rw [hl, hir]; rfl
  have hi' : l[i']? = some y := by rw [hl, hii]; rfl
  have hfx : f x.1 = some (i : Int) := by rw [hpos, hl, hir]; simp [hPos]
  have Hf := Lib.hid (fun W hW => heap_find (h.fr0 (w' := W) hW) i x hi hfx hkx)
  have hint : ((n : Int) - 1) = (i' : Int) := by omega
  have hws : IntKind.i64.wrap ((n : Int) - 1) = (i' : Int) := by rw [hint]; simp [IntKind.wrap, IntKind.bits, IntKind.signed]; omega
  obtain ⟨A, cp, hv, c0, c1, c2, f0, f2⟩ := h.cells
  obtain ⟨g, off, cp', hv', hg, hgl, hin, hc1, hc2, q0, q1, q2, hfz⟩ := h.item i' y hi'
  rw [hv] at hv'
  injection hv' with hA hn' hcp
  subst hA; subst hcp
  subst hv
  obtain ⟨A', hcut, hcutS, _⟩ := cut_h (P := Tryz.prog) 199 208 3 Tryz.underlying199 (by kernel_rfl) (some ⟨g, off, none⟩) n cp i' (by omega) hc1
  have hintI : (i' : Int) < n := by omega
  have Hlk := Lib.hid (fun W (hW : Fr Nob w W) => ((h.fr0 hW).map).look x.1 hkx)
  have H := Lib.hid h
  have Hi := Lib.hid hi; have Hi' := Lib.hid hi'
  have C0 := Lib.hid c0; have C1 := Lib.hid c1; have Q0 := Lib.hid q0; have Q1 := Lib.hid q1; have Q2 := Lib.hid q2; have F0 := Lib.hid f0
  have Hfx := Lib.hid hfx
  have Hcs := Lib.hid hcutS
  have HPos := Lib.hid hpos; have Hids := Lib.hid hids; have Hnd := Lib.hid hnd; have Hl := Lib.hid hl; have Hhn := Lib.hid hn
  clear hii hir
  clear h hi hi' hn' hfx hcutS hpos hids hnd hl hint hn
  go_enter Tryz.func157, Tryz.ntmps157
  go_wp2_with fail
  obtain ⟨w1, hw1⟩ : ∃ w1, w1 = w.alloc (.cells #[.int .i64 0, .int .i64 0, .int .i64 0] 208) := ⟨_, rfl⟩
  rw [← hw1]
  obtain ⟨rb, hrb⟩ : ∃ rb, rb = w.heap.size := ⟨_, rfl⟩
  rw [← hrb]
  have hfw1 : Fr Nob w w1 := by rw [hw1]; exact (Fr.refl Nob w).alloc _
  have hbw1 : w1.heap[rb]? = some (.cells #[.int .i64 0, .int .i64 0, .int .i64 0] 208 (0, 0)) := by rw [hw1, hrb]; exact heap_alloc_new _ _
  have Hfw1 := Lib.hid hfw1; have Hbw1 := Lib.hid hbw1; have Hzw1 : Hid (w.heap.size = rb ∧ rb < w1.heap.size) := ⟨hrb.symm, lt_of_block hbw1⟩
  clear hw1 hrb hfw1 hbw1
  refine (Hf.out _ Hfw1.out).mono ?_
  rintro e w2 ⟨rfl, hf2⟩
  have Hf2 := Lib.hid (Hfw1.out.trans0 hf2); have Hb2 := Lib.hid (hf2.blk id Hbw1.out); have Hz2 := Lib.hid hf2.size
  clear hf2
  go_wp2_with fail
  obtain ⟨w3, hw3⟩ : ∃ w3, w3 = w2.alloc (.cells #[.int .i64 x.1, .int .i64 x.2.1, .int .i64 x.2.2] 208) := ⟨_, rfl⟩
  rw [← hw3]
  obtain ⟨xb, hxb⟩ : ∃ xb, xb = w2.heap.size := ⟨_, rfl⟩
  rw [← hxb]
  have hfw3 : Fr Nob w2 w3 := by rw [hw3]; exact (Fr.refl Nob w2).alloc _
  have hbw3 : w3.heap[xb]? = some (.cells #[.int .i64 x.1, .int .i64 x.2.1, .int .i64 x.2.2] 208 (0, 0)) := by rw [hw3, hxb]; exact heap_alloc_new _ _
  have Hfw3 := Lib.hid hfw3; have Hbw3 := Lib.hid hbw3; have Hzw3 : Hid (w2.heap.size = xb ∧ xb < w3.heap.size) := ⟨hxb.symm, lt_of_block hbw3⟩
  clear hw3 hxb hfw3 hbw3
  have hlk : ∀ q, (Go.Instr.lookup 113 (.map (some mb)) (.int .i64 x.1) false).run Tryz.prog (w3.drewN q) = .ok (.int .i64 (i : Int)) (w3.drewN q) := fun q => by
    have := Hlk.out _ ((Hf2.out.trans0 Hfw3.out).drewN q)
    rwa [Hfx.out] at this
  have d0 := (Hf2.out.trans0 Hfw3.out).cell id c0; have d1 := (Hf2.out.trans0 Hfw3.out).cell id c1
  have e0 := (Hf2.out.trans0 Hfw3.out).cell id q0; have e1 := (Hf2.out.trans0 Hfw3.out).cell id q1; have e2 := (Hf2.out.trans0 Hfw3.out).cell id q2
  have g0 := ((Hf2.out.trans0 Hfw3.out).frozen (p := ⟨b, 0, none⟩) id (H.out.lt b H.out.own)).trans f0
  clear c0 c1 q0 q1 q2 f0 f2 c2
  go_quiet (fail)
  obtain ⟨w4, hw4⟩ : ∃ w4, w4 = w3.drewN nq := ⟨_, rfl⟩
  rw [← hw4]
  have hf34 : Fr Nob w3 w4 := by rw [hw4]; exact (Fr.refl Nob w3).drewN _
  have Hf4 := Lib.hid (Hf2.out.trans0 (Hfw3.out.trans0 hf34))
  have Hx4 := Lib.hid (hf34.blk id Hbw3.out); have Hb4 := Lib.hid ((Hfw3.out.trans0 hf34).blk id Hb2.out)
  have Hz4 : Hid (w2.heap.size = xb ∧ xb < w4.heap.size) := ⟨Hzw3.out.1, by have := Hzw3.out.2; have := hf34.size; omega⟩
  clear hw4 hf34 d0 d1 e0 e1 e2 g0 hlk
  have hfa := (Fr.refl Nob w4).alloc (.cells #[.int .i64 y.1, .int .i64 y.2.1, .int .i64 y.2.2] 208)
  have d0 := (Hf4.out.trans0 hfa).cell id C0.out; have d1 := (Hf4.out.trans0 hfa).cell id C1.out
  have e0 := Hf4.out.cell id Q0.out; have e1 := Hf4.out.cell id Q1.out; have e2 := Hf4.out.cell id Q2.out
  have d0' := Hf4.out.cell id C0.out
  have g0 := ((Hf4.out.trans0 hfa).frozen (p := ⟨b, 0, none⟩) id (H.out.lt b H.out.own)).trans F0.out
  have Hmd := Lib.hid (fun A => ((H.out.fr0 (Hf4.out.trans0 hfa)).map).fr ((Fr.refl (fun k => k = b) _).setCell (p := ⟨b, 0, none⟩) (.inl rfl) (.slice A i' cp)) (fun e => H.out.ne e.symm))
  have Hpre : Hid (∀ A w5, Fr (fun k => k = mb) ((w4.alloc (.cells #[.int .i64 y.1, .int .i64 y.2.1, .int .i64 y.2.2] 208)).setCell ⟨b, 0, none⟩ (.slice A i' cp)) w5 → w5.heap[xb]? = some (.cells #[.int .i64 x.1, .int .i64 x.2.1, .int .i64 x.2.2] 208 (0, 0)) ∧ w5.heap[rb]? = some (.cells #[.int .i64 0, .int .i64 0, .int .i64 0] 208 (0, 0)) ∧ w5.heap[b]? = some (.cells #[.slice A i' cp, .map (some mb), .int .i64 (seq : Int)] 201 (0, 0)) ∧ w5.heap[w4.heap.size]? = some (.cells #[.int .i64 y.1, .int .i64 y.2.1, .int .i64 y.2.2] 208 (0, 0))) := Lib.hid fun A w5 hf => by
    have hb := H.out.lt b H.out.own; have hm := H.out.lt mb H.out.ownM
    have a1 := Hz4.out; have a2 := Hzw1.out; have a3 := Hz2.out; have a4 := Hzw3.out
    refine ⟨hf.blk (by omega) ((blk_set_ne _ _ (by omega)).trans ((Fr.refl Nob w4).alloc _ |>.blk id Hx4.out)), hf.blk (by omega) ((blk_set_ne _ _ (by omega)).trans ((Fr.refl Nob w4).alloc _ |>.blk id Hb4.out)), hf.blk H.out.ne (blk_set (((Fr.refl Nob w4).alloc _).blk id (Hf4.out.blk id H.out.blk)) 0 _), hf.blk (by omega) ((blk_set_ne _ _ (by omega)).trans (heap_alloc_new _ _))⟩
  have hdi : decide ((i : Int) < (i' : Int)) = true := decide_eq_true (by omega)
  clear hfa
  go_wp2_with (refine map_del rfl (.tmp 51) (.tmp 52) rfl mb nm f rfl (Hmd.out _) x.1 rfl hkx ?_; intro w5 hm5 hf5; obtain ⟨hx5, hr5, hb5, hl5⟩ := Hpre.out _ _ hf5; have u0 := blk_cell hx5 0 rfl; have u1 := blk_cell hx5 1 rfl; have u2 := blk_cell hx5 2 rfl; have t0 := blk_cell hr5 0 rfl; have t1 := blk_cell hr5 1 rfl; have t2 := blk_cell hr5 2 rfl; have s0 := blk_cell hl5 0 rfl; have s1 := blk_cell hl5 1 rfl; have s2 := blk_cell hl5 2 rfl; have z0 := blk_froz hr5 0; have z1 := blk_froz hr5 1; have z2 := blk_froz hr5 2; have Hb5 := Lib.hid hb5; have Hx5 := Lib.hid hx5; have Hr5 := Lib.hid hr5; have Hl5 := Lib.hid hl5; clear hx5 hr5 hb5 hl5; have Hm5 := Lib.hid hm5; have Hf5 := Lib.hid hf5; clear hm5 hf5)
  have hq5 : HeapQ w5 S b mb SL (.slice A' i' cp) (l.take i') i' seq nm (fup f x.1 none) := by
    have q := H.out
    have a1 : Sl w5 SL 208 3 (.slice (some ⟨g, off, none⟩) n cp) n (his l) := (((q.sl.fr Hf4.out fun _ _ e => e).alloc _).fr ((Fr.refl (fun k => k = b) _).setCell (p := ⟨b, 0, none⟩) (.inl rfl) (.slice A' i' cp)) fun k a e => (q.subL k a).2.1 e).fr Hf5.out fun k a e => (q.subL k a).2.2 e
    have a2 := Hcs.out _ _ _ _ a1
    rw [his_take] at a2
    have hz : w.heap.size ≤ w5.heap.size := by have := Hf4.out.size; have := Hf5.out.size; simp at this; omega
    exact ⟨q.own, q.ownM, q.ne, fun k a => by have := q.lt k a; omega, q.subL, Hb5.out, by rw [List.length_take, q.len]; omega, a2, Hm5.out⟩
  have Hq5 := Lib.hid hq5
  have Hf05 : Hid (Fr S w w5) := Lib.hid (((((Hf4.out.none).alloc _).setCell (p := ⟨b, 0, none⟩) (.inl H.out.own) _)).trans Hf5.out fun k _ e => by rw [e]; exact H.out.ownM)
  clear hq5
  have hq5 := Hq5.out
  rw [show l.take i' = [x] by rw [Hl.out, Hii.out]; rfl] at hq5
  refine (heap_put hq5 i (by omega) y hky (by omega)).mono ?_
  rintro e w6 ⟨rfl, hf6, hq6⟩
  rw [show [x].set i y = [y] by rw [Hir.out]; rfl] at hq6
  have Hf6 := Lib.hid hf6; have Hq6 := Lib.hid hq6
  clear hf6 hq6 hq5 u0 u1 u2 t0 t1 t2 s0 s1 s2 z0 z1 z2
  go_wp2_with fail
  have hup := heap_up0 Hq6.out y [] rfl hky (by omega)
  rw [show (0 : Int) = (i : Int) by rw [Hir.out]; rfl] at hup
  refine hup.mono ?_
  rintro e w7 ⟨rfl, hf7, hq7⟩
  have Hq7 := Lib.hid hq7
  have hf67 : Fr S w5 w7 := Hf6.out.trans0 hf7
  have hlS : ∀ k, w.heap.size ≤ k → ¬ S k := fun k hk q => by have := H.out.lt k q; omega
  have hx7 := hf67.blk (hlS xb (by have := Hf4.out.size; have := Hz4.out; have := Hz2.out; have := Hzw1.out; omega)) Hx5.out
  have hr7 := hf67.blk (hlS rb (by have := Hzw1.out; omega)) Hr5.out
  have hl7 := hf67.blk (hlS w4.heap.size Hf4.out.size) Hl5.out
  obtain ⟨lb, hlb⟩ : ∃ lb, lb = w4.heap.size := ⟨_, rfl⟩
  rw [← hlb] at hl7 ⊢
  have hlbS : ¬ S lb := by rw [hlb]; exact hlS _ Hf4.out.size
  have Hx7 := Lib.hid hx7; have Hr7 := Lib.hid hr7; have Hl7 := Lib.hid hl7; have Hf67 := Lib.hid hf67
  clear hf7 hq7 hf67 hx7 hr7 hl7 hlb hup
  go_wp2_with fail
  obtain ⟨f7, hf7⟩ : ∃ f7, f7 = fup (fup (fup f x.1 none) y.1 (some (i : Int))) y.1 (some (i : Int)) := ⟨_, rfl⟩
  have key : ∀ W nm' f', HeapQ W S b mb SL (.slice A' i' cp) [y] i' seq nm' f' → f' y.1 = some (i : Int) → Fr S w7 W → W.cell? ⟨b, 1, none⟩ = some (.map (some mb)) ∧ W.cell? ⟨lb, 0, none⟩ = some (.int .i64 y.1) ∧ (Go.Instr.lookup 113 (.map (some mb)) (.int .i64 y.1) false).run Tryz.prog W = .ok (.int .i64 (i : Int)) W := fun W nm' f' hQ hf hW => by
    refine ⟨blk_cell hQ.blk 1 rfl, blk_cell (hW.blk hlbS Hl7.out) 0 rfl, ?_⟩
    have := hQ.map.look y.1 hky
    rwa [hf] at this
  have HS0 := Lib.hid (key w7 _ _ Hq7.out (by rw [fup_same]) (Fr.refl _ _))
  refine wp_region_held_drew (S := fun W => W.cell? ⟨b, 1, none⟩ = some (.map (some mb)) ∧ W.cell? ⟨lb, 0, none⟩ = some (.int .i64 y.1) ∧ (Go.Instr.lookup 113 (.map (some mb)) (.int .i64 y.1) false).run Tryz.prog W = .ok (.int .i64 (i : Int)) W) (by kernel_rfl) (key _ _ _ (Hq7.out.fr0 (Fr.refl Nob w7).drew) (by rw [fup_same]) (Fr.refl _ _).drew) (fun hHeld => ?_)
  refine wpAnyH_take (i := 0) (v := ?_) rfl (by kernel_rfl) (by kernel_rfl) (by kernel_rfl) (fun _ _ _ h => h) (Or.inl ⟨by rfl, ?_⟩) (by assumption) ?_
  rotate_left
  · intro w hSw; (try dsimp only at hSw); go_simp; try with_reducible rfl
  try simp only [List.getElem_toArray, List.getElem_cons_zero, List.getElem_cons_succ, Act.put, List.setIfInBounds_toArray, List.set_cons_zero, List.set_cons_succ]
  refine wpAnyH_take (i := 1) (v := ?_) rfl (by kernel_rfl) (by kernel_rfl) (by kernel_rfl) (fun _ _ _ h => h) (Or.inl ⟨by rfl, ?_⟩) (by assumption) ?_
  rotate_left
  · intro w hSw; (try dsimp only at hSw); go_simp; try with_reducible rfl
  try simp only [List.getElem_toArray, List.getElem_cons_zero, List.getElem_cons_succ, Act.put, List.setIfInBounds_toArray, List.set_cons_zero, List.set_cons_succ]
  refine wpAnyH_take (i := 2) (v := ?_) rfl (by kernel_rfl) (by kernel_rfl) (by kernel_rfl) (fun _ _ _ h => h) (Or.inl ⟨by rfl, ?_⟩) (by assumption) ?_
  rotate_left
  · intro w hSw; (try dsimp only at hSw); go_simp; try with_reducible rfl
  try simp only [List.getElem_toArray, List.getElem_cons_zero, List.getElem_cons_succ, Act.put, List.setIfInBounds_toArray, List.set_cons_zero, List.set_cons_succ]
  refine wpAnyH_take (i := 3) (v := ?_) rfl (by kernel_rfl) (by kernel_rfl) (by kernel_rfl) (fun _ _ _ h => h) (Or.inl ⟨by rfl, ?_⟩) (by assumption) ?_
  rotate_left
  · intro w hSw; (try dsimp only at hSw); go_simp; try with_reducible rfl
  try simp only [List.getElem_toArray, List.getElem_cons_zero, List.getElem_cons_succ, Act.put, List.setIfInBounds_toArray, List.set_cons_zero, List.set_cons_succ]
  refine wpAnyH_take (i := 4) (v := ?_) rfl (by kernel_rfl) (by kernel_rfl) (by kernel_rfl) (fun _ _ _ h => h) (Or.inl ⟨by rfl, ?_⟩) (by assumption) ?_
  rotate_left
  · intro w hSw; (try dsimp only at hSw); go_simp; try with_reducible rfl
  try simp only [List.getElem_toArray, List.getElem_cons_zero, List.getElem_cons_succ, Act.put, List.setIfInBounds_toArray, List.set_cons_zero, List.set_cons_succ]
  refine wpAnyH_take (i := 5) (v := ?_) rfl (by kernel_rfl) (by kernel_rfl) (by kernel_rfl) (fun _ _ _ h => h) (Or.inl ⟨by rfl, ?_⟩) (by assumption) ?_
  rotate_left
  · intro w hSw; (try dsimp only at hSw); go_simp; try with_reducible rfl
  try simp only [List.getElem_toArray, List.getElem_cons_zero, List.getElem_cons_succ, Act.put, List.setIfInBounds_toArray, List.set_cons_zero, List.set_cons_succ]
  refine wpAnyH_take (i := 6) (v := ?_) rfl (by kernel_rfl) (by kernel_rfl) (by kernel_rfl) (fun _ _ _ h => h) (Or.inl ⟨by rfl, ?_⟩) (by assumption) ?_
  rotate_left
  · intro w hSw; (try dsimp only at hSw); go_simp; try with_reducible rfl
  try simp only [List.getElem_toArray, List.getElem_cons_zero, List.getElem_cons_succ, Act.put, List.setIfInBounds_toArray, List.set_cons_zero, List.set_cons_succ]
  refine wpAnyH_take (i := 7) (v := ?_) rfl (by kernel_rfl) (by kernel_rfl) (by kernel_rfl) (fun _ _ _ h => h) (Or.inl ⟨by rfl, ?_⟩) (by assumption) ?_
  rotate_left
  · intro w hSw; (try dsimp only at hSw); go_simp; try with_reducible rfl
  try simp only [List.getElem_toArray, List.getElem_cons_zero, List.getElem_cons_succ, Act.put, List.setIfInBounds_toArray, List.set_cons_zero, List.set_cons_succ]
  refine wpAnyH_ready (rs := [8]) (by kernel_rfl) (by simp) ?_
  refine AllReadyH.cons rfl (fun K hK => ?_) AllReadyH.nil
  simp only [List.getElem_toArray, List.getElem_cons_zero, List.getElem_cons_succ]
  go_simp
  have hdn := heap_down0 (Hq7.out.fr0 (Fr.refl Nob w7).drew) y rfl hky (by omega)
  rw [show (0 : Int) = (i : Int) by rw [Hir.out]; rfl] at hdn
  refine hdn.mono ?_
  rintro e w8 ⟨rfl, hf8, hq8⟩
  have hf8' : Fr S w7 w8 := ((Fr.refl S w7).drew).trans0 hf8
  refine hK.out _ _ (key _ _ _ hq8 (by rw [fup_same]) hf8') (fun hHeld2 => ?_)
  refine wpAnyH_done (by kernel_rfl) ?_ _
  try simp only [List.getElem_toArray, List.getElem_cons_zero, List.getElem_cons_succ, Act.put, List.setIfInBounds_toArray, List.set_cons_zero, List.set_cons_succ]
  have hx8 := hf8'.blk (hlS xb (by have := Hf4.out.size; have := Hz4.out; have := Hz2.out; have := Hzw1.out; omega)) Hx7.out
  have hr8 := hf8'.blk (hlS rb (by have := Hzw1.out; omega)) Hr7.out
  have Hf8 := Lib.hid hf8'; have Hq8 := Lib.hid hq8; have Hx8 := Lib.hid hx8; have Hr8 := Lib.hid hr8
  clear hf8 hf8' hq8 hHeld hHeld2 hK K HS0 key hx8 hr8 hdn
  have u0 := blk_cell Hx8.out 0 rfl; have u1 := blk_cell Hx8.out 1 rfl; have u2 := blk_cell Hx8.out 2 rfl
  have t0 := blk_cell Hr8.out 0 rfl; have t1 := blk_cell Hr8.out 1 rfl; have t2 := blk_cell Hr8.out 2 rfl
  have z0 := blk_froz Hr8.out 0; have z1 := blk_froz Hr8.out 1; have z2 := blk_froz Hr8.out 2
  go_wp2_with fail
  have tb := three_blk Hr8.out (.int .i64 x.1) (.int .i64 x.2.1) (.int .i64 x.2.2)
  have y0 := blk_cell tb 0 rfl; have y1 := blk_cell tb 1 rfl; have y2 := blk_cell tb 2 rfl
  have hrb : ∀ k, S k → k ≠ rb := fun k q e => by have := H.out.lt k q; have := Hzw1.out; omega
  refine bodyPost_ret (v := .tuple #[hiV x, .bool true]) (by simp [results, Tryz.results157, go_sem, y0, y1, y2]) rfl ⟨⟨_, rfl⟩, ((Hf05.out.trans0 Hf67.out).trans0 Hf8.out).trans (three_fr _ rb _ _ _) fun j hj e => ?_, mb, SL, _, _, _, Hq8.out.fr (three_fr _ rb _ _ _) hrb, fun k => ?_, fun z hz => ?_, by omega, by simp⟩
  · have := Hzw1.out; omega
  · rw [Hir.out]
    by_cases e : k = y.1
    · subst e; rw [fup_same]; simp [hPos]
    · rw [fup_ne _ _ e, fup_ne _ _ e, fup_ne _ _ e]
      simp only [hPos, if_neg (Ne.symm e), Option.map_none]
      by_cases e2 : k = x.1
      · subst e2; rw [fup_same]
      · rw [fup_ne _ _ e2, HPos.out, Hl.out]
        simp [hPos, Ne.symm e, Ne.symm e2]
  · simp at hz; subst hz; exact hy
theorem heap_remove {w : World} {S : Nat → Prop} {b : Nat} {l : List Hi} {seq nm : Nat} (h : HeapAt w S b l seq nm) (hl : l.length ≤ 2) (k : Int) (h0 : 0 ≤ k) (h1 : k < 1000) (hnm : nm < 900000) :
    Calls Tryz.prog 157 #[.pointer (some ⟨b, 0, none⟩), .int .i64 k] w fun e w' => (∃ x, e = .returned (.tuple #[hiV x, .bool (heapHas l k)])) ∧ Fr S w w' ∧ HeapAt w' S b (heapDel l k) seq (nm + 3) := by
  have hnd : (l.map fun x => x.1).Nodup := by obtain ⟨_, _, _, _, _, _, _, _, _, hnd⟩ := h; exact hnd
  cases hh : heapHas l k with
  | false =>
    refine (heap_remove_no h k h0 h1 hh).mono ?_
    rintro e w' ⟨he, hf⟩
    refine ⟨he, hf.none, ?_⟩
    rw [show heapDel l k = l from List.filter_eq_self.2 fun x hx => by
      simp only [heapHas, List.any_eq_false] at hh
      simpa using hh x hx]
    exact (h.fr0 hf).mono (by omega)
  | true =>
    match l, hl, hh, hnd, h with
    | [x], _, hh, _, h =>
      have hx : x.1 = k := by simpa [heapHas] using hh
      subst hx
      refine (heap_remove_last (r := []) h x rfl hnm (by simp)).mono ?_
      rintro e w' ⟨he, hf, ha⟩
      refine ⟨he, hf, ?_⟩
      simp only [heapDel, List.filter_cons, beq_self_eq_true, Bool.not_true, Bool.false_eq_true, if_false, List.filter_nil]
      exact ha.mono (by omega)
    | [x, y], _, hh, hnd, h =>
      have hne : x.1 ≠ y.1 := by simpa using hnd
      by_cases hx : x.1 = k
      · subst hx
        refine (heap_remove_first x y h hnm).mono ?_
        rintro e w' ⟨he, hf, ha⟩
        refine ⟨he, hf, ?_⟩
        have e1 : (y.1 == x.1) = false := by simpa using Ne.symm hne
        simp only [heapDel, List.filter_cons, beq_self_eq_true, Bool.not_true, Bool.false_eq_true, if_false, List.filter_nil, e1, Bool.not_false, if_true]
        exact ha
      · have hy : y.1 = k := by simpa [heapHas, hx] using hh
        subst hy
        refine (heap_remove_last (r := [x]) h y rfl hnm (by simp)).mono ?_
        rintro e w' ⟨he, hf, ha⟩
        refine ⟨he, hf, ?_⟩
        have e1 : (x.1 == y.1) = false := by simpa using hne
        simp only [heapDel, List.filter_cons, beq_self_eq_true, Bool.not_true, Bool.false_eq_true, if_false, List.filter_nil, e1, Bool.not_false, if_true]
        exact ha.mono (by omega)
theorem clock_next_no (w : World) (t p now : Int) (hp : p < 1) : Calls Tryz.prog 112 #[.int .i64 t, .int .i64 p, .int .i64 now] w fun e w' => e = .returned (.tuple #[.int .i64 0, .int .i64 1]) ∧ w = w' := by
  have hp' : decide (p < 1) = true := decide_eq_true hp
  go_enter Tryz.func112, Tryz.ntmps112
  go_wp2_with fail
  go_ret2
  exact ⟨rfl, rfl⟩
theorem clock_next (w : World) (t p now : Int) (hp : 1 ≤ p) (hp2 : p ≤ maxT) (ht : 0 ≤ t) (htn : t ≤ now) (hn : now ≤ maxT) : Calls Tryz.prog 112 #[.int .i64 t, .int .i64 p, .int .i64 now] w fun e w' => e = .returned (.tuple #[.int .i64 (nextT t p now), .int .i64 0]) ∧ w = w' := by
  unfold maxT at hp2 hn
  have Ha := Lib.hid (fun W a d => clock_add W a d)
  have hp' : decide (p < 1) = false := decide_eq_false (by omega)
  have h2 : ¬ t < 0 := by omega
  have h3 : ¬ now < 0 := by omega
  have h4 : ¬ (4611686018427387904 : Int) < t := by omega
  have h5 : ¬ (4611686018427387904 : Int) < p := by omega
  have h6 : ¬ (4611686018427387904 : Int) < now := by omega
  have h7 : ¬ now < t := by omega
  have hs : IntKind.i64.wrap (now - t) = now - t := by simp [IntKind.wrap, IntKind.bits, IntKind.signed]; omega
  have hpz : (p == 0) = false := by simp; omega
  have hr0 : 0 ≤ (now - t) % p := Int.emod_nonneg _ (by omega)
  have hr1 : (now - t) % p < p := Int.emod_lt_of_pos _ (by omega)
  have hm : (now - t).tmod p = (now - t) % p := Int.tmod_eq_emod_of_nonneg (by omega)
  obtain ⟨M, hM, hMx⟩ : ∃ M : Int, M ≤ 4611686018427387904 ∧ ∀ W : World, (Builtin.max_ #[3, 3, 3] 3 #[.int .i64 t, .int .i64 p, .int .i64 now]).run Tryz.prog W = .ok (.int .i64 M) W := by
    refine ⟨if now > (if p > t then p else t) then now else (if p > t then p else t), by split <;> (try split) <;> omega, fun W => ?_⟩
    simp [Builtin.max_, Builtin.max2]
  have h8 : ¬ (4611686018427387904 : Int) < M := by omega
  have hs2 : IntKind.i64.wrap (p - (now - t) % p) = p - (now - t) % p := by simp [IntKind.wrap, IntKind.bits, IntKind.signed]; omega
  unfold nextT
  clear hM
  go_enter Tryz.func112, Tryz.ntmps112
  go_wp2_with fail
  refine (Ha.out _ _ _).mono ?_
  rintro e _ ⟨rfl, rfl⟩
  go_wp2_with fail
  go_ret2
  exact ⟨rfl, rfl⟩
/-- What will be due, as it lies in blocks of a set S. -/
structure ExpP (w : World) (S : Nat → Prop) (b hb pb : Nat) (SH : Nat → Prop) (hp : List Hi) (seq : Nat) (per : Int → Option Int) (nm : Nat) : Prop where
  own : S b
  ownP : S pb
  ne : b ≠ pb
  lt : ∀ k, S k → k < w.heap.size
  subH : ∀ k, SH k → S k ∧ k ≠ b ∧ k ≠ pb
  blk : w.heap[b]? = some (.cells #[.pointer (some ⟨hb, 0, none⟩), .map (some pb)] 167 (0, 0))
  heap : HeapAt w SH hb hp seq nm
  map : MapAt w pb nm per
  len : hp.length ≤ 2
  perB : ∀ k x, per k = some x → 0 ≤ x ∧ x ≤ maxT
  whenB : ∀ x ∈ hp, 0 ≤ x.2.1 ∧ x.2.1 ≤ maxT
def ExpAt (w : World) (S : Nat → Prop) (b : Nat) (hp : List Hi) (seq : Nat) (per : Int → Option Int) (nm : Nat) : Prop := ∃ (hb pb : Nat) (SH : Nat → Prop), ExpP w S b hb pb SH hp seq per nm
section
variable {w w' : World} {S : Nat → Prop} {b hb pb : Nat} {SH : Nat → Prop} {hp : List Hi} {seq : Nat} {per : Int → Option Int} {nm : Nat}
theorem ExpP.fr (h : ExpP w S b hb pb SH hp seq per nm) {F : Nat → Prop} (hf : Fr F w w') (hd : ∀ k, S k → F k → False) : ExpP w' S b hb pb SH hp seq per nm :=
  ⟨h.own, h.ownP, h.ne, fun k q => by have := h.lt k q; have := hf.size; omega, h.subH, hf.blk (hd _ h.own) h.blk, h.heap.fr hf fun k q => hd k (h.subH k q).1, h.map.fr hf (hd _ h.ownP), h.len, h.perB, h.whenB⟩
theorem ExpP.fr0 (h : ExpP w S b hb pb SH hp seq per nm) (hf : Fr Nob w w') : ExpP w' S b hb pb SH hp seq per nm := h.fr hf fun _ _ q => q
theorem ExpAt.fr (h : ExpAt w S b hp seq per nm) {F : Nat → Prop} (hf : Fr F w w') (hd : ∀ k, S k → F k → False) : ExpAt w' S b hp seq per nm := by
  obtain ⟨hb, pb, SH, h⟩ := h; exact ⟨hb, pb, SH, h.fr hf hd⟩
theorem ExpAt.fr0 (h : ExpAt w S b hp seq per nm) (hf : Fr Nob w w') : ExpAt w' S b hp seq per nm := h.fr hf fun _ _ q => q
theorem ExpAt.own (h : ExpAt w S b hp seq per nm) : S b := by obtain ⟨hb, pb, SH, h⟩ := h; exact h.own
theorem ExpAt.lt (h : ExpAt w S b hp seq per nm) : ∀ k, S k → k < w.heap.size := by obtain ⟨hb, pb, SH, h⟩ := h; exact h.lt
theorem ExpP.mono (h : ExpP w S b hb pb SH hp seq per nm) {m : Nat} (hm : nm ≤ m) : ExpP w S b hb pb SH hp seq per m := ⟨h.own, h.ownP, h.ne, h.lt, h.subH, h.blk, h.heap.mono hm, h.map.mono hm, h.len, h.perB, h.whenB⟩
theorem ExpAt.mono (h : ExpAt w S b hp seq per nm) {m : Nat} (hm : nm ≤ m) : ExpAt w S b hp seq per m := by obtain ⟨hb, pb, SH, h⟩ := h; exact ⟨hb, pb, SH, h.mono hm⟩
/-- The heap has turned. -/
theorem ExpP.toHeap (h : ExpP w S b hb pb SH hp seq per nm) (hf : Fr SH w w') {hp' : List Hi} {nm' : Nat} (hh : HeapAt w' SH hb hp' seq nm') (hn : nm ≤ nm') (hl : hp'.length ≤ 2) (hw : ∀ x ∈ hp', 0 ≤ x.2.1 ∧ x.2.1 ≤ maxT) : ExpP w' S b hb pb SH hp' seq per nm' :=
  ⟨h.own, h.ownP, h.ne, fun k q => by have := h.lt k q; have := hf.size; omega, h.subH, hf.blk (fun q => (h.subH _ q).2.1 rfl) h.blk, hh, (h.map.fr hf fun q => (h.subH _ q).2.2 rfl).mono hn, hl, h.perB, hw⟩
theorem ExpP.growHeap (h : ExpP w S b hb pb SH hp seq per nm) {SH' : Nat → Prop} (hf : Fr SH w w') {hp' : List Hi} {seq' nm' : Nat} (hh : HeapAt w' SH' hb hp' seq' nm') (hsub : ∀ k, SH' k → SH k ∨ w.heap.size ≤ k) (hn : nm ≤ nm') (hl : hp'.length ≤ 2) (hw : ∀ x ∈ hp', 0 ≤ x.2.1 ∧ x.2.1 ≤ maxT) : ExpP w' (And' S w w') b hb pb SH' hp' seq' per nm' := by
  have hz := hf.size
  refine ⟨.inl h.own, .inl h.ownP, h.ne, fun k q => ?_, fun k q => ?_, hf.blk (fun q => (h.subH _ q).2.1 rfl) h.blk, hh, (h.map.fr hf fun q => (h.subH _ q).2.2 rfl).mono hn, hl, h.perB, hw⟩
  · rcases q with q | q
    · have := h.lt k q; omega
    · exact q.2
  · rcases hsub k q with q' | q'
    · exact ⟨.inl (h.subH k q').1, (h.subH k q').2⟩
    · exact ⟨.inr ⟨q', hh.lt k q⟩, fun e => by have := h.lt b h.own; omega, fun e => by have := h.lt pb h.ownP; omega⟩
/-- The periods have turned. -/
theorem ExpP.toMap (h : ExpP w S b hb pb SH hp seq per nm) (hf : Fr (fun k => k = pb) w w') {per' : Int → Option Int} {nm' : Nat} (hm : MapAt w' pb nm' per') (hn : nm ≤ nm') (hp' : ∀ k x, per' k = some x → 0 ≤ x ∧ x ≤ maxT) : ExpP w' S b hb pb SH hp seq per' nm' :=
  ⟨h.own, h.ownP, h.ne, fun k q => by have := h.lt k q; have := hf.size; omega, h.subH, hf.blk h.ne h.blk, (h.heap.fr hf fun k q e => (h.subH k q).2.2 e).mono hn, hm, h.len, hp', h.whenB⟩
theorem ExpP.ptr (h : ExpP w S b hb pb SH hp seq per nm) : w.cell? ⟨b, 0, none⟩ = some (.pointer (some ⟨hb, 0, none⟩)) ∧ w.cell? ⟨b, 1, none⟩ = some (.map (some pb)) := ⟨blk_cell h.blk 0 rfl, blk_cell h.blk 1 rfl⟩
end
theorem exp_new (w : World) : Calls Tryz.prog 43 #[] w fun e w' => ∃ (b : Nat) (S : Nat → Prop), e = .returned (.pointer (some ⟨b, 0, none⟩)) ∧ Fr Nob w w' ∧ ExpAt w' S b [] 0 (fun _ => none) 0 ∧ ∀ k, S k → w.heap.size ≤ k := by
  have hmm := @run_makeMap Tryz.prog
  have Hh := Lib.hid (heap_new w)
  go_enter Tryz.func43, Tryz.ntmps43
  go_wp2_with fail
  refine Hh.out.mono ?_
  rintro e w1 ⟨hb, SH, rfl, hf1, ha1, hs1⟩
  have Hf1 := Lib.hid hf1; have Ha1 := Lib.hid ha1; have Hs1 := Lib.hid hs1
  clear hf1 ha1 hs1
  go_wp2_with fail
  go_ret
  have hz := Hf1.out.size
  refine ⟨w1.heap.size + 1, fun k => (SH k ∨ w1.heap.size ≤ k) ∧ k < w1.heap.size + 2 ∧ w.heap.size ≤ k, by simp, (Hf1.out.alloc _).alloc _, ⟨hb, w1.heap.size, SH, ⟨.inr (by omega), by omega, by omega⟩, ⟨.inr (by omega), by omega, by omega⟩, by omega, fun k q => by simp; omega, fun k q => ?_, blk_alloc_eq _ (by simp), (Ha1.out.fr0 ((Fr.refl Nob w1).alloc _)).fr0 ((Fr.refl Nob _).alloc _), (MapAt.made w1).fr0 ((Fr.refl Nob _).alloc _), by simp, fun k x q => by simp at q, fun x hx => by simp at hx⟩, fun k q => q.2.2⟩
  have := Ha1.out.lt k q
  have := Hs1.out k q
  exact ⟨⟨.inl q, by omega, by omega⟩, by omega, by omega⟩
theorem heapDel_len (l : List Hi) (k : Int) : (heapDel l k).length ≤ l.length := List.length_filter_le _ _
theorem heapDel_mem {l : List Hi} {k : Int} {x : Hi} (h : x ∈ heapDel l k) : x ∈ l := (List.mem_filter.1 h).1
theorem exp_stop {w : World} {S : Nat → Prop} {b : Nat} {hp : List Hi} {seq : Nat} {per : Int → Option Int} {nm : Nat} (h : ExpAt w S b hp seq per nm) (k : Int) (h0 : 0 ≤ k) (h1 : k < 1000) (hnm : nm < 900000) :
    Calls Tryz.prog 158 #[.pointer (some ⟨b, 0, none⟩), .int .i64 k] w fun e w' => e = .returned (.bool (heapHas hp k)) ∧ Fr S w w' ∧ ExpAt w' S b (heapDel hp k) seq (delP per k) (nm + 3) := by
  obtain ⟨hb, pb, SH, h⟩ := h
  have Hr := Lib.hid (heap_remove h.heap h.len k h0 h1 hnm)
  obtain ⟨c0, c1⟩ := h.ptr
  have H := Lib.hid h
  have hk : (Lit.int .i64 k).wf = true := wf_small (by omega) (by omega)
  clear h
  go_enter Tryz.func158, Tryz.ntmps158
  go_wp2_with fail
  refine Hr.out.mono ?_
  rintro e w1 ⟨⟨x, rfl⟩, hf1, ha1⟩
  have hq1 := H.out.toHeap hf1 ha1 (by omega) (Nat.le_trans (heapDel_len _ _) H.out.len) fun y hy => H.out.whenB y (heapDel_mem hy)
  have hz := ((Fr.refl Nob w1).alloc (.cells #[.int .i64 x.1, .int .i64 x.2.1, .int .i64 x.2.2] 208))
  have Hq2 := Lib.hid (hq1.fr0 hz)
  have Hf2 := Lib.hid (hf1.alloc (.cells #[.int .i64 x.1, .int .i64 x.2.1, .int .i64 x.2.2] 208))
  have d1 := Hq2.out.ptr.2
  clear hf1 ha1 hq1 hz c0 c1
  go_wp2_with (refine map_del rfl (.tmp 21) (.tmp 22) rfl pb (nm + 3) per rfl Hq2.out.map k rfl hk ?_; intro w3 hm3 hf3; have Hm3 := Lib.hid hm3; have Hf3 := Lib.hid hf3; clear hm3 hf3)
  go_ret
  refine ⟨rfl, (Hf2.out.mono fun k _ q => (H.out.subH k q).1).trans Hf3.out fun j _ e => by rw [e]; exact H.out.ownP, hb, pb, SH, Hq2.out.toMap Hf3.out Hm3.out (Nat.le_refl _) fun j y hy => ?_⟩
  have hy : fup per k none j = some y := hy
  by_cases e : j = k
  · subst e; rw [fup_same] at hy; cases hy
  · rw [fup_ne _ _ e] at hy; exact H.out.perB j y hy
section
variable {w : World} {S : Nat → Prop} {b : Nat} {hp : List Hi} {seq : Nat} {per : Int → Option Int} {nm : Nat} (h : ExpAt w S b hp seq per nm)
include h
theorem exp_next (x : Hi) (r : List Hi) (hl : hp = x :: r) : Calls Tryz.prog 110 #[.pointer (some ⟨b, 0, none⟩)] w fun e w' => e = .returned (.tuple #[.int .i64 x.2.1, .bool true]) ∧ Fr Nob w w' := by
  obtain ⟨hb, pb, SH, h⟩ := h
  obtain ⟨c0, c1⟩ := h.ptr
  have hm := h.heap
  obtain ⟨mb, SL, v, n, f, hq, _⟩ := hm
  have Hm := Lib.hid (heap_min hq x r hl)
  clear h hq
  go_enter Tryz.func110, Tryz.ntmps110
  go_wp2_with fail
  refine Hm.out.mono ?_
  rintro e w1 ⟨rfl, hf1⟩
  have Hf1 := Lib.hid hf1
  clear hf1
  go_wp2_with fail
  go_ret2
  exact ⟨rfl, Hf1.out.alloc _⟩
theorem exp_next_none (hl : hp = []) : Calls Tryz.prog 110 #[.pointer (some ⟨b, 0, none⟩)] w fun e w' => e = .returned (.tuple #[.int .i64 0, .bool false]) ∧ Fr Nob w w' := by
  obtain ⟨hb, pb, SH, h⟩ := h
  obtain ⟨c0, c1⟩ := h.ptr
  have hm := h.heap
  obtain ⟨mb, SL, v, n, f, hq, _⟩ := hm
  have Hm := Lib.hid (heap_min_none hq (by rw [← hq.len, hl]; rfl))
  clear h hq
  go_enter Tryz.func110, Tryz.ntmps110
  go_wp2_with fail
  refine Hm.out.mono ?_
  rintro e w1 ⟨rfl, hf1⟩
  have Hf1 := Lib.hid hf1
  clear hf1
  go_wp2_with fail
  go_ret2
  exact ⟨rfl, Hf1.out.alloc _⟩
set_option maxHeartbeats 1000000 in
theorem exp_arm (k t p : Int) (h0 : 0 ≤ k) (h1 : k < 1000) (ht : 0 ≤ t) (ht2 : t ≤ maxT) (hp0 : 0 ≤ p) (hp2 : p ≤ maxT) (hnm : nm < 800000) {l' : List Hi} (hl' : heapAdd (heapDel hp k) (k, t, ((seq + 1 : Nat) : Int)) = some l') :
    Calls Tryz.prog 113 #[.pointer (some ⟨b, 0, none⟩), .int .i64 k, .int .i64 t, .int .i64 p] w fun e w' => ∃ S' : Nat → Prop, e = .returned (.int .i64 0) ∧ Fr S w w' ∧ ExpAt w' S' b l' (seq + 1) (putP per k p) (nm + 6) ∧ ∀ k, S' k → S k ∨ w.heap.size ≤ k := by
  have Hs := Lib.hid (exp_stop h k h0 h1 (by omega))
  have hk : (Lit.int .i64 k).wf = true := wf_small (by omega) (by omega)
  unfold maxT at ht2 hp2
  have hkp : (Lit.int .i64 p).wf = true := wf_small (by omega) (by omega)
  obtain ⟨m, hm0, hmx⟩ : ∃ m : Int, 0 ≤ m ∧ ∀ W : World, (Builtin.min_ #[3, 3] 3 #[.int .i64 t, .int .i64 p]).run Tryz.prog W = .ok (.int .i64 m) W :=
    ⟨if p < t then p else t, by split <;> omega, fun W => by simp [Builtin.min_, Builtin.min2]⟩
  obtain ⟨M, hM0, hMx⟩ : ∃ m : Int, m ≤ 4611686018427387904 ∧ ∀ W : World, (Builtin.max_ #[3, 3] 3 #[.int .i64 t, .int .i64 p]).run Tryz.prog W = .ok (.int .i64 m) W :=
    ⟨if p > t then p else t, by split <;> omega, fun W => by simp [Builtin.max_, Builtin.max2]⟩
  have hm1 : ¬ m < 0 := by omega
  have hM1 : ¬ (4611686018427387904 : Int) < M := by omega
  clear hm0 hM0
  go_enter Tryz.func113, Tryz.ntmps113
  go_wp2_with fail
  refine Hs.out.mono ?_
  rintro e w1 ⟨rfl, hf1, hb, pb, SH, h1'⟩
  have Hf1 := Lib.hid hf1; have H1 := Lib.hid h1'
  obtain ⟨c0, c1⟩ := h1'.ptr
  clear hf1 h1'
  go_wp2_with (refine map_put rfl (.tmp 29) (.tmp 30) (.tmp 31) rfl pb (nm + 3) (delP per k) rfl H1.out.map (by omega) k p rfl rfl hk hkp ?_; intro w2 hm2 hf2; have c2 := hf2.cell H1.out.ne c0; have Hm2 := Lib.hid hm2; have Hf2 := Lib.hid hf2; clear hm2 hf2)
  have hno : heapHas (heapDel hp k) k = false := by
    simp only [heapHas, heapDel, List.any_eq_false]
    intro x hx
    simpa using (List.mem_filter.1 hx).2
  have h2 := H1.out.toMap Hf2.out Hm2.out (by omega) fun j y hy => by
    have hy : fup (fup per k none) k (some p) j = some y := hy
    by_cases e : j = k
    · subst e; rw [fup_same] at hy; cases hy; unfold maxT; omega
    · rw [fup_ne _ _ e] at hy; exact H1.out.perB j y hy
  have H2 := Lib.hid h2
  refine (heap_add h2.heap k t h0 h1 hno hl' (by omega)).mono ?_
  rintro e w3 ⟨SH', rfl, hf3, ha3, hs3⟩
  have Hf3 := Lib.hid hf3; have Ha3 := Lib.hid ha3; have Hs3 := Lib.hid hs3
  clear h2 hf3 ha3 hs3
  go_wp2_with fail
  go_ret
  have hlen : l'.length ≤ 2 ∧ ∀ x ∈ l', x = (k, t, ((seq + 1 : Nat) : Int)) ∨ x ∈ heapDel hp k := by
    have := hl'
    match hd : heapDel hp k, this with
    | [], this => simp [heapAdd] at this; subst this; simp
    | [y], this =>
      simp [heapAdd] at this
      subst this
      split <;> simp
    | y :: z :: r, this => simp [heapAdd] at this
  have h3 := H2.out.growHeap Hf3.out Ha3.out Hs3.out (nm' := nm + 6) (by omega) hlen.1 fun x hx => by
    rcases hlen.2 x hx with rfl | hx
    · unfold maxT; exact ⟨ht, ht2⟩
    · exact H1.out.whenB x hx
  refine ⟨And' S w2 w3, rfl, (Hf1.out.trans Hf2.out fun j _ e => by rw [e]; exact H1.out.ownP).trans Hf3.out fun j _ q => (H2.out.subH j q).1, ⟨hb, pb, SH', ?_⟩, fun j q => ?_⟩
  · have e1 : fup (fup per k none) k (some p) = putP per k p := by
      funext j
      unfold putP fup
      split <;> rfl
    rw [← e1]
    exact h3
  · have := Hf1.out.size; have := Hf2.out.size
    rcases q with q | q
    · exact .inl q
    · exact .inr (by omega)
end
theorem heap_pop {w : World} {S : Nat → Prop} {b : Nat} {l : List Hi} {seq nm : Nat} (h : HeapAt w S b l seq nm) (hl : l.length ≤ 2) (x : Hi) (r : List Hi) (hx : l = x :: r) (hnm : nm < 900000) :
    Calls Tryz.prog 111 #[.pointer (some ⟨b, 0, none⟩)] w fun e w' => e = .returned (.tuple #[hiV x, .bool true]) ∧ Fr S w w' ∧ HeapAt w' S b (heapDel l x.1) seq (nm + 3) := by
  have Hm := Lib.hid (fun W (hW : Fr Nob w W) => by
    obtain ⟨mb, SL, v, n, f, hq, _⟩ := h.fr0 hW
    exact heap_min hq x r hx)
  have hid : 0 ≤ x.1 ∧ x.1 < 1000 := by obtain ⟨mb, SL, v, n, f, hq, _, hids, _⟩ := h; exact hids x (by rw [hx]; simp)
  have Hr := Lib.hid (fun W (hW : Fr Nob w W) => heap_remove (h.fr0 hW) hl x.1 hid.1 hid.2 hnm)
  have H := Lib.hid h
  clear h hx hl
  go_enter Tryz.func111, Tryz.ntmps111
  go_wp2_with fail
  obtain ⟨w1, hw1⟩ : ∃ w1, w1 = w.alloc (.cells #[.int .i64 0, .int .i64 0, .int .i64 0] 208) := ⟨_, rfl⟩
  rw [← hw1]
  obtain ⟨rb, hrb⟩ : ∃ rb, rb = w.heap.size := ⟨_, rfl⟩
  rw [← hrb]
  have hfw1 : Fr Nob w w1 := by rw [hw1]; exact (Fr.refl Nob w).alloc _
  have hbw1 : w1.heap[rb]? = some (.cells #[.int .i64 0, .int .i64 0, .int .i64 0] 208 (0, 0)) := by rw [hw1, hrb]; exact heap_alloc_new _ _
  have Hfw1 := Lib.hid hfw1; have Hbw1 := Lib.hid hbw1; have Hzw1 : Hid (w.heap.size = rb ∧ rb < w1.heap.size) := ⟨hrb.symm, lt_of_block hbw1⟩
  clear hw1 hrb hfw1 hbw1
  refine (Hm.out _ Hfw1.out).mono ?_
  rintro e w2 ⟨rfl, hf2⟩
  have Hb2 := Lib.hid (hf2.blk id Hbw1.out); have Hf2 := Lib.hid (Hfw1.out.trans0 hf2); have Hz2 := Lib.hid hf2.size
  have tz := heap_alloc_new w2 (.cells #[.int .i64 x.1, .int .i64 x.2.1, .int .i64 x.2.2] 208)
  have t0 := blk_cell tz 0 rfl
  clear hf2 tz
  go_wp2_with fail
  obtain ⟨w3, hw3⟩ : ∃ w3, w3 = w2.alloc (.cells #[.int .i64 x.1, .int .i64 x.2.1, .int .i64 x.2.2] 208) := ⟨_, rfl⟩
  rw [← hw3]
  obtain ⟨xb, hxb⟩ : ∃ xb, xb = w2.heap.size := ⟨_, rfl⟩
  rw [← hxb]
  have hfw3 : Fr Nob w2 w3 := by rw [hw3]; exact (Fr.refl Nob w2).alloc _
  have hbw3 : w3.heap[xb]? = some (.cells #[.int .i64 x.1, .int .i64 x.2.1, .int .i64 x.2.2] 208 (0, 0)) := by rw [hw3, hxb]; exact heap_alloc_new _ _
  have Hfw3 := Lib.hid hfw3; have Hbw3 := Lib.hid hbw3; have Hzw3 : Hid (w2.heap.size = xb ∧ xb < w3.heap.size) := ⟨hxb.symm, lt_of_block hbw3⟩
  clear hw3 hxb hfw3 hbw3
  refine (Hr.out _ (Hf2.out.trans0 Hfw3.out)).mono ?_
  rintro e w4 ⟨⟨y, rfl⟩, hf4, ha4⟩
  have hS : ∀ k, S k → k < w.heap.size := H.out.lt
  have hx4 := hf4.blk (k := xb) (fun q => by have := hS _ q; have := Hzw3.out; have := Hz2.out; have := Hzw1.out; omega) Hbw3.out
  have hr4 := hf4.blk (k := rb) (fun q => by have := hS _ q; have := Hzw1.out; omega) (Hfw3.out.blk id Hb2.out)
  have u0 := blk_cell hx4 0 rfl; have u1 := blk_cell hx4 1 rfl; have u2 := blk_cell hx4 2 rfl
  have v0 := blk_cell hr4 0 rfl; have v1 := blk_cell hr4 1 rfl; have v2 := blk_cell hr4 2 rfl
  have z0 := blk_froz hr4 0; have z1 := blk_froz hr4 1; have z2 := blk_froz hr4 2
  have Hf4 := Lib.hid hf4; have Ha4 := Lib.hid ha4; have Hr4 := Lib.hid hr4
  clear hf4 ha4 hx4 hr4
  go_wp2_with fail
  have tb := three_blk Hr4.out (.int .i64 x.1) (.int .i64 x.2.1) (.int .i64 x.2.2)
  have y0 := blk_cell tb 0 rfl; have y1 := blk_cell tb 1 rfl; have y2 := blk_cell tb 2 rfl
  have hrb : ∀ k, S k → k ≠ rb := fun k q e => by have := hS k q; have := Hzw1.out; omega
  refine bodyPost_ret (v := .tuple #[hiV x, .bool true]) (by simp [results, Tryz.results111, go_sem, y0, y1, y2]) rfl ⟨rfl, ((Hf2.out.trans0 Hfw3.out).none.trans0 Hf4.out).trans (three_fr _ rb _ _ _) fun j hj e => ?_, Ha4.out.fr (three_fr _ rb _ _ _) hrb⟩
  have := Hzw1.out; omega
abbrev dueV (x : Hi) (now : Int) : Value := .agg #[.int .i64 x.1, .int .i64 x.2.1, .int .i64 now]
abbrev dueZ : Value := .agg #[.int .i64 0, .int .i64 0, .int .i64 0]
theorem exp_take_none {w : World} {S : Nat → Prop} {b : Nat} {hp : List Hi} {seq : Nat} {per : Int → Option Int} {nm : Nat} (h : ExpAt w S b hp seq per nm) (now : Int) (hn : 0 ≤ now) (hno : ∀ x r, hp = x :: r → now < x.2.1) :
    Calls Tryz.prog 71 #[.pointer (some ⟨b, 0, none⟩), .int .i64 now] w fun e w' => e = .returned (.tuple #[dueZ, .bool false]) ∧ Fr Nob w w' := by
  have hn0 : ¬ now < 0 := by omega
  cases hp with
  | nil =>
    have Hx := Lib.hid (fun W (hW : Fr Nob w W) => exp_next_none (h.fr0 hW) rfl)
    clear h hno
    go_enter Tryz.func71, Tryz.ntmps71
    go_wp2_with fail
    obtain ⟨w1, hw1⟩ : ∃ w1, w1 = w.alloc (.cells #[.int .i64 0, .int .i64 0, .int .i64 0] 175) := ⟨_, rfl⟩
    rw [← hw1]
    obtain ⟨rb, hrb⟩ : ∃ rb, rb = w.heap.size := ⟨_, rfl⟩
    rw [← hrb]
    have hfw1 : Fr Nob w w1 := by rw [hw1]; exact (Fr.refl Nob w).alloc _
    have hbw1 : w1.heap[rb]? = some (.cells #[.int .i64 0, .int .i64 0, .int .i64 0] 175 (0, 0)) := by rw [hw1, hrb]; exact heap_alloc_new _ _
    have Hfw1 := Lib.hid hfw1; have Hbw1 := Lib.hid hbw1; have Hzw1 : Hid (w.heap.size = rb ∧ rb < w1.heap.size) := ⟨hrb.symm, lt_of_block hbw1⟩
    clear hw1 hrb hfw1 hbw1
    refine (Hx.out _ Hfw1.out).mono ?_
    rintro e w2 ⟨rfl, hf2⟩
    have hb2 := hf2.blk id Hbw1.out
    have v0 := blk_cell hb2 0 rfl; have v1 := blk_cell hb2 1 rfl; have v2 := blk_cell hb2 2 rfl
    have z0 := blk_froz hb2 0; have z1 := blk_froz hb2 1; have z2 := blk_froz hb2 2
    have Hf2 := Lib.hid hf2; have Hb2 := Lib.hid hb2
    clear hf2 hb2
    go_wp2_with fail
    have tb := three_blk Hb2.out (.int .i64 0) (.int .i64 0) (.int .i64 0)
    have y0 := blk_cell tb 0 rfl; have y1 := blk_cell tb 1 rfl; have y2 := blk_cell tb 2 rfl
    refine bodyPost_ret (v := .tuple #[dueZ, .bool false]) (by simp [results, Tryz.results71, go_sem, y0, y1, y2]) rfl ⟨rfl, (Hfw1.out.trans0 Hf2.out).trans (three_fr _ rb _ _ _) fun j hj e => by have := Hzw1.out; omega⟩
  | cons x r =>
    have hlt := hno x r rfl
    have Hx := Lib.hid (fun W (hW : Fr Nob w W) => exp_next (h.fr0 hW) x r rfl)
    clear h hno
    go_enter Tryz.func71, Tryz.ntmps71
    go_wp2_with fail
    obtain ⟨w1, hw1⟩ : ∃ w1, w1 = w.alloc (.cells #[.int .i64 0, .int .i64 0, .int .i64 0] 175) := ⟨_, rfl⟩
    rw [← hw1]
    obtain ⟨rb, hrb⟩ : ∃ rb, rb = w.heap.size := ⟨_, rfl⟩
    rw [← hrb]
    have hfw1 : Fr Nob w w1 := by rw [hw1]; exact (Fr.refl Nob w).alloc _
    have hbw1 : w1.heap[rb]? = some (.cells #[.int .i64 0, .int .i64 0, .int .i64 0] 175 (0, 0)) := by rw [hw1, hrb]; exact heap_alloc_new _ _
    have Hfw1 := Lib.hid hfw1; have Hbw1 := Lib.hid hbw1; have Hzw1 : Hid (w.heap.size = rb ∧ rb < w1.heap.size) := ⟨hrb.symm, lt_of_block hbw1⟩
    clear hw1 hrb hfw1 hbw1
    refine (Hx.out _ Hfw1.out).mono ?_
    rintro e w2 ⟨rfl, hf2⟩
    have hb2 := hf2.blk id Hbw1.out
    have v0 := blk_cell hb2 0 rfl; have v1 := blk_cell hb2 1 rfl; have v2 := blk_cell hb2 2 rfl
    have z0 := blk_froz hb2 0; have z1 := blk_froz hb2 1; have z2 := blk_froz hb2 2
    have Hf2 := Lib.hid hf2; have Hb2 := Lib.hid hb2
    clear hf2 hb2
    go_wp2_with fail
    have tb := three_blk Hb2.out (.int .i64 0) (.int .i64 0) (.int .i64 0)
    have y0 := blk_cell tb 0 rfl; have y1 := blk_cell tb 1 rfl; have y2 := blk_cell tb 2 rfl
    refine bodyPost_ret (v := .tuple #[dueZ, .bool false]) (by simp [results, Tryz.results71, go_sem, y0, y1, y2]) rfl ⟨rfl, (Hfw1.out.trans0 Hf2.out).trans (three_fr _ rb _ _ _) fun j hj e => by have := Hzw1.out; omega⟩
end Go.Proofs.YtcffplgimbbflaaGreat
