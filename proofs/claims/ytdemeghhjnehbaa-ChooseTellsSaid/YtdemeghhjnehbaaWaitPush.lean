/- What Push does to a queue of those who wait. -/
import Derived.Test.YtdemeghhjnehbaaWait
set_option linter.unusedVariables false
set_option linter.unusedSimpArgs false
namespace Go.Proofs.Ytdemeghhjnehbaa
open Go.RowKit
set_option maxRecDepth 100000
set_option maxHeartbeats 2000000 in
theorem wait_push (w : World) (S : Nat → Prop) (b : Nat) (ws : List Wt) (x : Wt) (n : Nat) (hn : ws.length = n) (h : WaitAt w S b ws) (hlt : n < 100000) :
    Calls Try.prog 69 #[.pointer (some ⟨b, 0, none⟩), wtVal x] w fun e w' => e = .returned (.int .i64 ((n : Int) + 1)) ∧ Fr S w w' ∧ WaitAt w' (And' S w w') b (ws ++ [x]) := by
  obtain ⟨xs, h, rfl⟩ := h
  rw [List.length_map] at hn
  obtain ⟨t, c, v⟩ := x
  have c1 := blk_cell h.blk 1 rfl
  have lb := lt_of_block h.blk
  have hS := h.own
  have Hh := Lib.hid h; have Hn := Lib.hid hn
  clear h hn
  rcases Nat.eq_zero_or_pos n with h0 | h0
  · subst h0
    have hx : xs = [] := List.eq_nil_of_length_eq_zero Hn.out
    subst hx
    rw [lastB_nil, ptr_none] at c1
    go_enter Try.func69, Try.ntmps69
    go_wp2_with fail
    obtain ⟨wa, hwa⟩ : ∃ wa, wa = w.alloc (.cells #[.int .i64 t, .int .i64 c, .int .i64 v] 63) := ⟨_, rfl⟩
    rw [← hwa]
    have hba : wa.heap[w.heap.size]? = some (.cells #[.int .i64 t, .int .i64 c, .int .i64 v] 63 (0, 0)) := by rw [hwa]; exact heap_alloc_new _ _
    have p0 := blk_cell hba 0 rfl
    have p1 := blk_cell hba 1 rfl
    have p2 := blk_cell hba 2 rfl
    have hfa : Fr Nob w wa := by rw [hwa]; exact (Fr.refl _ _).alloc _
    have d1 := hfa.cell id c1
    have hza : wa.heap.size = w.heap.size + 1 := by rw [hwa]; simp
    have Hza := Lib.hid hza; have Hfa := Lib.hid hfa
    clear hwa hba hza hfa c1
    go_region
    obtain ⟨wb, hwb⟩ : ∃ wb, wb = (wa.alloc (.cells #[.int .i64 t, .int .i64 c, .int .i64 v, .pointer none, .pointer none] 126)).drew := ⟨_, rfl⟩
    rw [← hwb]
    have hbb : wb.heap[wa.heap.size]? = some (.cells #[.int .i64 t, .int .i64 c, .int .i64 v, .pointer none, .pointer none] 126 (0, 0)) := by rw [hwb]; exact heap_alloc_new wa _
    have hfb : Fr Nob w wb := by rw [hwb]; exact Hfa.out.trans0 ((Fr.refl _ _).alloc _).drew
    have hzb : wb.heap.size = wa.heap.size + 1 := by rw [hwb]; simp
    obtain ⟨nb, hnb⟩ : ∃ nb, nb = wa.heap.size := ⟨_, rfl⟩
    rw [← hnb] at hbb hzb ⊢
    have hnb1 : w.heap.size ≤ nb := by rw [hnb, Hza.out]; omega
    have hnbb : nb ≠ b := by omega
    have hbq := hfb.blk id Hh.out.blk
    have hq0 : wb.heap[b]? = some (.cells #[ptr (firstB []), .pointer none, .int .i64 ((0 : Nat) : Int)] 119 (0, 0)) := by rw [hbq]; unfold queueObj; rfl
    have e0 := blk_cell hq0 0 rfl
    have e1 := blk_cell hq0 1 rfl
    have e2 := blk_cell hq0 2 rfl
    have f0 := blk_froz hq0 0
    have f1 := blk_froz hq0 1
    have f2 := blk_froz hq0 2
    have Hbb := Lib.hid hbb; have Hfb := Lib.hid hfb; have Hzb := Lib.hid hzb; have Hq0 := Lib.hid hq0; have Hnb := Lib.hid hnb
    clear hwb hbb hfb hzb hq0 hbq hnb d1 p0 p1 p2
    go_wp2_with fail
    go_ret
    have q1 := blk_set Hq0.out 0 (.pointer (some ⟨nb, 0, none⟩))
    have q2 := blk_set q1 1 (.pointer (some ⟨nb, 0, none⟩))
    have q3 := blk_set q2 2 (.int .i64 ((0 : Nat) + 1 : Int))
    have hfr : Fr S w (((wb.setCell ⟨b, 0, none⟩ (.pointer (some ⟨nb, 0, none⟩))).setCell ⟨b, 1, none⟩ (.pointer (some ⟨nb, 0, none⟩))).setCell ⟨b, 2, none⟩ (.int .i64 ((0 : Nat) + 1 : Int))) :=
      ((Hfb.out.none.setCell (p := ⟨b, 0, none⟩) (.inl hS) _).setCell (p := ⟨b, 1, none⟩) (.inl hS) _).setCell (p := ⟨b, 2, none⟩) (.inl hS) _
    refine ⟨rfl, hfr, [(nb, (t, c, v))], ?_, rfl⟩
    refine QAt.snoc (xs := []) Hh.out (by simp) hfr hnb1 q3 ?_ (fun n y hn => by simp at hn) (fun j y hj => by simp at hj)
    rw [blk_set_ne _ _ hnbb, blk_set_ne _ _ hnbb, blk_set_ne _ _ hnbb]
    exact Hbb.out
  · obtain ⟨m, rfl⟩ : ∃ m, n = m + 1 := ⟨n - 1, by omega⟩
    have hml : m < xs.length := by have := Hn.out; omega
    obtain ⟨y, hy⟩ : ∃ y, xs[m]? = some y := ⟨xs[m], List.getElem?_eq_getElem hml⟩
    have hlb := lastB_pos xs m y Hn.out hy
    have hxn : nextB xs m = none := by unfold nextB; rw [List.getElem?_eq_none (by have := Hn.out; omega)]; rfl
    obtain ⟨hSy, hyb, hyo⟩ := Hh.out.node m y hy
    have ylt := lt_of_block hyo
    have Hy := Lib.hid hy; have Hlb := Lib.hid hlb; have Hxn := Lib.hid hxn; have Hyo := Lib.hid hyo
    rw [hlb, ptr_some] at c1
    clear hlb hxn hyo hy
    go_enter Try.func69, Try.ntmps69
    go_wp2_with fail
    obtain ⟨wa, hwa⟩ : ∃ wa, wa = w.alloc (.cells #[.int .i64 t, .int .i64 c, .int .i64 v] 63) := ⟨_, rfl⟩
    rw [← hwa]
    have hba : wa.heap[w.heap.size]? = some (.cells #[.int .i64 t, .int .i64 c, .int .i64 v] 63 (0, 0)) := by rw [hwa]; exact heap_alloc_new _ _
    have p0 := blk_cell hba 0 rfl
    have p1 := blk_cell hba 1 rfl
    have p2 := blk_cell hba 2 rfl
    have hfa : Fr Nob w wa := by rw [hwa]; exact (Fr.refl _ _).alloc _
    have d1 := hfa.cell id c1
    have hza : wa.heap.size = w.heap.size + 1 := by rw [hwa]; simp
    have Hza := Lib.hid hza; have Hfa := Lib.hid hfa
    clear hwa hba hza hfa c1
    go_region
    obtain ⟨wb, hwb⟩ : ∃ wb, wb = (wa.alloc (.cells #[.int .i64 t, .int .i64 c, .int .i64 v, .pointer (some ⟨y.1, 0, none⟩), .pointer none] 126)).drew := ⟨_, rfl⟩
    rw [← hwb]
    have hbb : wb.heap[wa.heap.size]? = some (.cells #[.int .i64 t, .int .i64 c, .int .i64 v, .pointer (some ⟨y.1, 0, none⟩), .pointer none] 126 (0, 0)) := by rw [hwb]; exact heap_alloc_new wa _
    have hfb : Fr Nob w wb := by rw [hwb]; exact Hfa.out.trans0 ((Fr.refl _ _).alloc _).drew
    have hzb : wb.heap.size = wa.heap.size + 1 := by rw [hwb]; simp
    obtain ⟨nb, hnb⟩ : ∃ nb, nb = wa.heap.size := ⟨_, rfl⟩
    rw [← hnb] at hbb hzb ⊢
    have hnb1 : w.heap.size ≤ nb := by rw [hnb, Hza.out]; omega
    have hnbb : nb ≠ b := by omega
    have hbq := hfb.blk id Hh.out.blk
    have hq0 : wb.heap[b]? = some (.cells #[ptr (firstB xs), .pointer (some ⟨y.1, 0, none⟩), .int .i64 ((m + 1 : Nat) : Int)] 119 (0, 0)) := by rw [hbq]; unfold queueObj; rw [Hlb.out, ptr_some, Hn.out]
    have e0 := blk_cell hq0 0 rfl
    have e1 := blk_cell hq0 1 rfl
    have e2 := blk_cell hq0 2 rfl
    have f0 := blk_froz hq0 0
    have f1 := blk_froz hq0 1
    have f2 := blk_froz hq0 2
    have Hbb := Lib.hid hbb; have Hfb := Lib.hid hfb; have Hzb := Lib.hid hzb; have Hq0 := Lib.hid hq0; have Hnb := Lib.hid hnb
    have hyb2 := hfb.blk id Hyo.out
    have hy0 : wb.heap[y.1]? = some (.cells #[.int .i64 y.2.1, .int .i64 y.2.2.1, .int .i64 y.2.2.2, ptr (prevB xs m), .pointer none] 126 (0, 0)) := by rw [hyb2]; unfold nodeObj; rw [Hxn.out, ptr_none]
    have y4 := blk_cell hy0 4 rfl
    have g4 := blk_froz hy0 4
    have Hy0 := Lib.hid hy0
    have hny : nb ≠ y.1 := by omega
    have hby : b ≠ y.1 := fun e => hyb e.symm
    have hwr : IntKind.i64.wrap (((m + 1 : Nat) : Int) + 1) = ((m + 1 : Nat) : Int) + 1 := IntWalk.i64_in _ (by omega)
    have Hwr := Lib.hid hwr
    clear hwb hbb hfb hzb hq0 hbq hnb d1 p0 p1 p2 hyb2 hy0 hwr
    have e2' : wb.cell? ⟨b, 2, none⟩ = some (.int .i64 ((m : Int) + 1)) := e2
    clear e2
    obtain ⟨yb, yx⟩ := y
    dsimp only at *
    go_wp2_with fail
    go_ret
    have q1 := blk_set Hy0.out 4 (.pointer (some ⟨nb, 0, none⟩))
    have r0 : (wb.setCell ⟨yb, 4, none⟩ (.pointer (some ⟨nb, 0, none⟩))).heap[b]? = _ := (blk_set_ne 4 _ hby).trans Hq0.out
    have r1 := blk_set r0 1 (.pointer (some ⟨nb, 0, none⟩))
    have r2 := blk_set r1 2 (.int .i64 ((m : Int) + 1 + 1))
    have hfr : Fr S w (((wb.setCell ⟨yb, 4, none⟩ (.pointer (some ⟨nb, 0, none⟩))).setCell ⟨b, 1, none⟩ (.pointer (some ⟨nb, 0, none⟩))).setCell ⟨b, 2, none⟩ (.int .i64 ((m : Int) + 1 + 1))) :=
      ((Hfb.out.none.setCell (p := ⟨yb, 4, none⟩) (.inl hSy) _).setCell (p := ⟨b, 1, none⟩) (.inl hS) _).setCell (p := ⟨b, 2, none⟩) (.inl hS) _
    refine ⟨by first | rfl | (push_cast; rfl), hfr, xs ++ [(nb, (t, c, v))], ?_, by simp⟩
    refine QAt.snoc Hh.out (by have := Hn.out; omega) hfr hnb1 ?_ ?_ (fun n z hn hz => ?_) (fun j z hj hz => ?_)
    · rw [r2]
      unfold queueObj
      have hfs : firstB (xs ++ [(nb, (t, c, v))]) = firstB xs := by unfold firstB; rw [List.getElem?_append_left (by have := Hn.out; omega)]
      rw [hfs, Hn.out]
      rfl
    · rw [blk_set_ne _ _ hnbb, blk_set_ne _ _ hnbb, blk_set_ne _ _ hny, Hbb.out]
      unfold nodeObj
      rw [Hlb.out]
      rfl
    · have hnm : n = m := by have := Hn.out; omega
      subst hnm
      rw [Hy.out] at hz
      cases hz
      rw [blk_set_ne _ _ hyb, blk_set_ne _ _ hyb, q1]
      rfl
    · obtain ⟨_, hzb2, hzo⟩ := Hh.out.node j z hz
      have hzy : z.1 ≠ yb := fun e => by
        have := Hh.out.nd j m z (yb, yx) hz Hy.out e
        have := Hn.out; omega
      have hzl := lt_of_block hzo
      rw [blk_set_ne _ _ hzb2, blk_set_ne _ _ hzb2, blk_set_ne _ _ hzy, Hfb.out.block z.1 hzl id]
end Go.Proofs.Ytdemeghhjnehbaa
