/- What one of package choose does on a channel. -/
import Derived.Test.YtdemeghhjnehbaaChooseRd
set_option linter.unusedVariables false
set_option linter.unusedSimpArgs false
namespace Go.Proofs.Ytdemeghhjnehbaa
open Go.RowKit
set_option maxRecDepth 100000
/-- What came of it. -/
abbrev resV (i v : Int) (ok pn pk kd : Bool) : Value := .agg #[.int .i64 i, .int .i64 v, .bool ok, .bool pn, .bool pk, .bool kd]
abbrev resA (i v : Int) (ok pn pk kd : Bool) : Array Value := #[.int .i64 i, .int .i64 v, .bool ok, .bool pn, .bool pk, .bool kd]
def OneP (w : World) (S : Nat → Prop) (B : Nat → Nat) (P : Nat → Option ChS) (i v : Int) (ok pn : Bool) (l : List Wk) (n : Nat) (e : Ending) (w' : World) : Prop := ∃ (A : Option Addr) (cp : Nat), e = .returned (.tuple #[resV i v ok pn false false, .slice A n cp]) ∧ Fr S w w' ∧ Pool w' S B P ∧ Sl w' (From w.heap.size) 37 5 (.slice A n cp) n (wks l)
theorem Fr.setB {b : Nat} {w w' : World} (h : Fr (fun k => k = b) w w') (o : Nat) (v : Value) : Fr (fun k => k = b) w (w'.setCell ⟨b, o, Option.none⟩ v) := h.setCell (p := ⟨b, o, Option.none⟩) (.inl rfl) v
section
variable {w : World} {b : Nat} {x0 x1 x2 x3 x4 x5 : Value} {T : TypeId} (h : w.heap[b]? = some (.cells #[x0, x1, x2, x3, x4, x5] T (0, 0))) (y : Value)
include h
theorem six0 : (w.setCell ⟨b, 0, none⟩ y).heap[b]? = some (.cells #[y, x1, x2, x3, x4, x5] T (0, 0)) := blk_set h 0 y
theorem six1 : (w.setCell ⟨b, 1, none⟩ y).heap[b]? = some (.cells #[x0, y, x2, x3, x4, x5] T (0, 0)) := blk_set h 1 y
theorem six2 : (w.setCell ⟨b, 2, none⟩ y).heap[b]? = some (.cells #[x0, x1, y, x3, x4, x5] T (0, 0)) := blk_set h 2 y
theorem six3 : (w.setCell ⟨b, 3, none⟩ y).heap[b]? = some (.cells #[x0, x1, x2, y, x4, x5] T (0, 0)) := blk_set h 3 y
theorem six4 : (w.setCell ⟨b, 4, none⟩ y).heap[b]? = some (.cells #[x0, x1, x2, x3, y, x5] T (0, 0)) := blk_set h 4 y
theorem six5 : (w.setCell ⟨b, 5, none⟩ y).heap[b]? = some (.cells #[x0, x1, x2, x3, x4, y] T (0, 0)) := blk_set h 5 y
end
theorem six_fr (w : World) (b : Nat) (x0 x1 x2 x3 x4 x5 : Value) : Fr (fun k => k = b) w ((((((w.setCell ⟨b, 0, none⟩ x0).setCell ⟨b, 1, none⟩ x1).setCell ⟨b, 2, none⟩ x2).setCell ⟨b, 3, none⟩ x3).setCell ⟨b, 4, none⟩ x4).setCell ⟨b, 5, none⟩ x5) :=
  ((((((Fr.refl (fun k => k = b) w).setB 0 _).setB 1 _).setB 2 _).setB 3 _).setB 4 _).setB 5 _
theorem six_blk {w : World} {b : Nat} {y0 y1 y2 y3 y4 y5 : Value} {T : TypeId} (h : w.heap[b]? = some (.cells #[y0, y1, y2, y3, y4, y5] T (0, 0))) (x0 x1 x2 x3 x4 x5 : Value) : ((((((w.setCell ⟨b, 0, none⟩ x0).setCell ⟨b, 1, none⟩ x1).setCell ⟨b, 2, none⟩ x2).setCell ⟨b, 3, none⟩ x3).setCell ⟨b, 4, none⟩ x4).setCell ⟨b, 5, none⟩ x5).heap[b]? = some (.cells #[x0, x1, x2, x3, x4, x5] T (0, 0)) :=
  six5 (six4 (six3 (six2 (six1 (six0 h _) _) _) _) _) _
/-- A row of wakes that lies off a block stays when that block is written. -/
theorem Rd.off {w w' : World} {b sz : Nat} {v : Value} {n : Nat} {cs : List Value} (T : Nat → Prop) (E : TypeId) (h : Sl w T E sz v n cs) (hf : Fr (fun k => k = b) w w') (hb : ¬ T b) : Rd w' sz v n cs :=
  (h.fr hf fun k q e => by subst e; exact hb q).rd
set_option maxHeartbeats 2000000 in
theorem one_recv {w : World} {S : Nat → Prop} {B : Nat → Nat} {P : Nat → Option ChS} (h : Pool w S B P) (hS : ∀ k, S k → k < w.heap.size) (i : Nat) {c c' : ChS} (hi : P i = some c) (at' y : Int) (v : Int) (ok d : Bool) (l : List Wk) (n : Nat) (hr : c.recvR = (v, ok, d, l)) (hs : c.recvS = c') (hn : l.length = n) :
    Calls Try.prog 35 #[.agg #[.pointer (some ⟨B i, 0, none⟩), .bool false, .int .i64 y], .int .i64 at'] w (OneP w S B (upd P i (some c')) at' v ok false l n) := by
  have Hc := Lib.hid (fun W (hW : Pool W S B P) => pool_recv hW i hi v ok d l n hr hs hn)
  have Hp := Lib.hid h
  have HS := Lib.hid hS
  clear h hr hs hn hi hS
  generalize upd P i (some c') = P' at *
  generalize hbi : B i = bi at *
  clear hbi
  go_enter Try.func35, Try.ntmps35
  go_wp2_with fail
  obtain ⟨w1, hw1⟩ : ∃ w1, w1 = (w.alloc (.cells #[.pointer (some ⟨bi, 0, none⟩), .bool false, .int .i64 y] 29)).alloc (.cells (resA at' 0 false false false false) 31) := ⟨_, rfl⟩
  rw [← hw1]
  obtain ⟨rb, hrb⟩ : ∃ rb, rb = w.heap.size + 1 := ⟨_, rfl⟩
  rw [← hrb]
  have hf1 : Fr Nob w w1 := by rw [hw1]; exact ((Fr.refl Nob w).alloc _).alloc _
  have hb1 : w1.heap[rb]? = some (.cells #[.int .i64 at', .int .i64 0, .bool false, .bool false, .bool false, .bool false] 31 (0, 0)) := by rw [hw1, hrb]; exact blk_alloc_eq _ (by simp)
  have Hz1 : Hid (w.heap.size < rb ∧ rb < w1.heap.size) := ⟨by omega, lt_of_block hb1⟩
  have Hp1 := Lib.hid (Hp.out.fr0 hf1)
  have Hf1 := Lib.hid hf1
  have Hb1 := Lib.hid hb1
  clear hw1 hf1 hb1 hrb
  refine (Hc.out w1 Hp1.out).mono ?_
  rintro e w2 ⟨A, cp, rfl, hf2, hp2, hs2⟩
  have hns : ¬ S rb := fun q => by have := HS.out _ q; have := Hz1.out; omega
  have hb2 := hf2.blk hns Hb1.out
  have c0 := blk_cell hb2 0 rfl
  have c1 := blk_cell hb2 1 rfl
  have c2 := blk_cell hb2 2 rfl
  have c3 := blk_cell hb2 3 rfl
  have c4 := blk_cell hb2 4 rfl
  have c5 := blk_cell hb2 5 rfl
  have f0 := blk_froz hb2 0
  have f1 := blk_froz hb2 1
  have f2 := blk_froz hb2 2
  have f3 := blk_froz hb2 3
  have f4 := blk_froz hb2 4
  have f5 := blk_froz hb2 5
  have Hf2 := Lib.hid hf2; have Hp2 := Lib.hid hp2; have Hs2 := Lib.hid hs2; have Hb2 := Lib.hid hb2; have Hns := Lib.hid hns
  clear hf2 hp2 hs2 hb2 hns
  go_wp2_with fail
  obtain ⟨w3, hw3⟩ : ∃ w3, w3 = ((((((((w2.setCell ⟨rb, 1, none⟩ (.int .i64 v)).setCell ⟨rb, 2, none⟩ (.bool ok)).setCell ⟨rb, 0, none⟩ (.int .i64 at')).setCell ⟨rb, 1, none⟩ (.int .i64 v)).setCell ⟨rb, 2, none⟩ (.bool ok)).setCell ⟨rb, 3, none⟩ (.bool false)).setCell ⟨rb, 4, none⟩ (.bool false)).setCell ⟨rb, 5, none⟩ (.bool false)) := ⟨_, rfl⟩
  rw [← hw3]
  have hf3 : Fr (fun k => k = rb) w2 w3 := by rw [hw3]; exact (((((((((Fr.refl (fun k => k = rb) w2).setB 1 _).setB 2 _).setB 0 _).setB 1 _).setB 2 _).setB 3 _).setB 4 _).setB 5 _)
  have hb3 : w3.heap[rb]? = some (.cells #[.int .i64 at', .int .i64 v, .bool ok, .bool false, .bool false, .bool false] 31 (0, 0)) := by rw [hw3]; exact (six5 (six4 (six3 (six2 (six1 (six0 (six2 (six1 Hb2.out _) _) _) _) _) _) _) _)
  have t0 := blk_cell hb3 0 rfl
  have t1 := blk_cell hb3 1 rfl
  have t2 := blk_cell hb3 2 rfl
  have t3 := blk_cell hb3 3 rfl
  have t4 := blk_cell hb3 4 rfl
  have t5 := blk_cell hb3 5 rfl
  refine bodyPost_ret (v := .tuple #[resV at' v ok false false false, .slice A n cp]) (by simp [results, Try.results35, go_sem, t0, t1, t2, t3, t4, t5]) rfl ⟨A, cp, rfl, ?_, ?_, ?_⟩
  · exact (Hf1.out.none.trans0 Hf2.out).trans hf3 fun k hk e => by have := Hz1.out; omega
  · exact Hp2.out.fr hf3 fun k q e => by subst e; exact Hns.out q
  · exact (Hs2.out.fr hf3 fun k q e => by have := Hz1.out; unfold From at q; omega).mono fun k _ q => by have := Hf1.out.size; unfold From at q ⊢; omega
set_option maxHeartbeats 2000000 in
theorem one_send {w : World} {S : Nat → Prop} {B : Nat → Nat} {P : Nat → Option ChS} (h : Pool w S B P) (hS : ∀ k, S k → k < w.heap.size) (i : Nat) {c c' : ChS} (hi : P i = some c) (at' y : Int) (d : Bool) (l : List Wk) (n : Nat) (er : Int) (hr : c.sendR y = (d, l, er)) (hs : c.sendS y = c') (hn : l.length = n) :
    Calls Try.prog 35 #[.agg #[.pointer (some ⟨B i, 0, none⟩), .bool true, .int .i64 y], .int .i64 at'] w (OneP w S B (upd P i (some c')) at' 0 (er == 0) (er == 5) l n) := by
  have Hc := Lib.hid (fun W (hW : Pool W S B P) => pool_send hW i hi y d l n er hr hs hn)
  have Hp := Lib.hid h
  have HS := Lib.hid hS
  clear h hr hs hn hi hS
  generalize hok : (er == 0) = ok at *
  generalize hpn : (er == 5) = pn at *
  generalize upd P i (some c') = P' at *
  generalize hbi : B i = bi at *
  clear hbi
  go_enter Try.func35, Try.ntmps35
  go_wp2_with fail
  obtain ⟨w1, hw1⟩ : ∃ w1, w1 = (w.alloc (.cells #[.pointer (some ⟨bi, 0, none⟩), .bool true, .int .i64 y] 29)).alloc (.cells (resA at' 0 false false false false) 31) := ⟨_, rfl⟩
  rw [← hw1]
  obtain ⟨rb, hrb⟩ : ∃ rb, rb = w.heap.size + 1 := ⟨_, rfl⟩
  rw [← hrb]
  have hf1 : Fr Nob w w1 := by rw [hw1]; exact ((Fr.refl Nob w).alloc _).alloc _
  have hb1 : w1.heap[rb]? = some (.cells #[.int .i64 at', .int .i64 0, .bool false, .bool false, .bool false, .bool false] 31 (0, 0)) := by rw [hw1, hrb]; exact blk_alloc_eq _ (by simp)
  have Hz1 : Hid (w.heap.size < rb ∧ rb < w1.heap.size) := ⟨by omega, lt_of_block hb1⟩
  have Hp1 := Lib.hid (Hp.out.fr0 hf1)
  have Hf1 := Lib.hid hf1
  have Hb1 := Lib.hid hb1
  clear hw1 hf1 hb1 hrb
  refine (Hc.out w1 Hp1.out).mono ?_
  rintro e w2 ⟨A, cp, rfl, hf2, hp2, hs2⟩
  have hns : ¬ S rb := fun q => by have := HS.out _ q; have := Hz1.out; omega
  have hb2 := hf2.blk hns Hb1.out
  have c0 := blk_cell hb2 0 rfl
  have c1 := blk_cell hb2 1 rfl
  have c2 := blk_cell hb2 2 rfl
  have c3 := blk_cell hb2 3 rfl
  have c4 := blk_cell hb2 4 rfl
  have c5 := blk_cell hb2 5 rfl
  have f0 := blk_froz hb2 0
  have f1 := blk_froz hb2 1
  have f2 := blk_froz hb2 2
  have f3 := blk_froz hb2 3
  have f4 := blk_froz hb2 4
  have f5 := blk_froz hb2 5
  have Hf2 := Lib.hid hf2; have Hp2 := Lib.hid hp2; have Hs2 := Lib.hid hs2; have Hb2 := Lib.hid hb2; have Hns := Lib.hid hns
  clear hf2 hp2 hs2 hb2 hns
  go_wp2_with fail
  obtain ⟨w3, hw3⟩ : ∃ w3, w3 = ((((((((w2.setCell ⟨rb, 2, none⟩ (.bool ok)).setCell ⟨rb, 3, none⟩ (.bool pn)).setCell ⟨rb, 0, none⟩ (.int .i64 at')).setCell ⟨rb, 1, none⟩ (.int .i64 0)).setCell ⟨rb, 2, none⟩ (.bool ok)).setCell ⟨rb, 3, none⟩ (.bool pn)).setCell ⟨rb, 4, none⟩ (.bool false)).setCell ⟨rb, 5, none⟩ (.bool false)) := ⟨_, rfl⟩
  rw [← hw3]
  have hf3 : Fr (fun k => k = rb) w2 w3 := by rw [hw3]; exact (((((((((Fr.refl (fun k => k = rb) w2).setB 2 _).setB 3 _).setB 0 _).setB 1 _).setB 2 _).setB 3 _).setB 4 _).setB 5 _)
  have hb3 : w3.heap[rb]? = some (.cells #[.int .i64 at', .int .i64 0, .bool ok, .bool pn, .bool false, .bool false] 31 (0, 0)) := by rw [hw3]; exact (six5 (six4 (six3 (six2 (six1 (six0 (six3 (six2 Hb2.out _) _) _) _) _) _) _) _)
  have t0 := blk_cell hb3 0 rfl
  have t1 := blk_cell hb3 1 rfl
  have t2 := blk_cell hb3 2 rfl
  have t3 := blk_cell hb3 3 rfl
  have t4 := blk_cell hb3 4 rfl
  have t5 := blk_cell hb3 5 rfl
  refine bodyPost_ret (v := .tuple #[resV at' 0 ok pn false false, .slice A n cp]) (by simp [results, Try.results35, go_sem, t0, t1, t2, t3, t4, t5]) rfl ⟨A, cp, rfl, ?_, ?_, ?_⟩
  · exact (Hf1.out.none.trans0 Hf2.out).trans hf3 fun k hk e => by have := Hz1.out; omega
  · exact Hp2.out.fr hf3 fun k q e => by subst e; exact Hns.out q
  · exact (Hs2.out.fr hf3 fun k q e => by have := Hz1.out; unfold From at q; omega).mono fun k _ q => by have := Hf1.out.size; unfold From at q ⊢; omega
theorem choose_one {w : World} {S : Nat → Prop} {B : Nat → Nat} {P : Nat → Option ChS} (h : Pool w S B P) (hS : ∀ k, S k → k < w.heap.size) (x : Cs) (i : Nat) (hx : x.1 = some i) {c c' : ChS} (hi : P i = some c) (at' : Int) (v : Int) (ok pn : Bool) (l : List Wk) (n : Nat) (hr : oneR c x = (v, ok, pn, l)) (hs : oneS c x = c') (hn : l.length = n) :
    Calls Try.prog 35 #[.agg #[.pointer (pa B x.1), .bool x.2.1, .int .i64 x.2.2], .int .i64 at'] w (OneP w S B (upd P i (some c')) at' v ok pn l n) := by
  obtain ⟨o, s, y⟩ := x
  dsimp only at hx
  subst hx
  unfold oneR at hr
  unfold oneS at hs
  cases s with
  | false =>
    simp only [Bool.false_eq_true, if_false] at hr hs
    cases hr
    exact one_recv h hS i hi at' y _ _ c.recvR.2.2.1 _ n rfl hs hn
  | true =>
    simp only [if_true] at hr hs
    cases hr
    exact one_send h hS i hi at' y (c.sendR y).1 _ n (c.sendR y).2.2 rfl hs hn
end Go.Proofs.Ytdemeghhjnehbaa
