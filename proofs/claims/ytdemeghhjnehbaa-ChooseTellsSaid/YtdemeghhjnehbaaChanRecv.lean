/- What Recv does. -/
import Derived.Test.YtdemeghhjnehbaaChanSend
import Derived.StillTailTactics
set_option linter.unusedVariables false
set_option linter.unusedSimpArgs false
namespace Go.Proofs.Ytdemeghhjnehbaa
open Go.RowKit
set_option maxRecDepth 100000
def RecvP (w : World) (S : Nat → Prop) (b : Nat) (c : ChS) (v : Int) (ok d : Bool) (l : List Wk) (n : Nat) (e : Ending) (w' : World) : Prop := ∃ (A : Option Addr) (cp : Nat), e = .returned (.tuple #[.int .i64 v, .bool ok, .bool d, .slice A n cp]) ∧ Fr S w w' ∧ ChanAt w' S b c ∧ Sl w' (Off w.heap.size S) 37 5 (.slice A n cp) n (wks l)
section
variable {w : World} {S : Nat → Prop} {b rb qb sb : Nat} {R A B : Nat → Prop} {c : ChS} (h : ChP w S b rb qb sb R A B c)
include h
theorem recv_none (hq : c.q = []) (hsd : c.sd = []) : Calls Try.prog 48 #[.pointer (some ⟨b, 0, none⟩)] w (RecvP w S b c 0 false c.closed [] 0) := by
  obtain ⟨p0, p1, p2, p3, p4, p5⟩ := h.cells
  have H := Lib.hid h
  have hr := h.ring; have hd := h.send
  rw [hq] at hr
  rw [hsd] at hd
  have Hr := Lib.hid (ring_pop_none w R rb c.size hr)
  have Hd := Lib.hid (fun W (hf : Fr Nob w W) => wait_pop_none W B sb (hd.fr0 hf))
  generalize c.closed = cl at *
  clear h hr hd hq hsd
  go_enter Try.func48, Try.ntmps48
  go_wp2_with fail
  refine Hr.out.mono ?_
  rintro e w1 ⟨rfl, hf1⟩
  have Hf1 := Lib.hid (Fr.ofDrew hf1)
  have q2 := Hf1.out.cell (p := ⟨b, 2, none⟩) id p2
  clear hf1
  go_wp2_with fail
  refine (Hd.out w1 Hf1.out).mono ?_
  rintro e w2 ⟨rfl, hf2⟩
  have Hf2 := Lib.hid (Hf1.out.trans0 hf2)
  have q5 := Hf2.out.cell (p := ⟨b, 5, none⟩) id p5
  have q5' := ((Fr.refl Nob w2).alloc (.cells #[.int .i64 0, .int .i64 0, .int .i64 0] 63)).cell (p := ⟨b, 5, none⟩) id q5
  clear hf2
  go_wp2_with fail
  go_quiet (fail)
  go_wp2_with fail
  exact bodyPost_ret (v := .tuple #[.int .i64 0, .bool false, .bool cl, .slice none 0 0]) (by simp [results, Try.results48, go_sem]) rfl ⟨none, 0, rfl, (((Hf2.out.alloc _).drewN _)).none, ⟨rb, qb, sb, R, A, B, H.out.fr0 ((Hf2.out.alloc _).drewN _)⟩, Sl.nil _ _ _ _⟩
theorem recv_val (v : Int) (r : List Int) (hq : c.q = v :: r) (hsd : c.sd = []) : Calls Try.prog 48 #[.pointer (some ⟨b, 0, none⟩)] w (RecvP w S b { c with q := r } v true true [] 0) := by
  obtain ⟨p0, p1, p2, p3, p4, p5⟩ := h.cells
  have H := Lib.hid h
  have hr := h.ring
  rw [hq] at hr
  have Hr := Lib.hid (ring_pop_some w R rb c.size v r hr)
  have Hd := Lib.hid (fun W (hf : Fr R w W) => wait_pop_none W B sb (by have := h.send; rw [hsd] at this; exact this.fr hf (fun k q q' => (h.subB k q).2.2.1 q')))
  have hb : ¬ R b := fun q => (h.subR b q).2 rfl
  have Hb := Lib.hid hb
  clear h hr hq hsd hb
  go_enter Try.func48, Try.ntmps48
  go_wp2_with fail
  refine Hr.out.mono ?_
  rintro e w1 ⟨rfl, hf1, hr1⟩
  have Hf1 := Lib.hid hf1; have Hr1 := Lib.hid hr1
  have q2 := Hf1.out.cell (p := ⟨b, 2, none⟩) Hb.out p2
  clear hf1 hr1
  go_wp2_with fail
  refine (Hd.out w1 Hf1.out).mono ?_
  rintro e w2 ⟨rfl, hf2⟩
  have Hf2 := Lib.hid hf2
  clear hf2
  go_wp2_with fail
  exact bodyPost_ret (v := .tuple #[.int .i64 v, .bool true, .bool true, .slice none 0 0]) (by simp [results, Try.results48, go_sem]) rfl ⟨none, 0, rfl, (((Hf1.out.mono fun k _ q => (H.out.subR k q).1).trans0 Hf2.out.none).alloc _), ⟨rb, qb, sb, R, A, B, (H.out.toRing Hf1.out Hr1.out).fr0 (Hf2.out.alloc _)⟩, Sl.nil _ _ _ _⟩
theorem recv_wait (x : Wt) (l : List Wt) (hq : c.q = []) (hsd : c.sd = x :: l) : Calls Try.prog 48 #[.pointer (some ⟨b, 0, none⟩)] w (RecvP w S b { c with sd := l } x.2.2 true true [wakeOf x 0 true false] 1) := by
  obtain ⟨p0, p1, p2, p3, p4, p5⟩ := h.cells
  have H := Lib.hid h
  have hr := h.ring
  rw [hq] at hr
  have Hr := Lib.hid (ring_pop_none w R rb c.size hr)
  have Hd := Lib.hid (fun W (hf : Fr Nob w W) => wait_pop_some W B sb x l (by have := h.send; rw [hsd] at this; exact this.fr0 hf))
  clear h hr hq hsd
  obtain ⟨t, k, y⟩ := x
  go_enter Try.func48, Try.ntmps48
  go_wp2_with fail
  refine Hr.out.mono ?_
  rintro e w1 ⟨rfl, hf1⟩
  have Hf1 := Lib.hid (Fr.ofDrew hf1)
  have q2 := Hf1.out.cell (p := ⟨b, 2, none⟩) id p2
  clear hf1
  go_wp2_with fail
  refine (Hd.out w1 Hf1.out).mono ?_
  rintro e w2 ⟨rfl, hf2, hq2⟩
  have Hf2 := Lib.hid hf2; have Hq2 := Lib.hid hq2
  clear hf2 hq2
  go_wp2_with fail
  have hz : w.heap.size ≤ w2.heap.size := Nat.le_trans Hf1.out.size Hf2.out.size
  have hfa : Fr Nob w2 (w2.alloc (.cells #[.int .i64 t, .int .i64 k, .int .i64 y] 63)) := (Fr.refl _ _).alloc _
  refine bodyPost_ret (v := .tuple #[.int .i64 y, .bool true, .bool true, .slice (some ⟨w2.heap.size + 1, 0, none⟩) 1 1]) (by simp [results, Try.results48, go_sem]) rfl ⟨_, _, rfl, ((Hf1.out.none.trans0 (Hf2.out.mono fun k _ q => (H.out.subB k q).1)).alloc _).alloc _, ⟨rb, qb, sb, R, A, B, (((H.out.fr0 Hf1.out).toSend Hf2.out Hq2.out).fr0 hfa).fr0 ((Fr.refl _ _).alloc _)⟩, ?_⟩
  have := one_wake (w2.alloc (.cells #[.int .i64 t, .int .i64 k, .int .i64 y] 63)) S w.heap.size (t, k, 0, true, false) (by simp; omega) (fun q => by have := H.out.lt _ q; simp at this; omega)
  rw [show (w2.alloc (.cells #[.int .i64 t, .int .i64 k, .int .i64 y] 63)).heap.size = w2.heap.size + 1 by simp] at this
  exact this
theorem recv_both (v : Int) (r : List Int) (x : Wt) (l : List Wt) (hq : c.q = v :: r) (hsd : c.sd = x :: l) : Calls Try.prog 48 #[.pointer (some ⟨b, 0, none⟩)] w (RecvP w S b { c with q := r ++ [x.2.2], sd := l } v true true [wakeOf x 0 true false] 1) := by
  obtain ⟨p0, p1, p2, p3, p4, p5⟩ := h.cells
  have H := Lib.hid h
  have hr := h.ring
  have hlen := h.ring.len
  rw [hq] at hr hlen
  simp only [List.length_cons] at hlen
  have Hr := Lib.hid (ring_pop_some w R rb c.size v r hr)
  have Hd := Lib.hid (fun W (hf : Fr R w W) => wait_pop_some W B sb x l (by have := h.send; rw [hsd] at this; exact this.fr hf (fun k q q' => (h.subB k q).2.2.1 q')))
  have hb : ¬ R b := fun q => (h.subR b q).2 rfl
  have hb2 : ¬ B b := fun q => (h.subB b q).2.1 rfl
  have Hb := Lib.hid hb; have Hb2 := Lib.hid hb2
  have hpu := fun W (hr : RingAt W R rb c.size r) => ring_push_yes W R rb c.size r x.2.2 hr (by omega)
  have Hpu := Lib.hid hpu
  clear h hr hq hsd hb hb2 hlen hpu
  obtain ⟨t, k, y⟩ := x
  go_enter Try.func48, Try.ntmps48
  go_wp2_with fail
  refine Hr.out.mono ?_
  rintro e w1 ⟨rfl, hf1, hr1⟩
  have Hf1 := Lib.hid hf1; have Hr1 := Lib.hid hr1
  have q2 := Hf1.out.cell (p := ⟨b, 2, none⟩) Hb.out p2
  have q0 := Hf1.out.cell (p := ⟨b, 0, none⟩) Hb.out p0
  clear hf1 hr1
  go_wp2_with fail
  refine (Hd.out w1 Hf1.out).mono ?_
  rintro e w2 ⟨rfl, hf2, hq2⟩
  have Hf2 := Lib.hid hf2; have Hq2 := Lib.hid hq2
  have u0 := hf2.cell (p := ⟨b, 0, none⟩) Hb2.out q0
  clear hf2 hq2
  obtain ⟨w3, hw3⟩ : ∃ w3, w3 = (w2.alloc (.cells #[.int .i64 t, .int .i64 k, .int .i64 y] 63)).alloc (.cells #[.int .i64 t, .int .i64 k, .int .i64 0, .bool true, .bool false] 37) := ⟨_, rfl⟩
  have hf3 : Fr Nob w2 w3 := by rw [hw3]; exact ((Fr.refl _ _).alloc _).alloc _
  have v0 := hf3.cell (p := ⟨b, 0, none⟩) id u0
  have v2 : w3.cell? ⟨w2.heap.size, 2, none⟩ = some (.int .i64 y) := by rw [hw3]; exact blk_cell (((Fr.refl Nob _).alloc _).blk id (heap_alloc_new w2 _)) 2 rfl
  have hz : w.heap.size ≤ w2.heap.size := Nat.le_trans Hf1.out.size Hf2.out.size
  have hs3 : Sl w3 (Off w.heap.size S) 37 5 (.slice (some ⟨w2.heap.size + 1, 0, none⟩) 1 1) 1 (wks [(t, k, 0, true, false)]) := by
    have := one_wake (w2.alloc (.cells #[.int .i64 t, .int .i64 k, .int .i64 y] 63)) S w.heap.size (t, k, 0, true, false) (by simp; omega) (fun q => by have := H.out.lt _ q; simp at this; omega)
    rw [show (w2.alloc (.cells #[.int .i64 t, .int .i64 k, .int .i64 y] 63)).heap.size = w2.heap.size + 1 by simp] at this
    rw [hw3]; exact this
  have Hf3 := Lib.hid hf3; have Hs3 := Lib.hid hs3
  clear hf3 hs3 u0 q0 q2 p0 p2
  go_wp2_with fail
  rw [← hw3]
  clear hw3
  go_still_tail 6, (by kernel_rfl)
  change wpList _ _ _ _ _ w3.drew
  have Hf4 := Lib.hid (Hf3.out.drew)
  have hr4 : RingAt w3.drew R rb c.size r := (Hr1.out.fr Hf2.out (fun k _ q q' => (H.out.subB k q').2.2.1 q)).fr Hf4.out (fun _ _ _ q => q)
  have Hp4 := Lib.hid (Hpu.out w3.drew hr4)
  clear hr4
  go_wp2_with fail
  refine Hp4.out.mono ?_
  rintro e w5 ⟨rfl, hf5, hr5⟩
  have Hf5 := Lib.hid hf5; have Hr5 := Lib.hid hr5
  clear hf5 hr5
  go_wp2_with fail
  refine bodyPost_ret (v := .tuple #[.int .i64 v, .bool true, .bool true, .slice (some ⟨w2.heap.size + 1, 0, none⟩) 1 1]) (by simp [results, Try.results48, go_sem]) rfl ⟨_, _, rfl, ?_, ⟨rb, qb, sb, R, A, B, ?_⟩, ?_⟩
  · exact (((Hf1.out.mono fun k _ q => (H.out.subR k q).1).trans0 (Hf2.out.mono fun k _ q => (H.out.subB k q).1)).trans0 Hf4.out.none).trans0 (Hf5.out.mono fun k _ q => (H.out.subR k q).1)
  · have h1 := (((H.out.toRing Hf1.out Hr1.out).toSend Hf2.out Hq2.out).fr0 Hf4.out).toRing Hf5.out Hr5.out
    exact h1
  · exact (Hs3.out.drew).fr Hf5.out fun k q q' => q.2 (H.out.subR k q').1
end
theorem chan_recv {w : World} {S : Nat → Prop} {b : Nat} {c c' : ChS} (h : ChanAt w S b c) (v : Int) (ok d : Bool) (l : List Wk) (n : Nat) (hr : c.recvR = (v, ok, d, l)) (hs : c.recvS = c') (hn : l.length = n) :
    Calls Try.prog 48 #[.pointer (some ⟨b, 0, none⟩)] w (RecvP w S b c' v ok d l n) := by
  obtain ⟨rb, qb, sb, R, A, B, h⟩ := h
  unfold ChS.recvR at hr; unfold ChS.recvS at hs
  obtain ⟨q, hq⟩ : ∃ q, c.q = q := ⟨_, rfl⟩
  obtain ⟨sd, hsd⟩ : ∃ sd, c.sd = sd := ⟨_, rfl⟩
  rw [hq, hsd] at hr hs
  cases q with
  | nil =>
    cases sd with
    | nil => cases hr; subst hs; subst hn; exact recv_none h hq hsd
    | cons x r => cases hr; subst hs; subst hn; have := recv_wait h x r hq hsd; rw [hq] at this; exact this
  | cons u q =>
    cases sd with
    | nil => cases hr; subst hs; subst hn; have := recv_val h v q hq hsd; rw [hsd] at this; exact this
    | cons x r => cases hr; subst hs; subst hn; exact recv_both h v q x r hq hsd
end Go.Proofs.Ytdemeghhjnehbaa
