/- What Wait of a channel does. -/
import Derived.Test.YtdemeghhjnehbaaChanWait
set_option linter.unusedVariables false
set_option linter.unusedSimpArgs false
namespace Go.Proofs.Ytdemeghhjnehbaa
open Go.RowKit
set_option maxRecDepth 100000
def WaitP (w : World) (S : Nat → Prop) (b : Nat) (c : ChS) (r : Int) (e : Ending) (w' : World) : Prop := ∃ S' : Nat → Prop, e = .returned (.int .i64 r) ∧ Fr S w w' ∧ ChanAt w' S' b c ∧ ∀ k, S' k → S k ∨ w.heap.size ≤ k
def ChS.pushS (c : ChS) (x : Wt) (s : Bool) : ChS := if s then { c with sd := c.sd ++ [x] } else { c with rv := c.rv ++ [x] }
set_option maxHeartbeats 4000000 in
theorem chan_wait {w : World} {S : Nat → Prop} {b : Nat} {c c' : ChS} (h : ChanAt w S b c) (x : Wt) (s : Bool) (r : Int) (hr : c.waitR x s = r) (hs : c.waitS x s = c') (hfew : c.rv.length < 100000 ∧ c.sd.length < 100000) :
    Calls Try.prog 36 #[.pointer (some ⟨b, 0, none⟩), wtVal x, .bool s] w (WaitP w S b c' r) := by
  have hm := fun W (hf : Fr Nob w W) => chan_mute W S b c (h.fr0 hf) _ rfl
  have hfr := fun W (hf : Fr Nob w W) => chan_free W S b c (h.fr0 hf) s _ rfl
  have hwt := fun W (hf : Fr Nob w W) => chan_waiting W S b c (h.fr0 hf) (!s) _ _ rfl rfl
  have hct := fun W v pb (hv : Rd W 3 v (c.queue (!s)).length (waits (c.queue (!s)))) (hp : W.cell? ⟨pb, 0, none⟩ = some (.int .i64 x.1)) => contains_waits W v (c.queue (!s)) (c.queue (!s)).length pb x.1 rfl hv hp
  have hp5 : w.cell? ⟨b, 5, none⟩ = some (.bool c.closed) := by
    obtain ⟨rb, qb, sb, R, A, B, hp⟩ := h; exact hp.cells.2.2.2.2.2
  have H := Lib.hid h
  have hx0 := heap_alloc_new w (.cells #[.int .i64 x.1, .int .i64 x.2.1, .int .i64 x.2.2] 63)
  have HX := Lib.hid hx0
  have Hs := Lib.hid hs; have Hfew := Lib.hid hfew
  unfold ChS.waitR at hr
  have hrs : c.waitS x s = if c.waitR x s = 0 then c.pushS x s else c := rfl
  have hwr : c.waitR x s = r := by rw [← hr]; rfl
  rw [hwr] at hrs
  have Hrs := Lib.hid (hs.symm.trans hrs)
  clear hs hrs hwr
  generalize (c.queue (!s)).length = n at *
  generalize hoth : (c.queue (!s)).any (fun y => y.1 != x.1) = ot at *
  generalize hmu : c.mute = mu at *
  generalize hfre : c.free s = fr at *
  generalize hclo : c.closed = cl at *
  have Hm := Lib.hid hm; have Hfr := Lib.hid hfr; have Hwt := Lib.hid hwt; have Hct := Lib.hid hct; have Hr := Lib.hid hr; have Hp5 := Lib.hid hp5
  clear hm hfr hwt hct h hr hx0 hfew hoth hmu hfre hclo hp5
  obtain ⟨t, k, y⟩ := x
  have hq5 := ((Fr.refl Nob w).alloc (.cells #[.int .i64 t, .int .i64 k, .int .i64 y] 63)).cell (p := ⟨b, 5, none⟩) id Hp5.out
  cases mu with
  | true =>
    cases s with
    | true =>
      have HrN : Hid (r = 7) := Lib.hid (by rw [← Hr.out]; rfl)
      have HcN : Hid (c' = c) := Lib.hid (by rw [Hrs.out, HrN.out]; rfl)
      go_enter Try.func36, Try.ntmps36
      go_wp2_with fail
      refine (Hm.out _ ((Fr.refl _ _).alloc _)).mono ?_
      rintro e _ ⟨rfl, rfl⟩
      go_wp2_with fail
      go_ret
      exact ⟨S, by rw [HrN.out]; rfl, ((Fr.refl Nob w).alloc _).none, by rw [HcN.out]; exact H.out.fr0 ((Fr.refl Nob w).alloc _), fun k q => .inl q⟩
    | false =>
      cases cl with
      | true =>
        have HrN : Hid (r = 5) := Lib.hid (by rw [← Hr.out]; rfl)
        have HcN : Hid (c' = c) := Lib.hid (by rw [Hrs.out, HrN.out]; rfl)
        go_enter Try.func36, Try.ntmps36
        go_wp2_with fail
        refine (Hm.out _ ((Fr.refl _ _).alloc _)).mono ?_
        rintro e _ ⟨rfl, rfl⟩
        go_wp2_with fail
        go_ret
        exact ⟨S, by rw [HrN.out]; rfl, ((Fr.refl Nob w).alloc _).none, by rw [HcN.out]; exact H.out.fr0 ((Fr.refl Nob w).alloc _), fun k q => .inl q⟩
      | false =>
        cases fr with
        | true =>
          have HrN : Hid (r = 1) := Lib.hid (by rw [← Hr.out]; rfl)
          have HcN : Hid (c' = c) := Lib.hid (by rw [Hrs.out, HrN.out]; rfl)
          go_enter Try.func36, Try.ntmps36
          go_wp2_with fail
          refine (Hm.out _ ((Fr.refl _ _).alloc _)).mono ?_
          rintro e _ ⟨rfl, rfl⟩
          go_wp2_with fail
          refine (Hfr.out _ ((Fr.refl _ _).alloc _)).mono ?_
          rintro e _ ⟨rfl, m, rfl⟩
          go_wp2_with fail
          go_ret
          exact ⟨S, by rw [HrN.out]; rfl, (((Fr.refl Nob w).alloc _).drewN m).none, by rw [HcN.out]; exact H.out.fr0 (((Fr.refl Nob w).alloc _).drewN m), fun k q => .inl q⟩
        | false =>
          cases ot with
          | true =>
            have HrN : Hid (r = 1) := Lib.hid (by rw [← Hr.out]; rfl)
            have HcN : Hid (c' = c) := Lib.hid (by rw [Hrs.out, HrN.out]; rfl)
            go_enter Try.func36, Try.ntmps36
            go_wp2_with fail
            refine (Hm.out _ ((Fr.refl _ _).alloc _)).mono ?_
            rintro e _ ⟨rfl, rfl⟩
            go_wp2_with fail
            refine (Hfr.out _ ((Fr.refl _ _).alloc _)).mono ?_
            rintro e _ ⟨rfl, m, rfl⟩
            go_wp2_with fail
            refine (Hwt.out _ (((Fr.refl _ _).alloc _).drewN m)).mono ?_
            rintro e w1 ⟨v, rfl, hf1, hs1⟩
            have Hf1 := Lib.hid ((((Fr.refl Nob w).alloc _).drewN m).trans0 hf1)
            have Hs1 := Lib.hid hs1
            have z1 := Lib.hid (hf1.blk id (show ((w.alloc (.cells #[.int .i64 t, .int .i64 k, .int .i64 y] 63)).drewN m).heap[w.heap.size]? = _ from HX.out))
            have Hsz := Lib.hid (show w.heap.size < w1.heap.size from by have := hf1.size; simp at this; omega)
            clear hf1 hs1
            go_wp2_with fail
            refine (Hct.out w1 _ w.heap.size Hs1.out.rd (blk_cell z1.out 0 rfl)).mono ?_
            rintro e w2 ⟨rfl, hf2⟩
            have Hf2 := Lib.hid (Hf1.out.trans0 hf2)
            have z2 := Lib.hid (hf2.blk id z1.out)
            have Hsz2 := Lib.hid (show w.heap.size < w2.heap.size from Nat.lt_of_lt_of_le Hsz.out hf2.size)
            clear hf2
            go_wp2_with fail
            go_ret
            exact ⟨S, by rw [HrN.out]; rfl, Hf2.out.none, by rw [HcN.out]; exact H.out.fr0 (Hf2.out), fun k q => .inl q⟩
          | false =>
            have HrN : Hid (r = 0) := Lib.hid (by rw [← Hr.out]; rfl)
            have HcN : Hid (c' = c.pushS (t, k, y) false) := Lib.hid (by rw [Hrs.out, HrN.out]; rfl)
            go_enter Try.func36, Try.ntmps36
            go_wp2_with fail
            refine (Hm.out _ ((Fr.refl _ _).alloc _)).mono ?_
            rintro e _ ⟨rfl, rfl⟩
            go_wp2_with fail
            refine (Hfr.out _ ((Fr.refl _ _).alloc _)).mono ?_
            rintro e _ ⟨rfl, m, rfl⟩
            go_wp2_with fail
            refine (Hwt.out _ (((Fr.refl _ _).alloc _).drewN m)).mono ?_
            rintro e w1 ⟨v, rfl, hf1, hs1⟩
            have Hf1 := Lib.hid ((((Fr.refl Nob w).alloc _).drewN m).trans0 hf1)
            have Hs1 := Lib.hid hs1
            have z1 := Lib.hid (hf1.blk id (show ((w.alloc (.cells #[.int .i64 t, .int .i64 k, .int .i64 y] 63)).drewN m).heap[w.heap.size]? = _ from HX.out))
            have Hsz := Lib.hid (show w.heap.size < w1.heap.size from by have := hf1.size; simp at this; omega)
            clear hf1 hs1
            go_wp2_with fail
            refine (Hct.out w1 _ w.heap.size Hs1.out.rd (blk_cell z1.out 0 rfl)).mono ?_
            rintro e w2 ⟨rfl, hf2⟩
            have Hf2 := Lib.hid (Hf1.out.trans0 hf2)
            have z2 := Lib.hid (hf2.blk id z1.out)
            have Hsz2 := Lib.hid (show w.heap.size < w2.heap.size from Nat.lt_of_lt_of_le Hsz.out hf2.size)
            clear hf2
            obtain ⟨rb, qb, sb, R, A, B, hp⟩ := H.out.fr0 Hf2.out
            have hq := chan_queue (hp.fr0 ((Fr.refl Nob w2).drew)) false
            have hpush := wait_push w2.drew A qb c.rv (t, k, y) _ rfl (hp.recv.fr0 ((Fr.refl Nob w2).drew)) Hfew.out.1
            have y0 := blk_cell z2.out 0 rfl
            have y1 := blk_cell z2.out 1 rfl
            have y2 := blk_cell z2.out 2 rfl
            have Hq := Lib.hid hq; have Hpush := Lib.hid hpush; have HP := Lib.hid hp
            clear hq hpush hp
            go_wp2_with fail
            go_still_tail 4, (by kernel_rfl)
            still_call (Hq.out.mono fun e w' h => ⟨h.1, h.2.symm⟩)
            repeat still_step
            refine wpStill_nil ?_
            change wpList _ _ _ _ _ w2.drew
            go_wp2_with fail
            refine Hpush.out.mono ?_
            rintro e w3 ⟨rfl, hf3, hq3⟩
            have Hf3 := Lib.hid hf3; have Hq3 := Lib.hid hq3
            clear hf3 hq3
            go_wp2_with fail
            go_ret
            have hg := (HP.out.fr0 ((Fr.refl Nob w2).drew)).growRecv Hf3.out Hq3.out
            refine ⟨And' S w2.drew w3, by rw [HrN.out]; rfl, (Hf2.out.drew.none).trans0 (Hf3.out.mono fun k _ q => (HP.out.subA k q).1), by rw [HcN.out]; exact ⟨_, _, _, _, _, _, hg⟩, fun k q => ?_⟩
            rcases q with q | q
            · exact .inl q
            · exact .inr (by have := Hsz2.out; have := q.1; simp at this; omega)
  | false =>
    cases s with
    | true =>
      cases cl with
      | true =>
        have HrN : Hid (r = 5) := Lib.hid (by rw [← Hr.out]; rfl)
        have HcN : Hid (c' = c) := Lib.hid (by rw [Hrs.out, HrN.out]; rfl)
        go_enter Try.func36, Try.ntmps36
        go_wp2_with fail
        refine (Hm.out _ ((Fr.refl _ _).alloc _)).mono ?_
        rintro e _ ⟨rfl, rfl⟩
        go_wp2_with fail
        go_ret
        exact ⟨S, by rw [HrN.out]; rfl, ((Fr.refl Nob w).alloc _).none, by rw [HcN.out]; exact H.out.fr0 ((Fr.refl Nob w).alloc _), fun k q => .inl q⟩
      | false =>
        cases fr with
        | true =>
          have HrN : Hid (r = 1) := Lib.hid (by rw [← Hr.out]; rfl)
          have HcN : Hid (c' = c) := Lib.hid (by rw [Hrs.out, HrN.out]; rfl)
          go_enter Try.func36, Try.ntmps36
          go_wp2_with fail
          refine (Hm.out _ ((Fr.refl _ _).alloc _)).mono ?_
          rintro e _ ⟨rfl, rfl⟩
          go_wp2_with fail
          refine (Hfr.out _ ((Fr.refl _ _).alloc _)).mono ?_
          rintro e _ ⟨rfl, m, rfl⟩
          go_wp2_with fail
          go_ret
          exact ⟨S, by rw [HrN.out]; rfl, (((Fr.refl Nob w).alloc _).drewN m).none, by rw [HcN.out]; exact H.out.fr0 (((Fr.refl Nob w).alloc _).drewN m), fun k q => .inl q⟩
        | false =>
          cases ot with
          | true =>
            have HrN : Hid (r = 1) := Lib.hid (by rw [← Hr.out]; rfl)
            have HcN : Hid (c' = c) := Lib.hid (by rw [Hrs.out, HrN.out]; rfl)
            go_enter Try.func36, Try.ntmps36
            go_wp2_with fail
            refine (Hm.out _ ((Fr.refl _ _).alloc _)).mono ?_
            rintro e _ ⟨rfl, rfl⟩
            go_wp2_with fail
            refine (Hfr.out _ ((Fr.refl _ _).alloc _)).mono ?_
            rintro e _ ⟨rfl, m, rfl⟩
            go_wp2_with fail
            refine (Hwt.out _ (((Fr.refl _ _).alloc _).drewN m)).mono ?_
            rintro e w1 ⟨v, rfl, hf1, hs1⟩
            have Hf1 := Lib.hid ((((Fr.refl Nob w).alloc _).drewN m).trans0 hf1)
            have Hs1 := Lib.hid hs1
            have z1 := Lib.hid (hf1.blk id (show ((w.alloc (.cells #[.int .i64 t, .int .i64 k, .int .i64 y] 63)).drewN m).heap[w.heap.size]? = _ from HX.out))
            have Hsz := Lib.hid (show w.heap.size < w1.heap.size from by have := hf1.size; simp at this; omega)
            clear hf1 hs1
            go_wp2_with fail
            refine (Hct.out w1 _ w.heap.size Hs1.out.rd (blk_cell z1.out 0 rfl)).mono ?_
            rintro e w2 ⟨rfl, hf2⟩
            have Hf2 := Lib.hid (Hf1.out.trans0 hf2)
            have z2 := Lib.hid (hf2.blk id z1.out)
            have Hsz2 := Lib.hid (show w.heap.size < w2.heap.size from Nat.lt_of_lt_of_le Hsz.out hf2.size)
            clear hf2
            go_wp2_with fail
            go_ret
            exact ⟨S, by rw [HrN.out]; rfl, Hf2.out.none, by rw [HcN.out]; exact H.out.fr0 (Hf2.out), fun k q => .inl q⟩
          | false =>
            have HrN : Hid (r = 0) := Lib.hid (by rw [← Hr.out]; rfl)
            have HcN : Hid (c' = c.pushS (t, k, y) true) := Lib.hid (by rw [Hrs.out, HrN.out]; rfl)
            go_enter Try.func36, Try.ntmps36
            go_wp2_with fail
            refine (Hm.out _ ((Fr.refl _ _).alloc _)).mono ?_
            rintro e _ ⟨rfl, rfl⟩
            go_wp2_with fail
            refine (Hfr.out _ ((Fr.refl _ _).alloc _)).mono ?_
            rintro e _ ⟨rfl, m, rfl⟩
            go_wp2_with fail
            refine (Hwt.out _ (((Fr.refl _ _).alloc _).drewN m)).mono ?_
            rintro e w1 ⟨v, rfl, hf1, hs1⟩
            have Hf1 := Lib.hid ((((Fr.refl Nob w).alloc _).drewN m).trans0 hf1)
            have Hs1 := Lib.hid hs1
            have z1 := Lib.hid (hf1.blk id (show ((w.alloc (.cells #[.int .i64 t, .int .i64 k, .int .i64 y] 63)).drewN m).heap[w.heap.size]? = _ from HX.out))
            have Hsz := Lib.hid (show w.heap.size < w1.heap.size from by have := hf1.size; simp at this; omega)
            clear hf1 hs1
            go_wp2_with fail
            refine (Hct.out w1 _ w.heap.size Hs1.out.rd (blk_cell z1.out 0 rfl)).mono ?_
            rintro e w2 ⟨rfl, hf2⟩
            have Hf2 := Lib.hid (Hf1.out.trans0 hf2)
            have z2 := Lib.hid (hf2.blk id z1.out)
            have Hsz2 := Lib.hid (show w.heap.size < w2.heap.size from Nat.lt_of_lt_of_le Hsz.out hf2.size)
            clear hf2
            obtain ⟨rb, qb, sb, R, A, B, hp⟩ := H.out.fr0 Hf2.out
            have hq := chan_queue (hp.fr0 ((Fr.refl Nob w2).drew)) true
            have hpush := wait_push w2.drew B sb c.sd (t, k, y) _ rfl (hp.send.fr0 ((Fr.refl Nob w2).drew)) Hfew.out.2
            have y0 := blk_cell z2.out 0 rfl
            have y1 := blk_cell z2.out 1 rfl
            have y2 := blk_cell z2.out 2 rfl
            have Hq := Lib.hid hq; have Hpush := Lib.hid hpush; have HP := Lib.hid hp
            clear hq hpush hp
            go_wp2_with fail
            go_still_tail 4, (by kernel_rfl)
            still_call (Hq.out.mono fun e w' h => ⟨h.1, h.2.symm⟩)
            repeat still_step
            refine wpStill_nil ?_
            change wpList _ _ _ _ _ w2.drew
            go_wp2_with fail
            refine Hpush.out.mono ?_
            rintro e w3 ⟨rfl, hf3, hq3⟩
            have Hf3 := Lib.hid hf3; have Hq3 := Lib.hid hq3
            clear hf3 hq3
            go_wp2_with fail
            go_ret
            have hg := (HP.out.fr0 ((Fr.refl Nob w2).drew)).growSend Hf3.out Hq3.out
            refine ⟨And' S w2.drew w3, by rw [HrN.out]; rfl, (Hf2.out.drew.none).trans0 (Hf3.out.mono fun k _ q => (HP.out.subB k q).1), by rw [HcN.out]; exact ⟨_, _, _, _, _, _, hg⟩, fun k q => ?_⟩
            rcases q with q | q
            · exact .inl q
            · exact .inr (by have := Hsz2.out; have := q.1; simp at this; omega)
    | false =>
      cases cl with
      | true =>
        have HrN : Hid (r = 5) := Lib.hid (by rw [← Hr.out]; rfl)
        have HcN : Hid (c' = c) := Lib.hid (by rw [Hrs.out, HrN.out]; rfl)
        go_enter Try.func36, Try.ntmps36
        go_wp2_with fail
        refine (Hm.out _ ((Fr.refl _ _).alloc _)).mono ?_
        rintro e _ ⟨rfl, rfl⟩
        go_wp2_with fail
        go_ret
        exact ⟨S, by rw [HrN.out]; rfl, ((Fr.refl Nob w).alloc _).none, by rw [HcN.out]; exact H.out.fr0 ((Fr.refl Nob w).alloc _), fun k q => .inl q⟩
      | false =>
        cases fr with
        | true =>
          have HrN : Hid (r = 1) := Lib.hid (by rw [← Hr.out]; rfl)
          have HcN : Hid (c' = c) := Lib.hid (by rw [Hrs.out, HrN.out]; rfl)
          go_enter Try.func36, Try.ntmps36
          go_wp2_with fail
          refine (Hm.out _ ((Fr.refl _ _).alloc _)).mono ?_
          rintro e _ ⟨rfl, rfl⟩
          go_wp2_with fail
          refine (Hfr.out _ ((Fr.refl _ _).alloc _)).mono ?_
          rintro e _ ⟨rfl, m, rfl⟩
          go_wp2_with fail
          go_ret
          exact ⟨S, by rw [HrN.out]; rfl, (((Fr.refl Nob w).alloc _).drewN m).none, by rw [HcN.out]; exact H.out.fr0 (((Fr.refl Nob w).alloc _).drewN m), fun k q => .inl q⟩
        | false =>
          cases ot with
          | true =>
            have HrN : Hid (r = 1) := Lib.hid (by rw [← Hr.out]; rfl)
            have HcN : Hid (c' = c) := Lib.hid (by rw [Hrs.out, HrN.out]; rfl)
            go_enter Try.func36, Try.ntmps36
            go_wp2_with fail
            refine (Hm.out _ ((Fr.refl _ _).alloc _)).mono ?_
            rintro e _ ⟨rfl, rfl⟩
            go_wp2_with fail
            refine (Hfr.out _ ((Fr.refl _ _).alloc _)).mono ?_
            rintro e _ ⟨rfl, m, rfl⟩
            go_wp2_with fail
            refine (Hwt.out _ (((Fr.refl _ _).alloc _).drewN m)).mono ?_
            rintro e w1 ⟨v, rfl, hf1, hs1⟩
            have Hf1 := Lib.hid ((((Fr.refl Nob w).alloc _).drewN m).trans0 hf1)
            have Hs1 := Lib.hid hs1
            have z1 := Lib.hid (hf1.blk id (show ((w.alloc (.cells #[.int .i64 t, .int .i64 k, .int .i64 y] 63)).drewN m).heap[w.heap.size]? = _ from HX.out))
            have Hsz := Lib.hid (show w.heap.size < w1.heap.size from by have := hf1.size; simp at this; omega)
            clear hf1 hs1
            go_wp2_with fail
            refine (Hct.out w1 _ w.heap.size Hs1.out.rd (blk_cell z1.out 0 rfl)).mono ?_
            rintro e w2 ⟨rfl, hf2⟩
            have Hf2 := Lib.hid (Hf1.out.trans0 hf2)
            have z2 := Lib.hid (hf2.blk id z1.out)
            have Hsz2 := Lib.hid (show w.heap.size < w2.heap.size from Nat.lt_of_lt_of_le Hsz.out hf2.size)
            clear hf2
            go_wp2_with fail
            go_ret
            exact ⟨S, by rw [HrN.out]; rfl, Hf2.out.none, by rw [HcN.out]; exact H.out.fr0 (Hf2.out), fun k q => .inl q⟩
          | false =>
            have HrN : Hid (r = 0) := Lib.hid (by rw [← Hr.out]; rfl)
            have HcN : Hid (c' = c.pushS (t, k, y) false) := Lib.hid (by rw [Hrs.out, HrN.out]; rfl)
            go_enter Try.func36, Try.ntmps36
            go_wp2_with fail
            refine (Hm.out _ ((Fr.refl _ _).alloc _)).mono ?_
            rintro e _ ⟨rfl, rfl⟩
            go_wp2_with fail
            refine (Hfr.out _ ((Fr.refl _ _).alloc _)).mono ?_
            rintro e _ ⟨rfl, m, rfl⟩
            go_wp2_with fail
            refine (Hwt.out _ (((Fr.refl _ _).alloc _).drewN m)).mono ?_
            rintro e w1 ⟨v, rfl, hf1, hs1⟩
            have Hf1 := Lib.hid ((((Fr.refl Nob w).alloc _).drewN m).trans0 hf1)
            have Hs1 := Lib.hid hs1
            have z1 := Lib.hid (hf1.blk id (show ((w.alloc (.cells #[.int .i64 t, .int .i64 k, .int .i64 y] 63)).drewN m).heap[w.heap.size]? = _ from HX.out))
            have Hsz := Lib.hid (show w.heap.size < w1.heap.size from by have := hf1.size; simp at this; omega)
            clear hf1 hs1
            go_wp2_with fail
            refine (Hct.out w1 _ w.heap.size Hs1.out.rd (blk_cell z1.out 0 rfl)).mono ?_
            rintro e w2 ⟨rfl, hf2⟩
            have Hf2 := Lib.hid (Hf1.out.trans0 hf2)
            have z2 := Lib.hid (hf2.blk id z1.out)
            have Hsz2 := Lib.hid (show w.heap.size < w2.heap.size from Nat.lt_of_lt_of_le Hsz.out hf2.size)
            clear hf2
            obtain ⟨rb, qb, sb, R, A, B, hp⟩ := H.out.fr0 Hf2.out
            have hq := chan_queue (hp.fr0 ((Fr.refl Nob w2).drew)) false
            have hpush := wait_push w2.drew A qb c.rv (t, k, y) _ rfl (hp.recv.fr0 ((Fr.refl Nob w2).drew)) Hfew.out.1
            have y0 := blk_cell z2.out 0 rfl
            have y1 := blk_cell z2.out 1 rfl
            have y2 := blk_cell z2.out 2 rfl
            have Hq := Lib.hid hq; have Hpush := Lib.hid hpush; have HP := Lib.hid hp
            clear hq hpush hp
            go_wp2_with fail
            go_still_tail 4, (by kernel_rfl)
            still_call (Hq.out.mono fun e w' h => ⟨h.1, h.2.symm⟩)
            repeat still_step
            refine wpStill_nil ?_
            change wpList _ _ _ _ _ w2.drew
            go_wp2_with fail
            refine Hpush.out.mono ?_
            rintro e w3 ⟨rfl, hf3, hq3⟩
            have Hf3 := Lib.hid hf3; have Hq3 := Lib.hid hq3
            clear hf3 hq3
            go_wp2_with fail
            go_ret
            have hg := (HP.out.fr0 ((Fr.refl Nob w2).drew)).growRecv Hf3.out Hq3.out
            refine ⟨And' S w2.drew w3, by rw [HrN.out]; rfl, (Hf2.out.drew.none).trans0 (Hf3.out.mono fun k _ q => (HP.out.subA k q).1), by rw [HcN.out]; exact ⟨_, _, _, _, _, _, hg⟩, fun k q => ?_⟩
            rcases q with q | q
            · exact .inl q
            · exact .inr (by have := Hsz2.out; have := q.1; simp at this; omega)
end Go.Proofs.Ytdemeghhjnehbaa
