/- Who waits on a channel, from outside; what two laws need. -/
import Derived.Test.YtcffplgimbbflaaGreatSlQ3
set_option linter.unusedVariables false
set_option linter.unusedSimpArgs false
namespace Go.Proofs.YtcffplgimbbflaaGreat
open Go.RowKit
set_option maxRecDepth 100000
def WaitP (w : World) (S : Nat → Prop) (b : Nat) (c : ChS) (r : Int) (e : Ending) (w' : World) : Prop := ∃ S' : Nat → Prop, e = .returned (.int .i64 r) ∧ Fr S w w' ∧ ChanAt w' S' b c ∧ ∀ k, S' k → S k ∨ w.heap.size ≤ k
def ChS.pushS (c : ChS) (x : Wt) (s : Bool) : ChS := if s then { c with sd := c.sd ++ [x] } else { c with rv := c.rv ++ [x] }
set_option maxHeartbeats 4000000 in
theorem chan_wait {w : World} {S : Nat → Prop} {b : Nat} {c c' : ChS} (h : ChanAt w S b c) (x : Wt) (s : Bool) (r : Int) (hr : c.waitR x s = r) (hs : c.waitS x s = c') (hfew : c.rv.length < 100000 ∧ c.sd.length < 100000) :
    Calls Tryz.prog 171 #[.pointer (some ⟨b, 0, none⟩), wtVal x, .bool s] w (WaitP w S b c' r) := by
  have hm := fun W (hf : Fr Nob w W) => chan_mute W S b c (h.fr0 hf) _ rfl
  have hfr := fun W (hf : Fr Nob w W) => chan_free W S b c (h.fr0 hf) s _ rfl
  have hwt := fun W (hf : Fr Nob w W) => chan_waiting W S b c (h.fr0 hf) (!s) _ _ rfl rfl
  have hct := fun W v pb (hv : Rd W 3 v (c.queue (!s)).length (waits (c.queue (!s)))) (hp : W.cell? ⟨pb, 0, none⟩ = some (.int .i64 x.1)) => contains_waits W v (c.queue (!s)) (c.queue (!s)).length pb x.1 rfl hv hp
  have hp5 : w.cell? ⟨b, 5, none⟩ = some (.bool c.closed) := by
    obtain ⟨rb, qb, sb, R, A, B, hp⟩ := h; exact hp.cells.2.2.2.2.2
  have H := Lib.hid h
  have hx0 := heap_alloc_new w (.cells #[.int .i64 x.1, .int .i64 x.2.1, .int .i64 x.2.2] 154)
  have HX := Lib.hid hx0
  have Hs := Lib.hid hs; have Hfew := Lib.hid hfew
  unfold ChS.waitR at hr
  have hrs : c.waitS x s = if c.waitR x s = 0 then c.pushS x s else c := rfl
  have hwr : c.waitR x s = r := by rw [← hr]; rfl
  rw [hwr] at hrs
  have Hrs := Lib.hid (hs.symm.trans hrs)
  clear hs hrs hwr
  generalize (c.queue (!s)).length = n at *
  generalize hoth : (c.queue (!s)).any (fun y => y.1 != x.1) = ot at *
  generalize hmu : c.mute = mu at *
  generalize hfre : c.free s = fr at *
  generalize hclo : c.closed = cl at *
  have Hm := Lib.hid hm; have Hfr := Lib.hid hfr; have Hwt := Lib.hid hwt; have Hct := Lib.hid hct; have Hr := Lib.hid hr; have Hp5 := Lib.hid hp5
  clear hm hfr hwt hct h hr hx0 hfew hoth hmu hfre hclo hp5
  obtain ⟨t, k, y⟩ := x
  have hq5 := ((Fr.refl Nob w).alloc (.cells #[.int .i64 t, .int .i64 k, .int .i64 y] 154)).cell (p := ⟨b, 5, none⟩) id Hp5.out
  cases mu with
  | true =>
    cases s with
    | true =>
      have HrN : Hid (r = 7) := Lib.hid (by rw [← Hr.out]; rfl)
      have HcN : Hid (c' = c) := Lib.hid (by rw [Hrs.out, HrN.out]; rfl)
      go_enter Tryz.func171, Tryz.ntmps171
      go_wp2_with fail
      refine (Hm.out _ ((Fr.refl _ _).alloc _)).mono ?_
      rintro e _ ⟨rfl, rfl⟩
      go_wp2_with fail
      go_ret
      exact ⟨S, by rw [HrN.out]; rfl, ((Fr.refl Nob w).alloc _).none, by rw [HcN.out]; exact H.out.fr0 ((Fr.refl Nob w).alloc _), fun k q => .inl q⟩
    | false =>
      cases cl with
      | true =>
        have HrN : Hid (r = 5) := Lib.hid (by rw [← Hr.out]; rfl)
        have HcN : Hid (c' = c) := Lib.hid (by rw [Hrs.out, HrN.out]; rfl)
        go_enter Tryz.func171, Tryz.ntmps171
        go_wp2_with fail
        refine (Hm.out _ ((Fr.refl _ _).alloc _)).mono ?_
        rintro e _ ⟨rfl, rfl⟩
        go_wp2_with fail
        go_ret
        exact ⟨S, by rw [HrN.out]; rfl, ((Fr.refl Nob w).alloc _).none, by rw [HcN.out]; exact H.out.fr0 ((Fr.refl Nob w).alloc _), fun k q => .inl q⟩
      | false =>
        cases fr with
        | true =>
          have HrN : Hid (r = 1) := Lib.hid (by rw [← Hr.out]; rfl)
          have HcN : Hid (c' = c) := Lib.hid (by rw [Hrs.out, HrN.out]; rfl)
          go_enter Tryz.func171, Tryz.ntmps171
          go_wp2_with fail
          refine (Hm.out _ ((Fr.refl _ _).alloc _)).mono ?_
          rintro e _ ⟨rfl, rfl⟩
          go_wp2_with fail
          refine (Hfr.out _ ((Fr.refl _ _).alloc _)).mono ?_
          rintro e _ ⟨rfl, m, rfl⟩
          go_wp2_with fail
          go_ret
          exact ⟨S, by rw [HrN.out]; rfl, (((Fr.refl Nob w).alloc _).drewN m).none, by rw [HcN.out]; exact H.out.fr0 (((Fr.refl Nob w).alloc _).drewN m), fun k q => .inl q⟩
        | false =>
          cases ot with
          | true =>
            have HrN : Hid (r = 1) := Lib.hid (by rw [← Hr.out]; rfl)
            have HcN : Hid (c' = c) := Lib.hid (by rw [Hrs.out, HrN.out]; rfl)
            go_enter Tryz.func171, Tryz.ntmps171
            go_wp2_with fail
            refine (Hm.out _ ((Fr.refl _ _).alloc _)).mono ?_
            rintro e _ ⟨rfl, rfl⟩
            go_wp2_with fail
            refine (Hfr.out _ ((Fr.refl _ _).alloc _)).mono ?_
            rintro e _ ⟨rfl, m, rfl⟩
            go_wp2_with fail
            refine (Hwt.out _ (((Fr.refl _ _).alloc _).drewN m)).mono ?_
            rintro e w1 ⟨v, rfl, hf1, hs1⟩
            have Hf1 := Lib.hid ((((Fr.refl Nob w).alloc _).drewN m).trans0 hf1)
            have Hs1 := Lib.hid hs1
            have z1 := Lib.hid (hf1.blk id (show ((w.alloc (.cells #[.int .i64 t, .int .i64 k, .int .i64 y] 154)).drewN m).heap[w.heap.size]? = _ from HX.out))
            have Hsz := Lib.hid (show w.heap.size < w1.heap.size from by have := hf1.size; simp at this; omega)
            clear hf1 hs1
            go_wp2_with fail
            refine (Hct.out w1 _ w.heap.size Hs1.out.rd (blk_cell z1.out 0 rfl)).mono ?_
            rintro e w2 ⟨rfl, hf2⟩
            have Hf2 := Lib.hid (Hf1.out.trans0 hf2)
            have z2 := Lib.hid (hf2.blk id z1.out)
            have Hsz2 := Lib.hid (show w.heap.size < w2.heap.size from Nat.lt_of_lt_of_le Hsz.out hf2.size)
            clear hf2
            go_wp2_with fail
            go_ret
            exact ⟨S, by rw [HrN.out]; rfl, Hf2.out.none, by rw [HcN.out]; exact H.out.fr0 (Hf2.out), fun k q => .inl q⟩
          | false =>
            have HrN : Hid (r = 0) := Lib.hid (by rw [← Hr.out]; rfl)
            have HcN : Hid (c' = c.pushS (t, k, y) false) := Lib.hid (by rw [Hrs.out, HrN.out]; rfl)
            go_enter Tryz.func171, Tryz.ntmps171
            go_wp2_with fail
            refine (Hm.out _ ((Fr.refl _ _).alloc _)).mono ?_
            rintro e _ ⟨rfl, rfl⟩
            go_wp2_with fail
            refine (Hfr.out _ ((Fr.refl _ _).alloc _)).mono ?_
            rintro e _ ⟨rfl, m, rfl⟩
            go_wp2_with fail
            refine (Hwt.out _ (((Fr.refl _ _).alloc _).drewN m)).mono ?_
            rintro e w1 ⟨v, rfl, hf1, hs1⟩
            have Hf1 := Lib.hid ((((Fr.refl Nob w).alloc _).drewN m).trans0 hf1)
            have Hs1 := Lib.hid hs1
            have z1 := Lib.hid (hf1.blk id (show ((w.alloc (.cells #[.int .i64 t, .int .i64 k, .int .i64 y] 154)).drewN m).heap[w.heap.size]? = _ from HX.out))
            have Hsz := Lib.hid (show w.heap.size < w1.heap.size from by have := hf1.size; simp at this; omega)
            clear hf1 hs1
            go_wp2_with fail
            refine (Hct.out w1 _ w.heap.size Hs1.out.rd (blk_cell z1.out 0 rfl)).mono ?_
            rintro e w2 ⟨rfl, hf2⟩
            have Hf2 := Lib.hid (Hf1.out.trans0 hf2)
            have z2 := Lib.hid (hf2.blk id z1.out)
            have Hsz2 := Lib.hid (show w.heap.size < w2.heap.size from Nat.lt_of_lt_of_le Hsz.out hf2.size)
            clear hf2
            obtain ⟨rb, qb, sb, R, A, B, hp⟩ := H.out.fr0 Hf2.out
            have hq := chan_queue (hp.fr0 ((Fr.refl Nob w2).drew)) false
            have hpush := wait_push w2.drew A qb c.rv (t, k, y) _ rfl (hp.recv.fr0 ((Fr.refl Nob w2).drew)) Hfew.out.1
            have y0 := blk_cell z2.out 0 rfl
            have y1 := blk_cell z2.out 1 rfl
            have y2 := blk_cell z2.out 2 rfl
            have Hq := Lib.hid hq; have Hpush := Lib.hid hpush; have HP := Lib.hid hp
            clear hq hpush hp
            go_wp2_with fail
            go_still_tail 4, (by kernel_rfl)
            still_call (Hq.out.mono fun e w' h => ⟨h.1, h.2.symm⟩)
            repeat still_step
            refine wpStill_nil ?_
            change wpList _ _ _ _ _ w2.drew
            go_wp2_with fail
            refine Hpush.out.mono ?_
            rintro e w3 ⟨rfl, hf3, hq3⟩
            have Hf3 := Lib.hid hf3; have Hq3 := Lib.hid hq3
            clear hf3 hq3
            go_wp2_with fail
            go_ret
            have hg := (HP.out.fr0 ((Fr.refl Nob w2).drew)).growRecv Hf3.out Hq3.out
            refine ⟨And' S w2.drew w3, by rw [HrN.out]; rfl, (Hf2.out.drew.none).trans0 (Hf3.out.mono fun k _ q => (HP.out.subA k q).1), by rw [HcN.out]; exact ⟨_, _, _, _, _, _, hg⟩, fun k q => ?_⟩
            rcases q with q | q
            · exact .inl q
            · exact .inr (by have := Hsz2.out; have := q.1; simp at this; omega)
  | false =>
    cases s with
    | true =>
      cases cl with
      | true =>
        have HrN : Hid (r = 5) := Lib.hid (by rw [← Hr.out]; rfl)
        have HcN : Hid (c' = c) := Lib.hid (by rw [Hrs.out, HrN.out]; rfl)
        go_enter Tryz.func171, Tryz.ntmps171
        go_wp2_with fail
        refine (Hm.out _ ((Fr.refl _ _).alloc _)).mono ?_
        rintro e _ ⟨rfl, rfl⟩
        go_wp2_with fail
        go_ret
        exact ⟨S, by rw [HrN.out]; rfl, ((Fr.refl Nob w).alloc _).none, by rw [HcN.out]; exact H.out.fr0 ((Fr.refl Nob w).alloc _), fun k q => .inl q⟩
      | false =>
        cases fr with
        | true =>
          have HrN : Hid (r = 1) := Lib.hid (by rw [← Hr.out]; rfl)
          have HcN : Hid (c' = c) := Lib.hid (by rw [Hrs.out, HrN.out]; rfl)
          go_enter Tryz.func171, Tryz.ntmps171
          go_wp2_with fail
          refine (Hm.out _ ((Fr.refl _ _).alloc _)).mono ?_
          rintro e _ ⟨rfl, rfl⟩
          go_wp2_with fail
          refine (Hfr.out _ ((Fr.refl _ _).alloc _)).mono ?_
          rintro e _ ⟨rfl, m, rfl⟩
          go_wp2_with fail
          go_ret
          exact ⟨S, by rw [HrN.out]; rfl, (((Fr.refl Nob w).alloc _).drewN m).none, by rw [HcN.out]; exact H.out.fr0 (((Fr.refl Nob w).alloc _).drewN m), fun k q => .inl q⟩
        | false =>
          cases ot with
          | true =>
            have HrN : Hid (r = 1) := Lib.hid (by rw [← Hr.out]; rfl)
            have HcN : Hid (c' = c) := Lib.hid (by rw [Hrs.out, HrN.out]; rfl)
            go_enter Tryz.func171, Tryz.ntmps171
            go_wp2_with fail
            refine (Hm.out _ ((Fr.refl _ _).alloc _)).mono ?_
            rintro e _ ⟨rfl, rfl⟩
            go_wp2_with fail
            refine (Hfr.out _ ((Fr.refl _ _).alloc _)).mono ?_
            rintro e _ ⟨rfl, m, rfl⟩
            go_wp2_with fail
            refine (Hwt.out _ (((Fr.refl _ _).alloc _).drewN m)).mono ?_
            rintro e w1 ⟨v, rfl, hf1, hs1⟩
            have Hf1 := Lib.hid ((((Fr.refl Nob w).alloc _).drewN m).trans0 hf1)
            have Hs1 := Lib.hid hs1
            have z1 := Lib.hid (hf1.blk id (show ((w.alloc (.cells #[.int .i64 t, .int .i64 k, .int .i64 y] 154)).drewN m).heap[w.heap.size]? = _ from HX.out))
            have Hsz := Lib.hid (show w.heap.size < w1.heap.size from by have := hf1.size; simp at this; omega)
            clear hf1 hs1
            go_wp2_with fail
            refine (Hct.out w1 _ w.heap.size Hs1.out.rd (blk_cell z1.out 0 rfl)).mono ?_
            rintro e w2 ⟨rfl, hf2⟩
            have Hf2 := Lib.hid (Hf1.out.trans0 hf2)
            have z2 := Lib.hid (hf2.blk id z1.out)
            have Hsz2 := Lib.hid (show w.heap.size < w2.heap.size from Nat.lt_of_lt_of_le Hsz.out hf2.size)
            clear hf2
            go_wp2_with fail
            go_ret
            exact ⟨S, by rw [HrN.out]; rfl, Hf2.out.none, by rw [HcN.out]; exact H.out.fr0 (Hf2.out), fun k q => .inl q⟩
          | false =>
            have HrN : Hid (r = 0) := Lib.hid (by rw [← Hr.out]; rfl)
            have HcN : Hid (c' = c.pushS (t, k, y) true) := Lib.hid (by rw [Hrs.out, HrN.out]; rfl)
            go_enter Tryz.func171, Tryz.ntmps171
            go_wp2_with fail
            refine (Hm.out _ ((Fr.refl _ _).alloc _)).mono ?_
            rintro e _ ⟨rfl, rfl⟩
            go_wp2_with fail
            refine (Hfr.out _ ((Fr.refl _ _).alloc _)).mono ?_
            rintro e _ ⟨rfl, m, rfl⟩
            go_wp2_with fail
            refine (Hwt.out _ (((Fr.refl _ _).alloc _).drewN m)).mono ?_
            rintro e w1 ⟨v, rfl, hf1, hs1⟩
            have Hf1 := Lib.hid ((((Fr.refl Nob w).alloc _).drewN m).trans0 hf1)
            have Hs1 := Lib.hid hs1
            have z1 := Lib.hid (hf1.blk id (show ((w.alloc (.cells #[.int .i64 t, .int .i64 k, .int .i64 y] 154)).drewN m).heap[w.heap.size]? = _ from HX.out))
            have Hsz := Lib.hid (show w.heap.size < w1.heap.size from by have := hf1.size; simp at this; omega)
            clear hf1 hs1
            go_wp2_with fail
            refine (Hct.out w1 _ w.heap.size Hs1.out.rd (blk_cell z1.out 0 rfl)).mono ?_
            rintro e w2 ⟨rfl, hf2⟩
            have Hf2 := Lib.hid (Hf1.out.trans0 hf2)
            have z2 := Lib.hid (hf2.blk id z1.out)
            have Hsz2 := Lib.hid (show w.heap.size < w2.heap.size from Nat.lt_of_lt_of_le Hsz.out hf2.size)
            clear hf2
            obtain ⟨rb, qb, sb, R, A, B, hp⟩ := H.out.fr0 Hf2.out
            have hq := chan_queue (hp.fr0 ((Fr.refl Nob w2).drew)) true
            have hpush := wait_push w2.drew B sb c.sd (t, k, y) _ rfl (hp.send.fr0 ((Fr.refl Nob w2).drew)) Hfew.out.2
            have y0 := blk_cell z2.out 0 rfl
            have y1 := blk_cell z2.out 1 rfl
            have y2 := blk_cell z2.out 2 rfl
            have Hq := Lib.hid hq; have Hpush := Lib.hid hpush; have HP := Lib.hid hp
            clear hq hpush hp
            go_wp2_with fail
            go_still_tail 4, (by kernel_rfl)
            still_call (Hq.out.mono fun e w' h => ⟨h.1, h.2.symm⟩)
            repeat still_step
            refine wpStill_nil ?_
            change wpList _ _ _ _ _ w2.drew
            go_wp2_with fail
            refine Hpush.out.mono ?_
            rintro e w3 ⟨rfl, hf3, hq3⟩
            have Hf3 := Lib.hid hf3; have Hq3 := Lib.hid hq3
            clear hf3 hq3
            go_wp2_with fail
            go_ret
            have hg := (HP.out.fr0 ((Fr.refl Nob w2).drew)).growSend Hf3.out Hq3.out
            refine ⟨And' S w2.drew w3, by rw [HrN.out]; rfl, (Hf2.out.drew.none).trans0 (Hf3.out.mono fun k _ q => (HP.out.subB k q).1), by rw [HcN.out]; exact ⟨_, _, _, _, _, _, hg⟩, fun k q => ?_⟩
            rcases q with q | q
            · exact .inl q
            · exact .inr (by have := Hsz2.out; have := q.1; simp at this; omega)
    | false =>
      cases cl with
      | true =>
        have HrN : Hid (r = 5) := Lib.hid (by rw [← Hr.out]; rfl)
        have HcN : Hid (c' = c) := Lib.hid (by rw [Hrs.out, HrN.out]; rfl)
        go_enter Tryz.func171, Tryz.ntmps171
        go_wp2_with fail
        refine (Hm.out _ ((Fr.refl _ _).alloc _)).mono ?_
        rintro e _ ⟨rfl, rfl⟩
        go_wp2_with fail
        go_ret
        exact ⟨S, by rw [HrN.out]; rfl, ((Fr.refl Nob w).alloc _).none, by rw [HcN.out]; exact H.out.fr0 ((Fr.refl Nob w).alloc _), fun k q => .inl q⟩
      | false =>
        cases fr with
        | true =>
          have HrN : Hid (r = 1) := Lib.hid (by rw [← Hr.out]; rfl)
          have HcN : Hid (c' = c) := Lib.hid (by rw [Hrs.out, HrN.out]; rfl)
          go_enter Tryz.func171, Tryz.ntmps171
          go_wp2_with fail
          refine (Hm.out _ ((Fr.refl _ _).alloc _)).mono ?_
          rintro e _ ⟨rfl, rfl⟩
          go_wp2_with fail
          refine (Hfr.out _ ((Fr.refl _ _).alloc _)).mono ?_
          rintro e _ ⟨rfl, m, rfl⟩
          go_wp2_with fail
          go_ret
          exact ⟨S, by rw [HrN.out]; rfl, (((Fr.refl Nob w).alloc _).drewN m).none, by rw [HcN.out]; exact H.out.fr0 (((Fr.refl Nob w).alloc _).drewN m), fun k q => .inl q⟩
        | false =>
          cases ot with
          | true =>
            have HrN : Hid (r = 1) := Lib.hid (by rw [← Hr.out]; rfl)
            have HcN : Hid (c' = c) := Lib.hid (by rw [Hrs.out, HrN.out]; rfl)
            go_enter Tryz.func171, Tryz.ntmps171
            go_wp2_with fail
            refine (Hm.out _ ((Fr.refl _ _).alloc _)).mono ?_
            rintro e _ ⟨rfl, rfl⟩
            go_wp2_with fail
            refine (Hfr.out _ ((Fr.refl _ _).alloc _)).mono ?_
            rintro e _ ⟨rfl, m, rfl⟩
            go_wp2_with fail
            refine (Hwt.out _ (((Fr.refl _ _).alloc _).drewN m)).mono ?_
            rintro e w1 ⟨v, rfl, hf1, hs1⟩
            have Hf1 := Lib.hid ((((Fr.refl Nob w).alloc _).drewN m).trans0 hf1)
            have Hs1 := Lib.hid hs1
            have z1 := Lib.hid (hf1.blk id (show ((w.alloc (.cells #[.int .i64 t, .int .i64 k, .int .i64 y] 154)).drewN m).heap[w.heap.size]? = _ from HX.out))
            have Hsz := Lib.hid (show w.heap.size < w1.heap.size from by have := hf1.size; simp at this; omega)
            clear hf1 hs1
            go_wp2_with fail
            refine (Hct.out w1 _ w.heap.size Hs1.out.rd (blk_cell z1.out 0 rfl)).mono ?_
            rintro e w2 ⟨rfl, hf2⟩
            have Hf2 := Lib.hid (Hf1.out.trans0 hf2)
            have z2 := Lib.hid (hf2.blk id z1.out)
            have Hsz2 := Lib.hid (show w.heap.size < w2.heap.size from Nat.lt_of_lt_of_le Hsz.out hf2.size)
            clear hf2
            go_wp2_with fail
            go_ret
            exact ⟨S, by rw [HrN.out]; rfl, Hf2.out.none, by rw [HcN.out]; exact H.out.fr0 (Hf2.out), fun k q => .inl q⟩
          | false =>
            have HrN : Hid (r = 0) := Lib.hid (by rw [← Hr.out]; rfl)
            have HcN : Hid (c' = c.pushS (t, k, y) false) := Lib.hid (by rw [Hrs.out, HrN.out]; rfl)
            go_enter Tryz.func171, Tryz.ntmps171
            go_wp2_with fail
            refine (Hm.out _ ((Fr.refl _ _).alloc _)).mono ?_
            rintro e _ ⟨rfl, rfl⟩
            go_wp2_with fail
            refine (Hfr.out _ ((Fr.refl _ _).alloc _)).mono ?_
            rintro e _ ⟨rfl, m, rfl⟩
            go_wp2_with fail
            refine (Hwt.out _ (((Fr.refl _ _).alloc _).drewN m)).mono ?_
            rintro e w1 ⟨v, rfl, hf1, hs1⟩
            have Hf1 := Lib.hid ((((Fr.refl Nob w).alloc _).drewN m).trans0 hf1)
            have Hs1 := Lib.hid hs1
            have z1 := Lib.hid (hf1.blk id (show ((w.alloc (.cells #[.int .i64 t, .int .i64 k, .int .i64 y] 154)).drewN m).heap[w.heap.size]? = _ from HX.out))
            have Hsz := Lib.hid (show w.heap.size < w1.heap.size from by have := hf1.size; simp at this; omega)
            clear hf1 hs1
            go_wp2_with fail
            refine (Hct.out w1 _ w.heap.size Hs1.out.rd (blk_cell z1.out 0 rfl)).mono ?_
            rintro e w2 ⟨rfl, hf2⟩
            have Hf2 := Lib.hid (Hf1.out.trans0 hf2)
            have z2 := Lib.hid (hf2.blk id z1.out)
            have Hsz2 := Lib.hid (show w.heap.size < w2.heap.size from Nat.lt_of_lt_of_le Hsz.out hf2.size)
            clear hf2
            obtain ⟨rb, qb, sb, R, A, B, hp⟩ := H.out.fr0 Hf2.out
            have hq := chan_queue (hp.fr0 ((Fr.refl Nob w2).drew)) false
            have hpush := wait_push w2.drew A qb c.rv (t, k, y) _ rfl (hp.recv.fr0 ((Fr.refl Nob w2).drew)) Hfew.out.1
            have y0 := blk_cell z2.out 0 rfl
            have y1 := blk_cell z2.out 1 rfl
            have y2 := blk_cell z2.out 2 rfl
            have Hq := Lib.hid hq; have Hpush := Lib.hid hpush; have HP := Lib.hid hp
            clear hq hpush hp
            go_wp2_with fail
            go_still_tail 4, (by kernel_rfl)
            still_call (Hq.out.mono fun e w' h => ⟨h.1, h.2.symm⟩)
            repeat still_step
            refine wpStill_nil ?_
            change wpList _ _ _ _ _ w2.drew
            go_wp2_with fail
            refine Hpush.out.mono ?_
            rintro e w3 ⟨rfl, hf3, hq3⟩
            have Hf3 := Lib.hid hf3; have Hq3 := Lib.hid hq3
            clear hf3 hq3
            go_wp2_with fail
            go_ret
            have hg := (HP.out.fr0 ((Fr.refl Nob w2).drew)).growRecv Hf3.out Hq3.out
            refine ⟨And' S w2.drew w3, by rw [HrN.out]; rfl, (Hf2.out.drew.none).trans0 (Hf3.out.mono fun k _ q => (HP.out.subA k q).1), by rw [HcN.out]; exact ⟨_, _, _, _, _, _, hg⟩, fun k q => ?_⟩
            rcases q with q | q
            · exact .inl q
            · exact .inr (by have := Hsz2.out; have := q.1; simp at this; omega)
/-- Where end stands: the two queues in a slice of their own, the wakes so far in another. -/
structure EndSt (w wr : World) (S : Nat → Prop) (b rb qb sb : Nat) (R A B : Nat → Prop) (c : ChS) (sq : Nat) (T : Nat → Prop) (a : List Wk) (A2 : Option Addr) (cp n : Nat) : Prop where
  fr : Fr S w wr
  ch : ChP wr S b rb qb sb R A B c
  sqb : wr.heap[sq]? = some (.cells #[.pointer (some ⟨qb, 0, none⟩), .pointer (some ⟨sb, 0, none⟩)] 83 (0, 0))
  sqn : w.heap.size ≤ sq
  old : ∀ k, S k → k < w.heap.size
  tn : ∀ k, T k → w.heap.size ≤ k ∧ k < wr.heap.size ∧ k ≠ sq
  sl : Sl wr T 225 5 (.slice A2 n cp) n (wks a)
  len : a.length = n
structure EndCur (w wr : World) (S : Nat → Prop) (b rb qb sb : Nat) (R A B : Nat → Prop) (c : ChS) (sq : Nat) (T : Nat → Prop) (a : List Wk) (A2 : Option Addr) (cp n pb : Nat) (x : Wt) : Prop where
  st : EndSt w wr S b rb qb sb R A B c sq T a A2 cp n
  cur : wr.heap[pb]? = some (.cells #[.int .i64 x.1, .int .i64 x.2.1, .int .i64 x.2.2] 154 (0, 0))
  pbn : w.heap.size ≤ pb
  pbs : pb ≠ sq
  pbt : ¬ T pb
section
variable {w wr w' : World} {S : Nat → Prop} {b rb qb sb : Nat} {R A B : Nat → Prop} {c : ChS} {sq : Nat} {T : Nat → Prop} {a : List Wk} {A2 : Option Addr} {cp n : Nat}
/-- A frame that touches neither the channel, nor the slices. -/
theorem EndSt.fr0 (h : EndSt w wr S b rb qb sb R A B c sq T a A2 cp n) (hf : Fr Nob wr w') : EndSt w w' S b rb qb sb R A B c sq T a A2 cp n :=
  ⟨h.fr.trans0 hf.none, h.ch.fr0 hf, hf.blk id h.sqb, h.sqn, h.old, fun k q => ⟨(h.tn k q).1, by have := (h.tn k q).2.1; have := hf.size; omega, (h.tn k q).2.2⟩, h.sl.fr hf fun _ _ q => q, h.len⟩
theorem EndCur.fr0 {pb : Nat} {x : Wt} (h : EndCur w wr S b rb qb sb R A B c sq T a A2 cp n pb x) (hf : Fr Nob wr w') : EndCur w w' S b rb qb sb R A B c sq T a A2 cp n pb x :=
  ⟨h.st.fr0 hf, hf.blk id h.cur, h.pbn, h.pbs, h.pbt⟩
end
section
variable {w wr w' : World} {S : Nat → Prop} {b rb qb sb : Nat} {R A B : Nat → Prop} {c : ChS} {sq : Nat} {T : Nat → Prop} {a : List Wk} {A2 : Option Addr} {cp n pb : Nat} {x : Wt}
theorem EndCur.put (h : EndCur w wr S b rb qb sb R A B c sq T a A2 cp n pb x) (y : Wt) :
    EndCur w (((wr.setCell ⟨pb, 0, none⟩ (.int .i64 y.1)).setCell ⟨pb, 1, none⟩ (.int .i64 y.2.1)).setCell ⟨pb, 2, none⟩ (.int .i64 y.2.2)) S b rb qb sb R A B c sq T a A2 cp n pb y := by
  have hf : Fr (fun k => k = pb) wr (((wr.setCell ⟨pb, 0, none⟩ (.int .i64 y.1)).setCell ⟨pb, 1, none⟩ (.int .i64 y.2.1)).setCell ⟨pb, 2, none⟩ (.int .i64 y.2.2)) :=
    (((Fr.refl (fun k => k = pb) wr).setCell (p := ⟨pb, 0, none⟩) (.inl rfl) _).setCell (p := ⟨pb, 1, none⟩) (.inl rfl) _).setCell (p := ⟨pb, 2, none⟩) (.inl rfl) _
  have hpb := h.pbn
  refine ⟨⟨h.st.fr.trans hf fun k hk e => by omega, h.st.ch.fr hf fun k q e => by have := h.st.old k q; omega, hf.blk (fun e => h.pbs e.symm) h.st.sqb, h.st.sqn, h.st.old, fun k q => ⟨(h.st.tn k q).1, by have := (h.st.tn k q).2.1; have := hf.size; omega, (h.st.tn k q).2.2⟩, h.st.sl.fr hf fun k q e => h.pbt (by rw [← e]; exact q), h.st.len⟩, ?_, h.pbn, h.pbs, h.pbt⟩
  rw [blk_set (blk_set (blk_set h.cur 0 _) 1 _) 2 _]; rfl
theorem EndCur.append (h : EndCur w wr S b rb qb sb R A B c sq T a A2 cp n pb x) (hf : Fr T wr w') (k : Wk) {A3 : Option Addr} {c3 : Nat} (hs : Sl w' (fun j => T j ∨ wr.heap.size ≤ j) 225 5 (.slice A3 (n + 1) c3) (n + 1) (wks a ++ wkEn k)) :
    EndCur w w' S b rb qb sb R A B c sq (fun j => (T j ∨ wr.heap.size ≤ j) ∧ j < w'.heap.size) (a ++ [k]) A3 c3 (n + 1) pb x := by
  have hz := h.st.fr.size
  have hpl := lt_of_block h.cur
  have hsl := lt_of_block h.st.sqb
  refine ⟨⟨h.st.fr.trans hf fun j hj q => by have := (h.st.tn j q).1; omega, h.st.ch.fr hf fun j q e => by have := h.st.old j q; have := (h.st.tn j e).1; omega, hf.blk (fun e => (h.st.tn _ e).2.2 rfl) h.st.sqb, h.st.sqn, h.st.old, fun j q => ?_, ?_, by simp [h.st.len]⟩, hf.blk h.pbt h.cur, h.pbn, h.pbs, fun q => ?_⟩
  · rcases q.1 with q' | q'
    · exact ⟨(h.st.tn j q').1, q.2, (h.st.tn j q').2.2⟩
    · exact ⟨by omega, q.2, by omega⟩
  · rw [show wks (a ++ [k]) = wks a ++ wkEn k by simp [wks]]
    exact hs.mono fun j hj q => ⟨q, hj⟩
  · rcases q.1 with q' | q'
    · exact h.pbt q'
    · omega
end
theorem WaitAt.block {w : World} {S : Nat → Prop} {b : Nat} {l : List Wt} (h : WaitAt w S b l) : ∃ cs T, w.heap[b]? = some (.cells cs T (0, 0)) := by
  obtain ⟨xs, h, _⟩ := h; exact ⟨_, _, h.blk⟩
def upd {α : Type} (f : Nat → α) (n : Nat) (x : α) : Nat → α := fun j => if j = n then x else f j
theorem upd_same {α : Type} (f : Nat → α) (n : Nat) (x : α) : upd f n x n = x := if_pos rfl
theorem upd_ne {α : Type} (f : Nat → α) {n j : Nat} (x : α) (h : j ≠ n) : upd f n x j = f j := if_neg h
/-- The channels P, by number, in the blocks B, each in memory of its own within S. -/
def Pool (w : World) (S : Nat → Prop) (B : Nat → Nat) (P : Nat → Option ChS) : Prop :=
  ∃ F : Nat → Nat → Prop, (∀ i c, P i = some c → ChanAt w (F i) (B i) c) ∧ (∀ i k, F i k → S k ∧ k < w.heap.size) ∧ ∀ i j k, F i k → F j k → i = j
section
variable {w w' : World} {S : Nat → Prop} {B : Nat → Nat} {P : Nat → Option ChS}
theorem Pool.fr (h : Pool w S B P) {T : Nat → Prop} (hf : Fr T w w') (hd : ∀ k, S k → T k → False) : Pool w' S B P := by
  obtain ⟨F, h1, h2, h3⟩ := h
  exact ⟨F, fun i c hi => (h1 i c hi).fr hf fun k q => hd k (h2 i k q).1, fun i k q => ⟨(h2 i k q).1, by have := (h2 i k q).2; have := hf.size; omega⟩, h3⟩
theorem Pool.fr0 (h : Pool w S B P) (hf : Fr Nob w w') : Pool w' S B P := h.fr hf fun _ _ q => q
theorem Pool.mono (h : Pool w S B P) {S' : Nat → Prop} (hs : ∀ k, S k → S' k) : Pool w S' B P := by
  obtain ⟨F, h1, h2, h3⟩ := h
  exact ⟨F, h1, fun i k q => ⟨hs k (h2 i k q).1, (h2 i k q).2⟩, h3⟩
theorem Pool.start (w : World) (S : Nat → Prop) (B : Nat → Nat) : Pool w S B (fun _ => none) := ⟨fun _ _ => False, fun i c h => (by cases h), fun i k q => q.elim, fun i j k q => q.elim⟩
theorem Pool.add (h : Pool w S B P) (n : Nat) {T : Nat → Prop} {b : Nat} {c : ChS} (hf : Fr Nob w w') (hc : ChanAt w' T b c) (hT : ∀ k, T k → w.heap.size ≤ k) : Pool w' (And' S w w') (upd B n b) (upd P n (some c)) := by
  obtain ⟨F, h1, h2, h3⟩ := h
  have hz := hf.size
  refine ⟨upd F n T, fun i x hi => ?_, fun i k q => ?_, fun i j k q r => ?_⟩
  · by_cases e : i = n
    · subst e
      rw [upd_same] at hi ⊢; rw [upd_same]
      cases hi
      exact hc
    · rw [upd_ne _ _ e] at hi ⊢; rw [upd_ne _ _ e]
      exact (h1 i x hi).fr0 hf
  · by_cases e : i = n
    · subst e
      rw [upd_same] at q
      exact ⟨.inr ⟨hT k q, hc.lt k q⟩, hc.lt k q⟩
    · rw [upd_ne _ _ e] at q
      exact ⟨.inl (h2 i k q).1, by have := (h2 i k q).2; omega⟩
  · by_cases e : i = n
    · by_cases e2 : j = n
      · omega
      · subst e
        rw [upd_same] at q; rw [upd_ne _ _ e2] at r
        have := hT k q; have := (h2 j k r).2; omega
    · by_cases e2 : j = n
      · subst e2
        rw [upd_same] at r; rw [upd_ne _ _ e] at q
        have := hT k r; have := (h2 i k q).2; omega
      · rw [upd_ne _ _ e] at q; rw [upd_ne _ _ e2] at r
        exact h3 i j k q r
/-- One of them, and what is when it has turned. -/
theorem Pool.at (h : Pool w S B P) {i : Nat} {c : ChS} (hi : P i = some c) : ∃ T, ChanAt w T (B i) c ∧ (∀ k, T k → S k) ∧
    (∀ w' c', Fr T w w' → ChanAt w' T (B i) c' → Pool w' S B (upd P i (some c'))) ∧
    ∀ w' T' c', Fr T w w' → ChanAt w' T' (B i) c' → (∀ k, T' k → T k ∨ w.heap.size ≤ k) → Pool w' (And' S w w') B (upd P i (some c')) := by
  obtain ⟨F, h1, h2, h3⟩ := h
  have key : ∀ w' T' c', Fr (F i) w w' → ChanAt w' T' (B i) c' → (∀ k, T' k → F i k ∨ w.heap.size ≤ k) → ∀ S' : Nat → Prop, (∀ k, S k → S' k) → (∀ k, T' k → S' k) → Pool w' S' B (upd P i (some c')) := by
    intro w' T' c' hf hc hsub S' hs hs'
    have hz := hf.size
    refine ⟨upd F i T', fun j x hj => ?_, fun j k q => ?_, fun j j' k q r => ?_⟩
    · by_cases e : j = i
      · subst e
        rw [upd_same] at hj ⊢
        cases hj
        exact hc
      · rw [upd_ne _ _ e] at hj ⊢
        exact (h1 j x hj).fr hf fun k q r => e (h3 j i k q r)
    · by_cases e : j = i
      · subst e
        rw [upd_same] at q
        exact ⟨hs' k q, hc.lt k q⟩
      · rw [upd_ne _ _ e] at q
        exact ⟨hs k (h2 j k q).1, by have := (h2 j k q).2; omega⟩
    · by_cases e : j = i
      · by_cases e2 : j' = i
        · omega
        · subst e
          rw [upd_same] at q; rw [upd_ne _ _ e2] at r
          rcases hsub k q with q | q
          · exact absurd (h3 _ _ k r q) e2
          · have := (h2 j' k r).2; omega
      · by_cases e2 : j' = i
        · subst e2
          rw [upd_same] at r; rw [upd_ne _ _ e] at q
          rcases hsub k r with r | r
          · exact absurd (h3 _ _ k q r) e
          · have := (h2 j k q).2; omega
        · rw [upd_ne _ _ e] at q; rw [upd_ne _ _ e2] at r
          exact h3 j j' k q r
  refine ⟨F i, h1 i c hi, fun k q => (h2 i k q).1, fun w' c' hf hc => key w' (F i) c' hf hc (fun k q => .inl q) S (fun _ q => q) (fun k q => (h2 i k q).1), fun w' T' c' hf hc hsub => key w' T' c' hf hc hsub _ (fun _ q => .inl q) fun k q => ?_⟩
  rcases hsub k q with q' | q'
  · exact .inl (h2 i k q').1
  · exact .inr ⟨q', hc.lt k q⟩
theorem Pool.few (h : Pool w S B P) {i : Nat} {c : ChS} (hi : P i = some c) : c.rv.length ≤ 100000 ∧ c.sd.length ≤ 100000 := by
  obtain ⟨T, h1, _⟩ := h.at hi; exact h1.few
def PSendP (w : World) (S : Nat → Prop) (B : Nat → Nat) (P : Nat → Option ChS) (d : Bool) (l : List Wk) (n : Nat) (er : Int) (e : Ending) (w' : World) : Prop := ∃ (A : Option Addr) (cp : Nat), e = .returned (.tuple #[.bool d, .slice A n cp, .int .i64 er]) ∧ Fr S w w' ∧ Pool w' S B P ∧ Sl w' (From w.heap.size) 225 5 (.slice A n cp) n (wks l)
theorem pool_send (h : Pool w S B P) (i : Nat) {c c' : ChS} (hi : P i = some c) (v : Int) (d : Bool) (l : List Wk) (n : Nat) (er : Int) (hr : c.sendR v = (d, l, er)) (hs : c.sendS v = c') (hn : l.length = n) :
    Calls Tryz.prog 170 #[.pointer (some ⟨B i, 0, none⟩), .int .i64 v] w (PSendP w S B (upd P i (some c')) d l n er) := by
  obtain ⟨T, h1, h2, h3, _⟩ := h.at hi
  refine (chan_send h1 v d l n er hr hs hn).mono ?_
  rintro e w' ⟨A, cp, rfl, hf, hc, hsl⟩
  exact ⟨A, cp, rfl, hf.mono fun k _ q => h2 k q, h3 w' c' hf hc, hsl.mono fun k _ q => q.1⟩
def PRecvP (w : World) (S : Nat → Prop) (B : Nat → Nat) (P : Nat → Option ChS) (v : Int) (ok d : Bool) (l : List Wk) (n : Nat) (e : Ending) (w' : World) : Prop := ∃ (A : Option Addr) (cp : Nat), e = .returned (.tuple #[.int .i64 v, .bool ok, .bool d, .slice A n cp]) ∧ Fr S w w' ∧ Pool w' S B P ∧ Sl w' (From w.heap.size) 225 5 (.slice A n cp) n (wks l)
theorem pool_recv (h : Pool w S B P) (i : Nat) {c c' : ChS} (hi : P i = some c) (v : Int) (ok d : Bool) (l : List Wk) (n : Nat) (hr : c.recvR = (v, ok, d, l)) (hs : c.recvS = c') (hn : l.length = n) :
    Calls Tryz.prog 172 #[.pointer (some ⟨B i, 0, none⟩)] w (PRecvP w S B (upd P i (some c')) v ok d l n) := by
  obtain ⟨T, h1, h2, h3, _⟩ := h.at hi
  refine (chan_recv h1 v ok d l n hr hs hn).mono ?_
  rintro e w' ⟨A, cp, rfl, hf, hc, hsl⟩
  exact ⟨A, cp, rfl, hf.mono fun k _ q => h2 k q, h3 w' c' hf hc, hsl.mono fun k _ q => q.1⟩
theorem pool_wait (h : Pool w S B P) (i : Nat) {c c' : ChS} (hi : P i = some c) (x : Wt) (s : Bool) (r : Int) (hr : c.waitR x s = r) (hs : c.waitS x s = c') (hfew : c.rv.length < 100000 ∧ c.sd.length < 100000) :
    Calls Tryz.prog 171 #[.pointer (some ⟨B i, 0, none⟩), wtVal x, .bool s] w fun e w' => e = .returned (.int .i64 r) ∧ Fr S w w' ∧ Pool w' (And' S w w') B (upd P i (some c')) := by
  obtain ⟨T, h1, h2, _, h3⟩ := h.at hi
  refine (chan_wait h1 x s r hr hs hfew).mono ?_
  rintro e w' ⟨T', rfl, hf, hc, hsub⟩
  exact ⟨rfl, hf.mono fun k _ q => h2 k q, h3 w' T' c' hf hc hsub⟩
theorem pool_remove (h : Pool w S B P) (i : Nat) {c : ChS} (hi : P i = some c) (t : Int) (n : Nat) (c' : ChS) (hn : c.removeR t = n) (hs : c.removeS t = c') :
    Calls Tryz.prog 165 #[.pointer (some ⟨B i, 0, none⟩), .int .i64 t] w fun e w' => e = .returned (.int .i64 (n : Int)) ∧ Fr S w w' ∧ Pool w' S B (upd P i (some c')) := by
  obtain ⟨T, h1, h2, h3, _⟩ := h.at hi
  refine (chan_remove h1 t n c' hn hs).mono ?_
  rintro e w' ⟨rfl, hf, hc⟩
  exact ⟨rfl, hf.mono fun k _ q => h2 k q, h3 w' c' hf hc⟩
theorem pool_len (h : Pool w S B P) (i : Nat) {c : ChS} (hi : P i = some c) (n : Nat) (hn : c.lenR = n) : Calls Tryz.prog 16 #[.pointer (some ⟨B i, 0, none⟩)] w fun e w' => e = .returned (.int .i64 (n : Int)) ∧ w = w' := by
  obtain ⟨T, h1, _⟩ := h.at hi; exact chan_len w T _ c h1 n hn
theorem pool_waiting (h : Pool w S B P) (i : Nat) {c : ChS} (hi : P i = some c) (s : Bool) (n : Nat) (hn : (c.queue s).length = n) : Calls Tryz.prog 18 #[.pointer (some ⟨B i, 0, none⟩), .bool s] w fun e w' => ∃ (A : Option Addr) (cp : Nat), e = .returned (.slice A n cp) ∧ Fr Nob w w' ∧ Sl w' (From w.heap.size) 154 3 (.slice A n cp) n (waits (c.queue s)) := by
  obtain ⟨T, h1, _⟩ := h.at hi
  refine (chan_waiting w T _ c h1 s _ n rfl hn).mono ?_
  rintro e w' ⟨v, he, hf, hs⟩
  obtain ⟨A, cp, rfl⟩ := hs.slice
  exact ⟨A, cp, he, hf, hs⟩
end
/-- A case: the number of its channel, if it has one; whether it sends; what. -/
abbrev Cs := Option Nat × Bool × Int
def pa (B : Nat → Nat) : Option Nat → Option Addr
  | none => none
  | some i => some ⟨B i, 0, none⟩
abbrev csEn (B : Nat → Nat) (x : Cs) : List Value := [.pointer (pa B x.1), .bool x.2.1, .int .i64 x.2.2]
abbrev css (B : Nat → Nat) (l : List Cs) : List Value := l.flatMap (csEn B)
theorem css_same {B B' : Nat → Nat} : ∀ (l : List Cs), (∀ x ∈ l, ∀ i, x.1 = some i → B' i = B i) → css B' l = css B l
  | [], _ => rfl
  | x :: l, h => by
    have hx : csEn B' x = csEn B x := by
      obtain ⟨o, s, v⟩ := x
      cases o with
      | none => rfl
      | some i => simp only [csEn, pa]; rw [h _ (List.mem_cons_self ..) i rfl]
    simp only [css, List.flatMap_cons]
    rw [hx]
    have := css_same (B := B) (B' := B') l fun y hy => h y (List.mem_cons_of_mem _ hy)
    simp only [css] at this
    rw [this]
def CsOk (P : Nat → Option ChS) (x : Cs) : Prop := ∀ i, x.1 = some i → ∃ c, P i = some c
def canC (P : Nat → Option ChS) (x : Cs) : Bool := match x.1 with
  | none => false
  | some i => match P i with
    | some c => c.canR x.2.1
    | none => false
def muteC (P : Nat → Option ChS) (x : Cs) : Bool := match x.1 with
  | none => false
  | some i => match P i with
    | some c => c.mute
    | none => false
theorem can_nil (w : World) (s : Bool) : Calls Tryz.prog 203 #[.pointer none, .bool s] w fun e w' => e = .returned (.bool false) ∧ w = w' := by
  go_enter Tryz.func203, Tryz.ntmps203
  go_wp2_with fail
  go_ret
  exact ⟨rfl, rfl⟩
theorem mute_nil (w : World) : Calls Tryz.prog 176 #[.pointer none] w fun e w' => e = .returned (.bool false) ∧ w = w' := by
  go_enter Tryz.func176, Tryz.ntmps176
  go_wp2_with fail
  go_ret
  exact ⟨rfl, rfl⟩
theorem wait_nil (w : World) (x : Wt) (s : Bool) : Calls Tryz.prog 171 #[.pointer none, wtVal x, .bool s] w fun e w' => e = .returned (.int .i64 6) ∧ Fr Nob w w' := by
  go_enter Tryz.func171, Tryz.ntmps171
  go_wp2_with fail
  go_ret
  exact ⟨rfl, by first | exact (Fr.refl _ _).alloc _ | exact Fr.refl _ _⟩
theorem queue_nil (w : World) (s : Bool) : Calls Tryz.prog 35 #[.pointer none, .bool s] w fun e w' => e = .returned (.pointer none) ∧ w = w' := by
  go_enter Tryz.func35, Tryz.ntmps35
  go_wp2_with fail
  go_ret
  exact ⟨rfl, rfl⟩
theorem remove_nil (w : World) (t : Int) : Calls Tryz.prog 165 #[.pointer none, .int .i64 t] w fun e w' => e = .returned (.int .i64 0) ∧ Fr Nob w w' := by
  have Hq := Lib.hid (fun W s => queue_nil W s)
  have Hr := Lib.hid (fun W => wait_remove_nil W t)
  go_enter Tryz.func165, Tryz.ntmps165
  go_wp2_with fail
  refine (Hq.out _ _).mono ?_
  rintro e _ ⟨rfl, rfl⟩
  go_wp2_with fail
  refine (Hr.out _).mono ?_
  rintro e w1 ⟨rfl, hf1⟩
  have Hf1 := Lib.hid hf1
  clear hf1
  go_wp2_with fail
  refine (Hq.out _ _).mono ?_
  rintro e _ ⟨rfl, rfl⟩
  go_wp2_with fail
  refine (Hr.out _).mono ?_
  rintro e w2 ⟨rfl, hf2⟩
  have Hf2 := Lib.hid hf2
  clear hf2
  go_wp2_with fail
  go_ret
  exact ⟨rfl, Hf1.out.trans0 Hf2.out⟩
theorem pool_can {w : World} {S : Nat → Prop} {B : Nat → Nat} {P : Nat → Option ChS} (h : Pool w S B P) (x : Cs) (hx : CsOk P x) (r : Bool) (hr : canC P x = r) :
    Calls Tryz.prog 203 #[.pointer (pa B x.1), .bool x.2.1] w fun e w' => e = .returned (.bool r) ∧ ∃ m, w' = w.drewN m := by
  obtain ⟨o, s, v⟩ := x
  cases o with
  | none =>
    subst hr
    exact (can_nil w s).mono fun e w' ⟨h1, h2⟩ => ⟨h1, 0, h2.symm⟩
  | some i =>
    obtain ⟨c, hc⟩ := hx i rfl
    obtain ⟨T, h1, _⟩ := h.at hc
    exact chan_can h1 s r (by rw [← hr]; simp only [canC, hc])
theorem pool_mute {w : World} {S : Nat → Prop} {B : Nat → Nat} {P : Nat → Option ChS} (h : Pool w S B P) (x : Cs) (hx : CsOk P x) (r : Bool) (hr : muteC P x = r) :
    Calls Tryz.prog 176 #[.pointer (pa B x.1)] w fun e w' => e = .returned (.bool r) ∧ w = w' := by
  obtain ⟨o, s, v⟩ := x
  cases o with
  | none =>
    subst hr
    exact mute_nil w
  | some i =>
    obtain ⟨c, hc⟩ := hx i rfl
    obtain ⟨T, h1, _⟩ := h.at hc
    exact chan_mute w T _ c h1 r (by rw [← hr]; simp only [muteC, hc])
/-- The numbers ahead of k that are so. -/
def rdy (f : Nat → Bool) (k : Nat) : List Int := ((List.range k).filter f).map fun i : Nat => (i : Int)
theorem rdy_succ (f : Nat → Bool) (k : Nat) : rdy f (k + 1) = if f k = true then rdy f k ++ [(k : Int)] else rdy f k := by
  unfold rdy
  rw [List.range_succ, List.filter_append, List.map_append]
  by_cases h : f k = true <;> simp [h]
theorem rdy_yes {f : Nat → Bool} {k : Nat} (h : f k = true) : rdy f (k + 1) = rdy f k ++ [(k : Int)] := by rw [rdy_succ, if_pos h]
theorem rdy_no {f : Nat → Bool} {k : Nat} (h : f k = false) : rdy f (k + 1) = rdy f k := by rw [rdy_succ, if_neg (by rw [h]; simp)]
theorem rdy_le (f : Nat → Bool) (k : Nat) : (rdy f k).length ≤ k := by
  unfold rdy; rw [List.length_map]; have := List.length_filter_le f (List.range k); simpa using this
theorem rdy_get {f : Nat → Bool} {k j : Nat} {x : Int} (h : (rdy f k)[j]? = some x) : ∃ i : Nat, x = i ∧ i < k ∧ f i = true := by
  obtain ⟨i, hi, rfl⟩ := List.mem_map.1 (List.mem_of_getElem? h)
  rw [List.mem_filter] at hi
  exact ⟨i, rfl, by simpa using hi.1, hi.2⟩
theorem rdy_none {f : Nat → Bool} {k : Nat} (h : ∀ i, i < k → f i = false) : rdy f k = [] := by
  unfold rdy
  rw [List.map_eq_nil_iff, List.filter_eq_nil_iff]
  intro a ha; rw [h a (by simpa using ha)]; simp
theorem rdy_nil {f : Nat → Bool} {k : Nat} (h : rdy f k = []) : ∀ i, i < k → f i = false := by
  intro i hi
  unfold rdy at h
  rw [List.map_eq_nil_iff, List.filter_eq_nil_iff] at h
  have := h i (by simpa using hi)
  simpa using this
/-- What one does on its channel. -/
def oneR (c : ChS) (x : Cs) : Int × Bool × Bool × List Wk := if x.2.1 then (0, (c.sendR x.2.2).2.2 == 0, (c.sendR x.2.2).2.2 == 5, (c.sendR x.2.2).2.1) else (c.recvR.1, c.recvR.2.1, false, c.recvR.2.2.2)
def oneS (c : ChS) (x : Cs) : ChS := if x.2.1 then c.sendS x.2.2 else c.recvS
/-- A task waits by case number k. -/
def stepF (P : Nat → Option ChS) (f : ChS → ChS) (o : Option Nat) : Nat → Option ChS := match o with
  | none => P
  | some i => match P i with
    | some c => upd P i (some (f c))
    | none => P
def valC (x : Cs) : Int := if x.2.1 then x.2.2 else 0
def parkF (t : Int) : List Cs → Nat → (Nat → Option ChS) → Nat → Option ChS
  | [], _, P => P
  | x :: l, k, P => parkF t l (k + 1) (stepF P (fun c => c.waitS (t, (k : Int), valC x) x.2.1) x.1)
theorem parkF_snoc (t : Int) : ∀ (l : List Cs) (k : Nat) (P : Nat → Option ChS) (x : Cs), parkF t (l ++ [x]) k P = stepF (parkF t l k P) (fun c => c.waitS (t, ((k + l.length : Nat) : Int), valC x) x.2.1) x.1
  | [], k, P, x => by simp [parkF]
  | y :: l, k, P, x => by
    simp only [List.cons_append, parkF]
    rw [parkF_snoc t l (k + 1)]
    have : k + 1 + l.length = k + (y :: l).length := by simp; omega
    rw [this]
def leaveF (t : Int) : List Cs → (Nat → Option ChS) → Nat → Option ChS
  | [], P => P
  | x :: l, P => leaveF t l (stepF P (fun c => c.removeS t) x.1)
def leaveC (t : Int) (P : Nat → Option ChS) (o : Option Nat) : Nat := match o with
  | none => 0
  | some i => match P i with
    | some c => c.removeR t
    | none => 0
def leaveN (t : Int) : List Cs → (Nat → Option ChS) → Nat
  | [], _ => 0
  | x :: l, P => leaveC t P x.1 + leaveN t l (stepF P (fun c => c.removeS t) x.1)
theorem leaveF_snoc (t : Int) : ∀ (l : List Cs) (P : Nat → Option ChS) (x : Cs), leaveF t (l ++ [x]) P = stepF (leaveF t l P) (fun c => c.removeS t) x.1
  | [], P, x => rfl
  | y :: l, P, x => leaveF_snoc t l _ x
theorem leaveN_snoc (t : Int) : ∀ (l : List Cs) (P : Nat → Option ChS) (x : Cs), leaveN t (l ++ [x]) P = leaveN t l P + leaveC t (leaveF t l P) x.1
  | [], P, x => by simp [leaveN, leaveF]
  | y :: l, P, x => by
    simp only [List.cons_append, leaveN, leaveF]
    rw [leaveN_snoc t l _ x, Nat.add_assoc]
/-- No channel has more than so many who wait. -/
def Few (P : Nat → Option ChS) (m : Nat) : Prop := ∀ i c, P i = some c → c.rv.length ≤ m ∧ c.sd.length ≤ m
theorem Few.mono {P : Nat → Option ChS} {m n : Nat} (h : Few P m) (hn : m ≤ n) : Few P n := fun i c hi => ⟨Nat.le_trans (h i c hi).1 hn, Nat.le_trans (h i c hi).2 hn⟩
theorem Few.step {P : Nat → Option ChS} {m n : Nat} (h : Few P m) (hn : m ≤ n) (f : ChS → ChS) (hf : ∀ c : ChS, c.rv.length ≤ m → c.sd.length ≤ m → (f c).rv.length ≤ n ∧ (f c).sd.length ≤ n) (o : Option Nat) : Few (stepF P f o) n := by
  cases o with
  | none => exact h.mono hn
  | some i =>
    unfold stepF
    cases hp : P i with
    | none => simp only [hp]; exact h.mono hn
    | some c =>
      simp only [hp]
      intro j d hj
      by_cases e : j = i
      · subst e; rw [upd_same] at hj; cases hj; exact hf c (h j c hp).1 (h j c hp).2
      · rw [upd_ne _ _ e] at hj; exact h.mono hn j d hj
theorem wait_few (x : Wt) (s : Bool) (m : Nat) (c : ChS) (h1 : c.rv.length ≤ m) (h2 : c.sd.length ≤ m) : (c.waitS x s).rv.length ≤ m + 1 ∧ (c.waitS x s).sd.length ≤ m + 1 := by
  unfold ChS.waitS
  split
  · split
    · exact ⟨by simp; omega, by simp; omega⟩
    · exact ⟨by simp; omega, by simp; omega⟩
  · exact ⟨by omega, by omega⟩
theorem remove_few (t : Int) (m : Nat) (c : ChS) (h1 : c.rv.length ≤ m) (h2 : c.sd.length ≤ m) : (c.removeS t).rv.length ≤ m ∧ (c.removeS t).sd.length ≤ m :=
  ⟨Nat.le_trans (notT_le _ _) h1, Nat.le_trans (notT_le _ _) h2⟩
theorem CsOk.step {P : Nat → Option ChS} {x : Cs} (h : CsOk P x) (f : ChS → ChS) (o : Option Nat) : CsOk (stepF P f o) x := by
  intro i hi
  obtain ⟨c, hc⟩ := h i hi
  cases o with
  | none => exact ⟨c, hc⟩
  | some j =>
    unfold stepF
    cases hp : P j with
    | none => exact ⟨c, by simp only [hp]; exact hc⟩
    | some d =>
      simp only [hp]
      by_cases e : i = j
      · subst e; exact ⟨_, upd_same _ _ _⟩
      · exact ⟨c, by rw [upd_ne _ _ e]; exact hc⟩
theorem CsOk.park {x : Cs} (t : Int) : ∀ (l : List Cs) (k : Nat) (P : Nat → Option ChS), CsOk P x → CsOk (parkF t l k P) x
  | [], _, _, h => h
  | y :: l, k, P, h => CsOk.park t l (k + 1) _ (h.step _ _)
theorem CsOk.leave {x : Cs} (t : Int) : ∀ (l : List Cs) (P : Nat → Option ChS), CsOk P x → CsOk (leaveF t l P) x
  | [], _, h => h
  | y :: l, P, h => CsOk.leave t l _ (h.step _ _)
theorem Few.park (t : Int) : ∀ (l : List Cs) (k : Nat) (P : Nat → Option ChS) (m : Nat), Few P m → Few (parkF t l k P) (m + l.length)
  | [], _, _, m, h => h
  | y :: l, k, P, m, h => by
    have h1 := h.step (Nat.le_succ m) (fun c => c.waitS (t, (k : Int), valC y) y.2.1) (fun c a b => wait_few _ _ m c a b) y.1
    have h2 := Few.park t l (k + 1) _ (m + 1) h1
    have : m + 1 + l.length = m + (y :: l).length := by simp; omega
    rw [← this]; exact h2
theorem Few.leave (t : Int) (m : Nat) : ∀ (l : List Cs) (P : Nat → Option ChS), Few P m → Few (leaveF t l P) m
  | [], _, h => h
  | y :: l, P, h => Few.leave t m l _ (h.step (Nat.le_refl m) (fun c => c.removeS t) (fun c a b => remove_few t m c a b) y.1)
theorem remove_le (t : Int) (m : Nat) (c : ChS) (h1 : c.rv.length ≤ m) (h2 : c.sd.length ≤ m) : c.removeR t ≤ m + m := by unfold ChS.removeR; omega
theorem leaveC_le {t : Int} {P : Nat → Option ChS} {m : Nat} (h : Few P m) (o : Option Nat) : leaveC t P o ≤ m + m := by
  cases o with
  | none => exact Nat.zero_le _
  | some i =>
    unfold leaveC
    cases hp : P i with
    | none => simp only [hp]; exact Nat.zero_le _
    | some c => simp only [hp]; exact remove_le t m c (h i c hp).1 (h i c hp).2
theorem leaveN_le {t : Int} {m : Nat} : ∀ (l : List Cs) (P : Nat → Option ChS), Few P m → leaveN t l P ≤ l.length * (m + m)
  | [], _, _ => Nat.zero_le _
  | x :: l, P, h => by
    have h1 := leaveC_le (t := t) h x.1
    have h2 := leaveN_le (t := t) l _ (h.step (Nat.le_refl m) (fun c => c.removeS t) (fun c a b => remove_few t m c a b) x.1)
    simp only [leaveN, List.length_cons, Nat.add_mul]
    omega
theorem css_get (B : Nat → Nat) (l : List Cs) (k : Nat) (x : Cs) (h : l[k]? = some x) : (css B l)[k * 3]? = some (.pointer (pa B x.1)) ∧ (css B l)[k * 3 + 1]? = some (.bool x.2.1) ∧ (css B l)[k * 3 + 2]? = some (.int .i64 x.2.2) :=
  ⟨by have := rowsGet (sz := 3) (csEn B) (fun _ => rfl) l k 0 x h (by omega); simpa using this, rowsGet (sz := 3) (csEn B) (fun _ => rfl) l k 1 x h (by omega), rowsGet (sz := 3) (csEn B) (fun _ => rfl) l k 2 x h (by omega)⟩
theorem take_snocC (q : List Cs) (k : Nat) (x : Cs) (h : q[k]? = some x) : q.take (k + 1) = q.take k ++ [x] := by rw [List.take_add_one]; simp [h]
def heldT (t : Int) : Int := max (min t 4611686018427387904) (-4611686018427387904)
def addT (t d : Int) : Int := max (min (heldT t + heldT d) 4611686018427387904) (-4611686018427387904)
theorem heldT_lo (t : Int) (h : t < -4611686018427387904) : heldT t = -4611686018427387904 := by unfold heldT; omega
theorem heldT_hi (t : Int) (h : 4611686018427387904 < t) : heldT t = 4611686018427387904 := by unfold heldT; omega
theorem heldT_in (t : Int) (h1 : -4611686018427387904 ≤ t) (h2 : t ≤ 4611686018427387904) : heldT t = t := by unfold heldT; omega
theorem heldT_bd (t : Int) : -4611686018427387904 ≤ heldT t ∧ heldT t ≤ 4611686018427387904 := by unfold heldT; omega
theorem held_any (w : World) (t : Int) : Calls Tryz.prog 109 #[.int .i64 t] w fun e w' => e = .returned (.int .i64 (heldT t)) ∧ w = w' := by
  by_cases h1 : t < -4611686018427387904
  · have H := Lib.hid (heldT_lo t h1)
    go_enter Tryz.func109, Tryz.ntmps109
    go_wp2
    all_goals
      go_ret
      exact ⟨by rw [H.out]; rfl, rfl⟩
  · by_cases h2 : 4611686018427387904 < t
    · have H := Lib.hid (heldT_hi t h2)
      go_enter Tryz.func109, Tryz.ntmps109
      go_wp2
      all_goals
        go_ret
        exact ⟨by rw [H.out]; rfl, rfl⟩
    · have H := Lib.hid (heldT_in t (by omega) (by omega))
      have h3 : -4611686018427387904 ≤ t := by omega
      have h4 : t ≤ 4611686018427387904 := by omega
      go_enter Tryz.func109, Tryz.ntmps109
      go_wp2
      all_goals
        go_ret
        exact ⟨by rw [H.out]; rfl, rfl⟩
theorem clock_add (w : World) (t d : Int) : Calls Tryz.prog 70 #[.int .i64 t, .int .i64 d] w fun e w' => e = .returned (.int .i64 (addT t d)) ∧ w = w' := by
  have h1 := fun W => held_any W t
  have h2 := fun W => held_any W d
  obtain ⟨a1, a2⟩ := heldT_bd t
  obtain ⟨b1, b2⟩ := heldT_bd d
  have hr : addT t d = max (min (heldT t + heldT d) 4611686018427387904) (-4611686018427387904) := rfl
  rw [hr]
  clear hr
  generalize heldT t = a at *
  generalize heldT d = b at *
  have H1 := Lib.hid h1; have H2 := Lib.hid h2
  clear h1 h2
  by_cases hb : 0 < b
  · have hd1 : decide (0 < b) = true := by simp; omega
    by_cases ha : 4611686018427387904 - b < a
    · have hd2 : decide (4611686018427387904 - b < a) = true := by simp; omega
      have hr : max (min (a + b) 4611686018427387904) (-4611686018427387904) = 4611686018427387904 := by omega
      have Hr := Lib.hid hr
      clear hr
      go_enter Tryz.func70, Tryz.ntmps70
      go_wp2_with fail
      refine (H1.out _).mono ?_
      rintro e w' ⟨rfl, rfl⟩
      go_wp2_with fail
      refine (H2.out _).mono ?_
      rintro e w' ⟨rfl, rfl⟩
      go_wp2_with fail
      go_ret
      exact ⟨by rw [Hr.out]; rfl, rfl⟩
    · have hd2 : decide (4611686018427387904 - b < a) = false := by simp; omega
      have hd3 : decide (b < 0) = false := by simp; omega
      have hr : max (min (a + b) 4611686018427387904) (-4611686018427387904) = a + b := by omega
      have hs1 : -4611686018427387904 ≤ a + b := by omega
      have hs2 : a + b ≤ 4611686018427387904 := by omega
      have Hr := Lib.hid hr
      clear hr
      go_enter Tryz.func70, Tryz.ntmps70
      go_wp2_with fail
      refine (H1.out _).mono ?_
      rintro e w' ⟨rfl, rfl⟩
      go_wp2_with fail
      refine (H2.out _).mono ?_
      rintro e w' ⟨rfl, rfl⟩
      go_wp2_with fail
      go_ret
      exact ⟨by rw [Hr.out]; rfl, rfl⟩
  · have hd1 : decide (0 < b) = false := by simp; omega
    by_cases hb0 : b < 0
    · have hd3 : decide (b < 0) = true := by simp; omega
      by_cases ha : a < -4611686018427387904 - b
      · have hd2 : decide (a < -4611686018427387904 - b) = true := by simp; omega
        have hr : max (min (a + b) 4611686018427387904) (-4611686018427387904) = -4611686018427387904 := by omega
        have Hr := Lib.hid hr
        clear hr
        go_enter Tryz.func70, Tryz.ntmps70
        go_wp2_with fail
        refine (H1.out _).mono ?_
        rintro e w' ⟨rfl, rfl⟩
        go_wp2_with fail
        refine (H2.out _).mono ?_
        rintro e w' ⟨rfl, rfl⟩
        go_wp2_with fail
        go_ret
        exact ⟨by rw [Hr.out]; rfl, rfl⟩
      · have hd2 : decide (a < -4611686018427387904 - b) = false := by simp; omega
        have hr : max (min (a + b) 4611686018427387904) (-4611686018427387904) = a + b := by omega
        have hs1 : -4611686018427387904 ≤ a + b := by omega
        have hs2 : a + b ≤ 4611686018427387904 := by omega
        have Hr := Lib.hid hr
        clear hr
        go_enter Tryz.func70, Tryz.ntmps70
        go_wp2_with fail
        refine (H1.out _).mono ?_
        rintro e w' ⟨rfl, rfl⟩
        go_wp2_with fail
        refine (H2.out _).mono ?_
        rintro e w' ⟨rfl, rfl⟩
        go_wp2_with fail
        go_ret
        exact ⟨by rw [Hr.out]; rfl, rfl⟩
    · obtain rfl : b = 0 := by omega
      have hr : max (min (a + 0) 4611686018427387904) (-4611686018427387904) = a := by omega
      rw [hr]
      clear hr
      go_enter Tryz.func70, Tryz.ntmps70
      go_wp2_with fail
      refine (H1.out _).mono ?_
      rintro e w' ⟨rfl, rfl⟩
      go_wp2_with fail
      refine (H2.out _).mono ?_
      rintro e w' ⟨rfl, rfl⟩
      go_wp2_with fail
      go_ret
      exact ⟨by first | rfl | simp, rfl⟩
def mineB (op : Int) : Bool := (decide (1 ≤ op) && decide (op ≤ 7)) || op == 16
theorem mine_any (w : World) (op : Int) : Calls Tryz.prog 84 #[.int .i64 op] w fun e w' => e = .returned (.bool (mineB op)) ∧ w = w' := by
  by_cases h1 : 1 ≤ op
  · have d1 : decide (1 ≤ op) = true := by simp; omega
    by_cases h7 : op ≤ 7
    · have d2 : decide (op ≤ 7) = true := by simp; omega
      have H : Hid (mineB op = true) := Lib.hid (by unfold mineB; rw [d1, d2]; rfl)
      go_enter Tryz.func84, Tryz.ntmps84
      go_wp2_with fail
      go_ret
      exact ⟨by rw [H.out]; rfl, rfl⟩
    · have d2 : decide (op ≤ 7) = false := by simp; omega
      have H : Hid (mineB op = (op == 16)) := Lib.hid (by unfold mineB; rw [d1, d2]; rfl)
      generalize hz : (op == 16) = z at *
      go_enter Tryz.func84, Tryz.ntmps84
      go_wp2_with fail
      go_ret
      exact ⟨by rw [H.out]; rfl, rfl⟩
  · have d1 : decide (1 ≤ op) = false := by simp; omega
    have H : Hid (mineB op = (op == 16)) := Lib.hid (by unfold mineB; rw [d1]; rfl)
    generalize hz : (op == 16) = z at *
    go_enter Tryz.func84, Tryz.ntmps84
    go_wp2_with fail
    go_ret
    exact ⟨by rw [H.out]; rfl, rfl⟩
end Go.Proofs.YtcffplgimbbflaaGreat
