/- TopTimes answers true whatever its inputs are: no condition. -/
import Derived.Test.YtcffplgimbbflaaGreatTmQ2
set_option linter.unusedVariables false
set_option linter.unusedSimpArgs false
namespace Go.Proofs.YtcffplgimbbflaaGreat
open Go.RowKit
set_option maxRecDepth 100000
def WaitP (w : World) (S : Nat → Prop) (b : Nat) (c : ChS) (r : Int) (e : Ending) (w' : World) : Prop := ∃ S' : Nat → Prop, e = .returned (.int .i64 r) ∧ Fr S w w' ∧ ChanAt w' S' b c ∧ ∀ k, S' k → S k ∨ w.heap.size ≤ k
def ChS.pushS (c : ChS) (x : Wt) (s : Bool) : ChS := if s then { c with sd := c.sd ++ [x] } else { c with rv := c.rv ++ [x] }
set_option maxHeartbeats 4000000 in
theorem chan_wait {w : World} {S : Nat → Prop} {b : Nat} {c c' : ChS} (h : ChanAt w S b c) (x : Wt) (s : Bool) (r : Int) (hr : c.waitR x s = r) (hs : c.waitS x s = c') (hfew : c.rv.length < 100000 ∧ c.sd.length < 100000) :
    Calls Tryz.prog 171 #[.pointer (some ⟨b, 0, none⟩), wtVal x, .bool s] w (WaitP w S b c' r) := by
  have hm := fun W (hf : Fr Nob w W) => chan_mute W S b c (h.fr0 hf) _ rfl
  have hfr := fun W (hf : Fr Nob w W) => chan_free W S b c (h.fr0 hf) s _ rfl
  have hwt := fun W (hf : Fr Nob w W) => chan_waiting W S b c (h.fr0 hf) (!s) _ _ rfl rfl
  have hct := fun W v pb (hv : Rd W 3 v (c.queue (!s)).length (waits (c.queue (!s)))) (hp : W.cell? ⟨pb, 0, none⟩ = some (.int .i64 x.1)) => contains_waits W v (c.queue (!s)) (c.queue (!s)).length pb x.1 rfl hv hp
  have hp5 : w.cell? ⟨b, 5, none⟩ = some (.bool c.closed) := by
    obtain ⟨rb, qb, sb, R, A, B, hp⟩ := h; exact hp.cells.2.2.2.2.2
  have H := Lib.hid h
  have hx0 := heap_alloc_new w (.cells #[.int .i64 x.1, .int .i64 x.2.1, .int .i64 x.2.2] 154)
  have HX := Lib.hid hx0
  have Hs := Lib.hid hs; have Hfew := Lib.hid hfew
  unfold ChS.waitR at hr
  have hrs : c.waitS x s = if c.waitR x s = 0 then c.pushS x s else c := rfl
  have hwr : c.waitR x s = r := by rw [← hr]; rfl
  rw [hwr] at hrs
  have Hrs := Lib.hid (hs.symm.trans hrs)
  clear hs hrs hwr
  generalize (c.queue (!s)).length = n at *
  generalize hoth : (c.queue (!s)).any (fun y => y.1 != x.1) = ot at *
  generalize hmu : c.mute = mu at *
  generalize hfre : c.free s = fr at *
  generalize hclo : c.closed = cl at *
  have Hm := Lib.hid hm; have Hfr := Lib.hid hfr; have Hwt := Lib.hid hwt; have Hct := Lib.hid hct; have Hr := Lib.hid hr; have Hp5 := Lib.hid hp5
  clear hm hfr hwt hct h hr hx0 hfew hoth hmu hfre hclo hp5
  obtain ⟨t, k, y⟩ := x
  have hq5 := ((Fr.refl Nob w).alloc (.cells #[.int .i64 t, .int .i64 k, .int .i64 y] 154)).cell (p := ⟨b, 5, none⟩) id Hp5.out
  cases mu with
  | true =>
    cases s with
    | true =>
      have HrN : Hid (r = 7) := Lib.hid (by rw [← Hr.out]; rfl)
      have HcN : Hid (c' = c) := Lib.hid (by rw [Hrs.out, HrN.out]; rfl)
      go_enter Tryz.func171, Tryz.ntmps171
      go_wp2_with fail
      refine (Hm.out _ ((Fr.refl _ _).alloc _)).mono ?_
      rintro e _ ⟨rfl, rfl⟩
      go_wp2_with fail
      go_ret
      exact ⟨S, by rw [HrN.out]; rfl, ((Fr.refl Nob w).alloc _).none, by rw [HcN.out]; exact H.out.fr0 ((Fr.refl Nob w).alloc _), fun k q => .inl q⟩
    | false =>
      cases cl with
      | true =>
        have HrN : Hid (r = 5) := Lib.hid (by rw [← Hr.out]; rfl)
        have HcN : Hid (c' = c) := Lib.hid (by rw [Hrs.out, HrN.out]; rfl)
        go_enter Tryz.func171, Tryz.ntmps171
        go_wp2_with fail
        refine (Hm.out _ ((Fr.refl _ _).alloc _)).mono ?_
        rintro e _ ⟨rfl, rfl⟩
        go_wp2_with fail
        go_ret
        exact ⟨S, by rw [HrN.out]; rfl, ((Fr.refl Nob w).alloc _).none, by rw [HcN.out]; exact H.out.fr0 ((Fr.refl Nob w).alloc _), fun k q => .inl q⟩
      | false =>
        cases fr with
        | true =>
          have HrN : Hid (r = 1) := Lib.hid (by rw [← Hr.out]; rfl)
          have HcN : Hid (c' = c) := Lib.hid (by rw [Hrs.out, HrN.out]; rfl)
          go_enter Tryz.func171, Tryz.ntmps171
          go_wp2_with fail
          refine (Hm.out _ ((Fr.refl _ _).alloc _)).mono ?_
          rintro e _ ⟨rfl, rfl⟩
          go_wp2_with fail
          refine (Hfr.out _ ((Fr.refl _ _).alloc _)).mono ?_
          rintro e _ ⟨rfl, m, rfl⟩
          go_wp2_with fail
          go_ret
          exact ⟨S, by rw [HrN.out]; rfl, (((Fr.refl Nob w).alloc _).drewN m).none, by rw [HcN.out]; exact H.out.fr0 (((Fr.refl Nob w).alloc _).drewN m), fun k q => .inl q⟩
        | false =>
          cases ot with
          | true =>
            have HrN : Hid (r = 1) := Lib.hid (by rw [← Hr.out]; rfl)
            have HcN : Hid (c' = c) := Lib.hid (by rw [Hrs.out, HrN.out]; rfl)
            go_enter Tryz.func171, Tryz.ntmps171
            go_wp2_with fail
            refine (Hm.out _ ((Fr.refl _ _).alloc _)).mono ?_
            rintro e _ ⟨rfl, rfl⟩
            go_wp2_with fail
            refine (Hfr.out _ ((Fr.refl _ _).alloc _)).mono ?_
            rintro e _ ⟨rfl, m, rfl⟩
            go_wp2_with fail
            refine (Hwt.out _ (((Fr.refl _ _).alloc _).drewN m)).mono ?_
            rintro e w1 ⟨v, rfl, hf1, hs1⟩
            have Hf1 := Lib.hid ((((Fr.refl Nob w).alloc _).drewN m).trans0 hf1)
            have Hs1 := Lib.hid hs1
            have z1 := Lib.hid (hf1.blk id (show ((w.alloc (.cells #[.int .i64 t, .int .i64 k, .int .i64 y] 154)).drewN m).heap[w.heap.size]? = _ from HX.out))
            have Hsz := Lib.hid (show w.heap.size < w1.heap.size from by have := hf1.size; simp at this; omega)
            clear hf1 hs1
            go_wp2_with fail
            refine (Hct.out w1 _ w.heap.size Hs1.out.rd (blk_cell z1.out 0 rfl)).mono ?_
            rintro e w2 ⟨rfl, hf2⟩
            have Hf2 := Lib.hid (Hf1.out.trans0 hf2)
            have z2 := Lib.hid (hf2.blk id z1.out)
            have Hsz2 := Lib.hid (show w.heap.size < w2.heap.size from Nat.lt_of_lt_of_le Hsz.out hf2.size)
            clear hf2
            go_wp2_with fail
            go_ret
            exact ⟨S, by rw [HrN.out]; rfl, Hf2.out.none, by rw [HcN.out]; exact H.out.fr0 (Hf2.out), fun k q => .inl q⟩
          | false =>
            have HrN : Hid (r = 0) := Lib.hid (by rw [← Hr.out]; rfl)
            have HcN : Hid (c' = c.pushS (t, k, y) false) := Lib.hid (by rw [Hrs.out, HrN.out]; rfl)
            go_enter Tryz.func171, Tryz.ntmps171
            go_wp2_with fail
            refine (Hm.out _ ((Fr.refl _ _).alloc _)).mono ?_
            rintro e _ ⟨rfl, rfl⟩
            go_wp2_with fail
            refine (Hfr.out _ ((Fr.refl _ _).alloc _)).mono ?_
            rintro e _ ⟨rfl, m, rfl⟩
            go_wp2_with fail
            refine (Hwt.out _ (((Fr.refl _ _).alloc _).drewN m)).mono ?_
            rintro e w1 ⟨v, rfl, hf1, hs1⟩
            have Hf1 := Lib.hid ((((Fr.refl Nob w).alloc _).drewN m).trans0 hf1)
            have Hs1 := Lib.hid hs1
            have z1 := Lib.hid (hf1.blk id (show ((w.alloc (.cells #[.int .i64 t, .int .i64 k, .int .i64 y] 154)).drewN m).heap[w.heap.size]? = _ from HX.out))
            have Hsz := Lib.hid (show w.heap.size < w1.heap.size from by have := hf1.size; simp at this; omega)
            clear hf1 hs1
            go_wp2_with fail
            refine (Hct.out w1 _ w.heap.size Hs1.out.rd (blk_cell z1.out 0 rfl)).mono ?_
            rintro e w2 ⟨rfl, hf2⟩
            have Hf2 := Lib.hid (Hf1.out.trans0 hf2)
            have z2 := Lib.hid (hf2.blk id z1.out)
            have Hsz2 := Lib.hid (show w.heap.size < w2.heap.size from Nat.lt_of_lt_of_le Hsz.out hf2.size)
            clear hf2
            obtain ⟨rb, qb, sb, R, A, B, hp⟩ := H.out.fr0 Hf2.out
            have hq := chan_queue (hp.fr0 ((Fr.refl Nob w2).drew)) false
            have hpush := wait_push w2.drew A qb c.rv (t, k, y) _ rfl (hp.recv.fr0 ((Fr.refl Nob w2).drew)) Hfew.out.1
            have y0 := blk_cell z2.out 0 rfl
            have y1 := blk_cell z2.out 1 rfl
            have y2 := blk_cell z2.out 2 rfl
            have Hq := Lib.hid hq; have Hpush := Lib.hid hpush; have HP := Lib.hid hp
            clear hq hpush hp
            go_wp2_with fail
            go_still_tail 4, (by kernel_rfl)
            still_call (Hq.out.mono fun e w' h => ⟨h.1, h.2.symm⟩)
            repeat still_step
            refine wpStill_nil ?_
            change wpList _ _ _ _ _ w2.drew
            go_wp2_with fail
            refine Hpush.out.mono ?_
            rintro e w3 ⟨rfl, hf3, hq3⟩
            have Hf3 := Lib.hid hf3; have Hq3 := Lib.hid hq3
            clear hf3 hq3
            go_wp2_with fail
            go_ret
            have hg := (HP.out.fr0 ((Fr.refl Nob w2).drew)).growRecv Hf3.out Hq3.out
            refine ⟨And' S w2.drew w3, by rw [HrN.out]; rfl, (Hf2.out.drew.none).trans0 (Hf3.out.mono fun k _ q => (HP.out.subA k q).1), by rw [HcN.out]; exact ⟨_, _, _, _, _, _, hg⟩, fun k q => ?_⟩
            rcases q with q | q
            · exact .inl q
            · exact .inr (by have := Hsz2.out; have := q.1; simp at this; omega)
  | false =>
    cases s with
    | true =>
      cases cl with
      | true =>
        have HrN : Hid (r = 5) := Lib.hid (by rw [← Hr.out]; rfl)
        have HcN : Hid (c' = c) := Lib.hid (by rw [Hrs.out, HrN.out]; rfl)
        go_enter Tryz.func171, Tryz.ntmps171
        go_wp2_with fail
        refine (Hm.out _ ((Fr.refl _ _).alloc _)).mono ?_
        rintro e _ ⟨rfl, rfl⟩
        go_wp2_with fail
        go_ret
        exact ⟨S, by rw [HrN.out]; rfl, ((Fr.refl Nob w).alloc _).none, by rw [HcN.out]; exact H.out.fr0 ((Fr.refl Nob w).alloc _), fun k q => .inl q⟩
      | false =>
        cases fr with
        | true =>
          have HrN : Hid (r = 1) := Lib.hid (by rw [← Hr.out]; rfl)
          have HcN : Hid (c' = c) := Lib.hid (by rw [Hrs.out, HrN.out]; rfl)
          go_enter Tryz.func171, Tryz.ntmps171
          go_wp2_with fail
          refine (Hm.out _ ((Fr.refl _ _).alloc _)).mono ?_
          rintro e _ ⟨rfl, rfl⟩
          go_wp2_with fail
          refine (Hfr.out _ ((Fr.refl _ _).alloc _)).mono ?_
          rintro e _ ⟨rfl, m, rfl⟩
          go_wp2_with fail
          go_ret
          exact ⟨S, by rw [HrN.out]; rfl, (((Fr.refl Nob w).alloc _).drewN m).none, by rw [HcN.out]; exact H.out.fr0 (((Fr.refl Nob w).alloc _).drewN m), fun k q => .inl q⟩
        | false =>
          cases ot with
          | true =>
            have HrN : Hid (r = 1) := Lib.hid (by rw [← Hr.out]; rfl)
            have HcN : Hid (c' = c) := Lib.hid (by rw [Hrs.out, HrN.out]; rfl)
            go_enter Tryz.func171, Tryz.ntmps171
            go_wp2_with fail
            refine (Hm.out _ ((Fr.refl _ _).alloc _)).mono ?_
            rintro e _ ⟨rfl, rfl⟩
            go_wp2_with fail
            refine (Hfr.out _ ((Fr.refl _ _).alloc _)).mono ?_
            rintro e _ ⟨rfl, m, rfl⟩
            go_wp2_with fail
            refine (Hwt.out _ (((Fr.refl _ _).alloc _).drewN m)).mono ?_
            rintro e w1 ⟨v, rfl, hf1, hs1⟩
            have Hf1 := Lib.hid ((((Fr.refl Nob w).alloc _).drewN m).trans0 hf1)
            have Hs1 := Lib.hid hs1
            have z1 := Lib.hid (hf1.blk id (show ((w.alloc (.cells #[.int .i64 t, .int .i64 k, .int .i64 y] 154)).drewN m).heap[w.heap.size]? = _ from HX.out))
            have Hsz := Lib.hid (show w.heap.size < w1.heap.size from by have := hf1.size; simp at this; omega)
            clear hf1 hs1
            go_wp2_with fail
            refine (Hct.out w1 _ w.heap.size Hs1.out.rd (blk_cell z1.out 0 rfl)).mono ?_
            rintro e w2 ⟨rfl, hf2⟩
            have Hf2 := Lib.hid (Hf1.out.trans0 hf2)
            have z2 := Lib.hid (hf2.blk id z1.out)
            have Hsz2 := Lib.hid (show w.heap.size < w2.heap.size from Nat.lt_of_lt_of_le Hsz.out hf2.size)
            clear hf2
            go_wp2_with fail
            go_ret
            exact ⟨S, by rw [HrN.out]; rfl, Hf2.out.none, by rw [HcN.out]; exact H.out.fr0 (Hf2.out), fun k q => .inl q⟩
          | false =>
            have HrN : Hid (r = 0) := Lib.hid (by rw [← Hr.out]; rfl)
            have HcN : Hid (c' = c.pushS (t, k, y) true) := Lib.hid (by rw [Hrs.out, HrN.out]; rfl)
            go_enter Tryz.func171, Tryz.ntmps171
            go_wp2_with fail
            refine (Hm.out _ ((Fr.refl _ _).alloc _)).mono ?_
            rintro e _ ⟨rfl, rfl⟩
            go_wp2_with fail
            refine (Hfr.out _ ((Fr.refl _ _).alloc _)).mono ?_
            rintro e _ ⟨rfl, m, rfl⟩
            go_wp2_with fail
            refine (Hwt.out _ (((Fr.refl _ _).alloc _).drewN m)).mono ?_
            rintro e w1 ⟨v, rfl, hf1, hs1⟩
            have Hf1 := Lib.hid ((((Fr.refl Nob w).alloc _).drewN m).trans0 hf1)
            have Hs1 := Lib.hid hs1
            have z1 := Lib.hid (hf1.blk id (show ((w.alloc (.cells #[.int .i64 t, .int .i64 k, .int .i64 y] 154)).drewN m).heap[w.heap.size]? = _ from HX.out))
            have Hsz := Lib.hid (show w.heap.size < w1.heap.size from by have := hf1.size; simp at this; omega)
            clear hf1 hs1
            go_wp2_with fail
            refine (Hct.out w1 _ w.heap.size Hs1.out.rd (blk_cell z1.out 0 rfl)).mono ?_
            rintro e w2 ⟨rfl, hf2⟩
            have Hf2 := Lib.hid (Hf1.out.trans0 hf2)
            have z2 := Lib.hid (hf2.blk id z1.out)
            have Hsz2 := Lib.hid (show w.heap.size < w2.heap.size from Nat.lt_of_lt_of_le Hsz.out hf2.size)
            clear hf2
            obtain ⟨rb, qb, sb, R, A, B, hp⟩ := H.out.fr0 Hf2.out
            have hq := chan_queue (hp.fr0 ((Fr.refl Nob w2).drew)) true
            have hpush := wait_push w2.drew B sb c.sd (t, k, y) _ rfl (hp.send.fr0 ((Fr.refl Nob w2).drew)) Hfew.out.2
            have y0 := blk_cell z2.out 0 rfl
            have y1 := blk_cell z2.out 1 rfl
            have y2 := blk_cell z2.out 2 rfl
            have Hq := Lib.hid hq; have Hpush := Lib.hid hpush; have HP := Lib.hid hp
            clear hq hpush hp
            go_wp2_with fail
            go_still_tail 4, (by kernel_rfl)
            still_call (Hq.out.mono fun e w' h => ⟨h.1, h.2.symm⟩)
            repeat still_step
            refine wpStill_nil ?_
            change wpList _ _ _ _ _ w2.drew
            go_wp2_with fail
            refine Hpush.out.mono ?_
            rintro e w3 ⟨rfl, hf3, hq3⟩
            have Hf3 := Lib.hid hf3; have Hq3 := Lib.hid hq3
            clear hf3 hq3
            go_wp2_with fail
            go_ret
            have hg := (HP.out.fr0 ((Fr.refl Nob w2).drew)).growSend Hf3.out Hq3.out
            refine ⟨And' S w2.drew w3, by rw [HrN.out]; rfl, (Hf2.out.drew.none).trans0 (Hf3.out.mono fun k _ q => (HP.out.subB k q).1), by rw [HcN.out]; exact ⟨_, _, _, _, _, _, hg⟩, fun k q => ?_⟩
            rcases q with q | q
            · exact .inl q
            · exact .inr (by have := Hsz2.out; have := q.1; simp at this; omega)
    | false =>
      cases cl with
      | true =>
        have HrN : Hid (r = 5) := Lib.hid (by rw [← Hr.out]; rfl)
        have HcN : Hid (c' = c) := Lib.hid (by rw [Hrs.out, HrN.out]; rfl)
        go_enter Tryz.func171, Tryz.ntmps171
        go_wp2_with fail
        refine (Hm.out _ ((Fr.refl _ _).alloc _)).mono ?_
        rintro e _ ⟨rfl, rfl⟩
        go_wp2_with fail
        go_ret
        exact ⟨S, by rw [HrN.out]; rfl, ((Fr.refl Nob w).alloc _).none, by rw [HcN.out]; exact H.out.fr0 ((Fr.refl Nob w).alloc _), fun k q => .inl q⟩
      | false =>
        cases fr with
        | true =>
          have HrN : Hid (r = 1) := Lib.hid (by rw [← Hr.out]; rfl)
          have HcN : Hid (c' = c) := Lib.hid (by rw [Hrs.out, HrN.out]; rfl)
          go_enter Tryz.func171, Tryz.ntmps171
          go_wp2_with fail
          refine (Hm.out _ ((Fr.refl _ _).alloc _)).mono ?_
          rintro e _ ⟨rfl, rfl⟩
          go_wp2_with fail
          refine (Hfr.out _ ((Fr.refl _ _).alloc _)).mono ?_
          rintro e _ ⟨rfl, m, rfl⟩
          go_wp2_with fail
          go_ret
          exact ⟨S, by rw [HrN.out]; rfl, (((Fr.refl Nob w).alloc _).drewN m).none, by rw [HcN.out]; exact H.out.fr0 (((Fr.refl Nob w).alloc _).drewN m), fun k q => .inl q⟩
        | false =>
          cases ot with
          | true =>
            have HrN : Hid (r = 1) := Lib.hid (by rw [← Hr.out]; rfl)
            have HcN : Hid (c' = c) := Lib.hid (by rw [Hrs.out, HrN.out]; rfl)
            go_enter Tryz.func171, Tryz.ntmps171
            go_wp2_with fail
            refine (Hm.out _ ((Fr.refl _ _).alloc _)).mono ?_
            rintro e _ ⟨rfl, rfl⟩
            go_wp2_with fail
            refine (Hfr.out _ ((Fr.refl _ _).alloc _)).mono ?_
            rintro e _ ⟨rfl, m, rfl⟩
            go_wp2_with fail
            refine (Hwt.out _ (((Fr.refl _ _).alloc _).drewN m)).mono ?_
            rintro e w1 ⟨v, rfl, hf1, hs1⟩
            have Hf1 := Lib.hid ((((Fr.refl Nob w).alloc _).drewN m).trans0 hf1)
            have Hs1 := Lib.hid hs1
            have z1 := Lib.hid (hf1.blk id (show ((w.alloc (.cells #[.int .i64 t, .int .i64 k, .int .i64 y] 154)).drewN m).heap[w.heap.size]? = _ from HX.out))
            have Hsz := Lib.hid (show w.heap.size < w1.heap.size from by have := hf1.size; simp at this; omega)
            clear hf1 hs1
            go_wp2_with fail
            refine (Hct.out w1 _ w.heap.size Hs1.out.rd (blk_cell z1.out 0 rfl)).mono ?_
            rintro e w2 ⟨rfl, hf2⟩
            have Hf2 := Lib.hid (Hf1.out.trans0 hf2)
            have z2 := Lib.hid (hf2.blk id z1.out)
            have Hsz2 := Lib.hid (show w.heap.size < w2.heap.size from Nat.lt_of_lt_of_le Hsz.out hf2.size)
            clear hf2
            go_wp2_with fail
            go_ret
            exact ⟨S, by rw [HrN.out]; rfl, Hf2.out.none, by rw [HcN.out]; exact H.out.fr0 (Hf2.out), fun k q => .inl q⟩
          | false =>
            have HrN : Hid (r = 0) := Lib.hid (by rw [← Hr.out]; rfl)
            have HcN : Hid (c' = c.pushS (t, k, y) false) := Lib.hid (by rw [Hrs.out, HrN.out]; rfl)
            go_enter Tryz.func171, Tryz.ntmps171
            go_wp2_with fail
            refine (Hm.out _ ((Fr.refl _ _).alloc _)).mono ?_
            rintro e _ ⟨rfl, rfl⟩
            go_wp2_with fail
            refine (Hfr.out _ ((Fr.refl _ _).alloc _)).mono ?_
            rintro e _ ⟨rfl, m, rfl⟩
            go_wp2_with fail
            refine (Hwt.out _ (((Fr.refl _ _).alloc _).drewN m)).mono ?_
            rintro e w1 ⟨v, rfl, hf1, hs1⟩
            have Hf1 := Lib.hid ((((Fr.refl Nob w).alloc _).drewN m).trans0 hf1)
            have Hs1 := Lib.hid hs1
            have z1 := Lib.hid (hf1.blk id (show ((w.alloc (.cells #[.int .i64 t, .int .i64 k, .int .i64 y] 154)).drewN m).heap[w.heap.size]? = _ from HX.out))
            have Hsz := Lib.hid (show w.heap.size < w1.heap.size from by have := hf1.size; simp at this; omega)
            clear hf1 hs1
            go_wp2_with fail
            refine (Hct.out w1 _ w.heap.size Hs1.out.rd (blk_cell z1.out 0 rfl)).mono ?_
            rintro e w2 ⟨rfl, hf2⟩
            have Hf2 := Lib.hid (Hf1.out.trans0 hf2)
            have z2 := Lib.hid (hf2.blk id z1.out)
            have Hsz2 := Lib.hid (show w.heap.size < w2.heap.size from Nat.lt_of_lt_of_le Hsz.out hf2.size)
            clear hf2
            obtain ⟨rb, qb, sb, R, A, B, hp⟩ := H.out.fr0 Hf2.out
            have hq := chan_queue (hp.fr0 ((Fr.refl Nob w2).drew)) false
            have hpush := wait_push w2.drew A qb c.rv (t, k, y) _ rfl (hp.recv.fr0 ((Fr.refl Nob w2).drew)) Hfew.out.1
            have y0 := blk_cell z2.out 0 rfl
            have y1 := blk_cell z2.out 1 rfl
            have y2 := blk_cell z2.out 2 rfl
            have Hq := Lib.hid hq; have Hpush := Lib.hid hpush; have HP := Lib.hid hp
            clear hq hpush hp
            go_wp2_with fail
            go_still_tail 4, (by kernel_rfl)
            still_call (Hq.out.mono fun e w' h => ⟨h.1, h.2.symm⟩)
            repeat still_step
            refine wpStill_nil ?_
            change wpList _ _ _ _ _ w2.drew
            go_wp2_with fail
            refine Hpush.out.mono ?_
            rintro e w3 ⟨rfl, hf3, hq3⟩
            have Hf3 := Lib.hid hf3; have Hq3 := Lib.hid hq3
            clear hf3 hq3
            go_wp2_with fail
            go_ret
            have hg := (HP.out.fr0 ((Fr.refl Nob w2).drew)).growRecv Hf3.out Hq3.out
            refine ⟨And' S w2.drew w3, by rw [HrN.out]; rfl, (Hf2.out.drew.none).trans0 (Hf3.out.mono fun k _ q => (HP.out.subA k q).1), by rw [HcN.out]; exact ⟨_, _, _, _, _, _, hg⟩, fun k q => ?_⟩
            rcases q with q | q
            · exact .inl q
            · exact .inr (by have := Hsz2.out; have := q.1; simp at this; omega)
/-- Where end stands: the two queues in a slice of their own, the wakes so far in another. -/
structure EndSt (w wr : World) (S : Nat → Prop) (b rb qb sb : Nat) (R A B : Nat → Prop) (c : ChS) (sq : Nat) (T : Nat → Prop) (a : List Wk) (A2 : Option Addr) (cp n : Nat) : Prop where
  fr : Fr S w wr
  ch : ChP wr S b rb qb sb R A B c
  sqb : wr.heap[sq]? = some (.cells #[.pointer (some ⟨qb, 0, none⟩), .pointer (some ⟨sb, 0, none⟩)] 83 (0, 0))
  sqn : w.heap.size ≤ sq
  old : ∀ k, S k → k < w.heap.size
  tn : ∀ k, T k → w.heap.size ≤ k ∧ k < wr.heap.size ∧ k ≠ sq
  sl : Sl wr T 225 5 (.slice A2 n cp) n (wks a)
  len : a.length = n
structure EndCur (w wr : World) (S : Nat → Prop) (b rb qb sb : Nat) (R A B : Nat → Prop) (c : ChS) (sq : Nat) (T : Nat → Prop) (a : List Wk) (A2 : Option Addr) (cp n pb : Nat) (x : Wt) : Prop where
  st : EndSt w wr S b rb qb sb R A B c sq T a A2 cp n
  cur : wr.heap[pb]? = some (.cells #[.int .i64 x.1, .int .i64 x.2.1, .int .i64 x.2.2] 154 (0, 0))
  pbn : w.heap.size ≤ pb
  pbs : pb ≠ sq
  pbt : ¬ T pb
section
variable {w wr w' : World} {S : Nat → Prop} {b rb qb sb : Nat} {R A B : Nat → Prop} {c : ChS} {sq : Nat} {T : Nat → Prop} {a : List Wk} {A2 : Option Addr} {cp n : Nat}
/-- A frame that touches neither the channel, nor the slices. -/
theorem EndSt.fr0 (h : EndSt w wr S b rb qb sb R A B c sq T a A2 cp n) (hf : Fr Nob wr w') : EndSt w w' S b rb qb sb R A B c sq T a A2 cp n :=
  ⟨h.fr.trans0 hf.none, h.ch.fr0 hf, hf.blk id h.sqb, h.sqn, h.old, fun k q => ⟨(h.tn k q).1, by have := (h.tn k q).2.1; have := hf.size; omega, (h.tn k q).2.2⟩, h.sl.fr hf fun _ _ q => q, h.len⟩
theorem EndCur.fr0 {pb : Nat} {x : Wt} (h : EndCur w wr S b rb qb sb R A B c sq T a A2 cp n pb x) (hf : Fr Nob wr w') : EndCur w w' S b rb qb sb R A B c sq T a A2 cp n pb x :=
  ⟨h.st.fr0 hf, hf.blk id h.cur, h.pbn, h.pbs, h.pbt⟩
end
section
variable {w wr w' : World} {S : Nat → Prop} {b rb qb sb : Nat} {R A B : Nat → Prop} {c : ChS} {sq : Nat} {T : Nat → Prop} {a : List Wk} {A2 : Option Addr} {cp n pb : Nat} {x : Wt}
theorem EndCur.put (h : EndCur w wr S b rb qb sb R A B c sq T a A2 cp n pb x) (y : Wt) :
    EndCur w (((wr.setCell ⟨pb, 0, none⟩ (.int .i64 y.1)).setCell ⟨pb, 1, none⟩ (.int .i64 y.2.1)).setCell ⟨pb, 2, none⟩ (.int .i64 y.2.2)) S b rb qb sb R A B c sq T a A2 cp n pb y := by
  have hf : Fr (fun k => k = pb) wr (((wr.setCell ⟨pb, 0, none⟩ (.int .i64 y.1)).setCell ⟨pb, 1, none⟩ (.int .i64 y.2.1)).setCell ⟨pb, 2, none⟩ (.int .i64 y.2.2)) :=
    (((Fr.refl (fun k => k = pb) wr).setCell (p := ⟨pb, 0, none⟩) (.inl rfl) _).setCell (p := ⟨pb, 1, none⟩) (.inl rfl) _).setCell (p := ⟨pb, 2, none⟩) (.inl rfl) _
  have hpb := h.pbn
  refine ⟨⟨h.st.fr.trans hf fun k hk e => by omega, h.st.ch.fr hf fun k q e => by have := h.st.old k q; omega, hf.blk (fun e => h.pbs e.symm) h.st.sqb, h.st.sqn, h.st.old, fun k q => ⟨(h.st.tn k q).1, by have := (h.st.tn k q).2.1; have := hf.size; omega, (h.st.tn k q).2.2⟩, h.st.sl.fr hf fun k q e => h.pbt (by rw [← e]; exact q), h.st.len⟩, ?_, h.pbn, h.pbs, h.pbt⟩
  rw [blk_set (blk_set (blk_set h.cur 0 _) 1 _) 2 _]; rfl
theorem EndCur.append (h : EndCur w wr S b rb qb sb R A B c sq T a A2 cp n pb x) (hf : Fr T wr w') (k : Wk) {A3 : Option Addr} {c3 : Nat} (hs : Sl w' (fun j => T j ∨ wr.heap.size ≤ j) 225 5 (.slice A3 (n + 1) c3) (n + 1) (wks a ++ wkEn k)) :
    EndCur w w' S b rb qb sb R A B c sq (fun j => (T j ∨ wr.heap.size ≤ j) ∧ j < w'.heap.size) (a ++ [k]) A3 c3 (n + 1) pb x := by
  have hz := h.st.fr.size
  have hpl := lt_of_block h.cur
  have hsl := lt_of_block h.st.sqb
  refine ⟨⟨h.st.fr.trans hf fun j hj q => by have := (h.st.tn j q).1; omega, h.st.ch.fr hf fun j q e => by have := h.st.old j q; have := (h.st.tn j e).1; omega, hf.blk (fun e => (h.st.tn _ e).2.2 rfl) h.st.sqb, h.st.sqn, h.st.old, fun j q => ?_, ?_, by simp [h.st.len]⟩, hf.blk h.pbt h.cur, h.pbn, h.pbs, fun q => ?_⟩
  · rcases q.1 with q' | q'
    · exact ⟨(h.st.tn j q').1, q.2, (h.st.tn j q').2.2⟩
    · exact ⟨by omega, q.2, by omega⟩
  · rw [show wks (a ++ [k]) = wks a ++ wkEn k by simp [wks]]
    exact hs.mono fun j hj q => ⟨q, hj⟩
  · rcases q.1 with q' | q'
    · exact h.pbt q'
    · omega
end
theorem WaitAt.block {w : World} {S : Nat → Prop} {b : Nat} {l : List Wt} (h : WaitAt w S b l) : ∃ cs T, w.heap[b]? = some (.cells cs T (0, 0)) := by
  obtain ⟨xs, h, _⟩ := h; exact ⟨_, _, h.blk⟩
def upd {α : Type} (f : Nat → α) (n : Nat) (x : α) : Nat → α := fun j => if j = n then x else f j
theorem upd_same {α : Type} (f : Nat → α) (n : Nat) (x : α) : upd f n x n = x := if_pos rfl
theorem upd_ne {α : Type} (f : Nat → α) {n j : Nat} (x : α) (h : j ≠ n) : upd f n x j = f j := if_neg h
/-- The channels P, by number, in the blocks B, each in memory of its own within S. -/
def Pool (w : World) (S : Nat → Prop) (B : Nat → Nat) (P : Nat → Option ChS) : Prop :=
  ∃ F : Nat → Nat → Prop, (∀ i c, P i = some c → ChanAt w (F i) (B i) c) ∧ (∀ i k, F i k → S k ∧ k < w.heap.size) ∧ ∀ i j k, F i k → F j k → i = j
section
variable {w w' : World} {S : Nat → Prop} {B : Nat → Nat} {P : Nat → Option ChS}
theorem Pool.fr (h : Pool w S B P) {T : Nat → Prop} (hf : Fr T w w') (hd : ∀ k, S k → T k → False) : Pool w' S B P := by
  obtain ⟨F, h1, h2, h3⟩ := h
  exact ⟨F, fun i c hi => (h1 i c hi).fr hf fun k q => hd k (h2 i k q).1, fun i k q => ⟨(h2 i k q).1, by have := (h2 i k q).2; have := hf.size; omega⟩, h3⟩
theorem Pool.fr0 (h : Pool w S B P) (hf : Fr Nob w w') : Pool w' S B P := h.fr hf fun _ _ q => q
theorem Pool.mono (h : Pool w S B P) {S' : Nat → Prop} (hs : ∀ k, S k → S' k) : Pool w S' B P := by
  obtain ⟨F, h1, h2, h3⟩ := h
  exact ⟨F, h1, fun i k q => ⟨hs k (h2 i k q).1, (h2 i k q).2⟩, h3⟩
theorem Pool.start (w : World) (S : Nat → Prop) (B : Nat → Nat) : Pool w S B (fun _ => none) := ⟨fun _ _ => False, fun i c h => (by cases h), fun i k q => q.elim, fun i j k q => q.elim⟩
theorem Pool.add (h : Pool w S B P) (n : Nat) {T : Nat → Prop} {b : Nat} {c : ChS} (hf : Fr Nob w w') (hc : ChanAt w' T b c) (hT : ∀ k, T k → w.heap.size ≤ k) : Pool w' (And' S w w') (upd B n b) (upd P n (some c)) := by
  obtain ⟨F, h1, h2, h3⟩ := h
  have hz := hf.size
  refine ⟨upd F n T, fun i x hi => ?_, fun i k q => ?_, fun i j k q r => ?_⟩
  · by_cases e : i = n
    · subst e
      rw [upd_same] at hi ⊢; rw [upd_same]
      cases hi
      exact hc
    · rw [upd_ne _ _ e] at hi ⊢; rw [upd_ne _ _ e]
      exact (h1 i x hi).fr0 hf
  · by_cases e : i = n
    · subst e
      rw [upd_same] at q
      exact ⟨.inr ⟨hT k q, hc.lt k q⟩, hc.lt k q⟩
    · rw [upd_ne _ _ e] at q
      exact ⟨.inl (h2 i k q).1, by have := (h2 i k q).2; omega⟩
  · by_cases e : i = n
    · by_cases e2 : j = n
      · omega
      · subst e
        rw [upd_same] at q; rw [upd_ne _ _ e2] at r
        have := hT k q; have := (h2 j k r).2; omega
    · by_cases e2 : j = n
      · subst e2
        rw [upd_same] at r; rw [upd_ne _ _ e] at q
        have := hT k r; have := (h2 i k q).2; omega
      · rw [upd_ne _ _ e] at q; rw [upd_ne _ _ e2] at r
        exact h3 i j k q r
/-- One of them, and what is when it has turned. -/
theorem Pool.at (h : Pool w S B P) {i : Nat} {c : ChS} (hi : P i = some c) : ∃ T, ChanAt w T (B i) c ∧ (∀ k, T k → S k) ∧
    (∀ w' c', Fr T w w' → ChanAt w' T (B i) c' → Pool w' S B (upd P i (some c'))) ∧
    ∀ w' T' c', Fr T w w' → ChanAt w' T' (B i) c' → (∀ k, T' k → T k ∨ w.heap.size ≤ k) → Pool w' (And' S w w') B (upd P i (some c')) := by
  obtain ⟨F, h1, h2, h3⟩ := h
  have key : ∀ w' T' c', Fr (F i) w w' → ChanAt w' T' (B i) c' → (∀ k, T' k → F i k ∨ w.heap.size ≤ k) → ∀ S' : Nat → Prop, (∀ k, S k → S' k) → (∀ k, T' k → S' k) → Pool w' S' B (upd P i (some c')) := by
    intro w' T' c' hf hc hsub S' hs hs'
    have hz := hf.size
    refine ⟨upd F i T', fun j x hj => ?_, fun j k q => ?_, fun j j' k q r => ?_⟩
    · by_cases e : j = i
      · subst e
        rw [upd_same] at hj ⊢
        cases hj
        exact hc
      · rw [upd_ne _ _ e] at hj ⊢
        exact (h1 j x hj).fr hf fun k q r => e (h3 j i k q r)
    · by_cases e : j = i
      · subst e
        rw [upd_same] at q
        exact ⟨hs' k q, hc.lt k q⟩
      · rw [upd_ne _ _ e] at q
        exact ⟨hs k (h2 j k q).1, by have := (h2 j k q).2; omega⟩
    · by_cases e : j = i
      · by_cases e2 : j' = i
        · omega
        · subst e
          rw [upd_same] at q; rw [upd_ne _ _ e2] at r
          rcases hsub k q with q | q
          · exact absurd (h3 _ _ k r q) e2
          · have := (h2 j' k r).2; omega
      · by_cases e2 : j' = i
        · subst e2
          rw [upd_same] at r; rw [upd_ne _ _ e] at q
          rcases hsub k r with r | r
          · exact absurd (h3 _ _ k q r) e
          · have := (h2 j k q).2; omega
        · rw [upd_ne _ _ e] at q; rw [upd_ne _ _ e2] at r
          exact h3 j j' k q r
  refine ⟨F i, h1 i c hi, fun k q => (h2 i k q).1, fun w' c' hf hc => key w' (F i) c' hf hc (fun k q => .inl q) S (fun _ q => q) (fun k q => (h2 i k q).1), fun w' T' c' hf hc hsub => key w' T' c' hf hc hsub _ (fun _ q => .inl q) fun k q => ?_⟩
  rcases hsub k q with q' | q'
  · exact .inl (h2 i k q').1
  · exact .inr ⟨q', hc.lt k q⟩
theorem Pool.few (h : Pool w S B P) {i : Nat} {c : ChS} (hi : P i = some c) : c.rv.length ≤ 100000 ∧ c.sd.length ≤ 100000 := by
  obtain ⟨T, h1, _⟩ := h.at hi; exact h1.few
def PSendP (w : World) (S : Nat → Prop) (B : Nat → Nat) (P : Nat → Option ChS) (d : Bool) (l : List Wk) (n : Nat) (er : Int) (e : Ending) (w' : World) : Prop := ∃ (A : Option Addr) (cp : Nat), e = .returned (.tuple #[.bool d, .slice A n cp, .int .i64 er]) ∧ Fr S w w' ∧ Pool w' S B P ∧ Sl w' (From w.heap.size) 225 5 (.slice A n cp) n (wks l)
theorem pool_send (h : Pool w S B P) (i : Nat) {c c' : ChS} (hi : P i = some c) (v : Int) (d : Bool) (l : List Wk) (n : Nat) (er : Int) (hr : c.sendR v = (d, l, er)) (hs : c.sendS v = c') (hn : l.length = n) :
    Calls Tryz.prog 170 #[.pointer (some ⟨B i, 0, none⟩), .int .i64 v] w (PSendP w S B (upd P i (some c')) d l n er) := by
  obtain ⟨T, h1, h2, h3, _⟩ := h.at hi
  refine (chan_send h1 v d l n er hr hs hn).mono ?_
  rintro e w' ⟨A, cp, rfl, hf, hc, hsl⟩
  exact ⟨A, cp, rfl, hf.mono fun k _ q => h2 k q, h3 w' c' hf hc, hsl.mono fun k _ q => q.1⟩
def PRecvP (w : World) (S : Nat → Prop) (B : Nat → Nat) (P : Nat → Option ChS) (v : Int) (ok d : Bool) (l : List Wk) (n : Nat) (e : Ending) (w' : World) : Prop := ∃ (A : Option Addr) (cp : Nat), e = .returned (.tuple #[.int .i64 v, .bool ok, .bool d, .slice A n cp]) ∧ Fr S w w' ∧ Pool w' S B P ∧ Sl w' (From w.heap.size) 225 5 (.slice A n cp) n (wks l)
theorem pool_recv (h : Pool w S B P) (i : Nat) {c c' : ChS} (hi : P i = some c) (v : Int) (ok d : Bool) (l : List Wk) (n : Nat) (hr : c.recvR = (v, ok, d, l)) (hs : c.recvS = c') (hn : l.length = n) :
    Calls Tryz.prog 172 #[.pointer (some ⟨B i, 0, none⟩)] w (PRecvP w S B (upd P i (some c')) v ok d l n) := by
  obtain ⟨T, h1, h2, h3, _⟩ := h.at hi
  refine (chan_recv h1 v ok d l n hr hs hn).mono ?_
  rintro e w' ⟨A, cp, rfl, hf, hc, hsl⟩
  exact ⟨A, cp, rfl, hf.mono fun k _ q => h2 k q, h3 w' c' hf hc, hsl.mono fun k _ q => q.1⟩
theorem pool_wait (h : Pool w S B P) (i : Nat) {c c' : ChS} (hi : P i = some c) (x : Wt) (s : Bool) (r : Int) (hr : c.waitR x s = r) (hs : c.waitS x s = c') (hfew : c.rv.length < 100000 ∧ c.sd.length < 100000) :
    Calls Tryz.prog 171 #[.pointer (some ⟨B i, 0, none⟩), wtVal x, .bool s] w fun e w' => e = .returned (.int .i64 r) ∧ Fr S w w' ∧ Pool w' (And' S w w') B (upd P i (some c')) := by
  obtain ⟨T, h1, h2, _, h3⟩ := h.at hi
  refine (chan_wait h1 x s r hr hs hfew).mono ?_
  rintro e w' ⟨T', rfl, hf, hc, hsub⟩
  exact ⟨rfl, hf.mono fun k _ q => h2 k q, h3 w' T' c' hf hc hsub⟩
theorem pool_len (h : Pool w S B P) (i : Nat) {c : ChS} (hi : P i = some c) (n : Nat) (hn : c.lenR = n) : Calls Tryz.prog 16 #[.pointer (some ⟨B i, 0, none⟩)] w fun e w' => e = .returned (.int .i64 (n : Int)) ∧ w = w' := by
  obtain ⟨T, h1, _⟩ := h.at hi; exact chan_len w T _ c h1 n hn
end
/-- A case: the number of its channel, if it has one; whether it sends; what. -/
abbrev Cs := Option Nat × Bool × Int
def pa (B : Nat → Nat) : Option Nat → Option Addr
  | none => none
  | some i => some ⟨B i, 0, none⟩
abbrev csEn (B : Nat → Nat) (x : Cs) : List Value := [.pointer (pa B x.1), .bool x.2.1, .int .i64 x.2.2]
abbrev css (B : Nat → Nat) (l : List Cs) : List Value := l.flatMap (csEn B)
theorem css_same {B B' : Nat → Nat} : ∀ (l : List Cs), (∀ x ∈ l, ∀ i, x.1 = some i → B' i = B i) → css B' l = css B l
  | [], _ => rfl
  | x :: l, h => by
    have hx : csEn B' x = csEn B x := by
      obtain ⟨o, s, v⟩ := x
      cases o with
      | none => rfl
      | some i => simp only [csEn, pa]; rw [h _ (List.mem_cons_self ..) i rfl]
    simp only [css, List.flatMap_cons]
    rw [hx]
    have := css_same (B := B) (B' := B') l fun y hy => h y (List.mem_cons_of_mem _ hy)
    simp only [css] at this
    rw [this]
def CsOk (P : Nat → Option ChS) (x : Cs) : Prop := ∀ i, x.1 = some i → ∃ c, P i = some c
def canC (P : Nat → Option ChS) (x : Cs) : Bool := match x.1 with
  | none => false
  | some i => match P i with
    | some c => c.canR x.2.1
    | none => false
def muteC (P : Nat → Option ChS) (x : Cs) : Bool := match x.1 with
  | none => false
  | some i => match P i with
    | some c => c.mute
    | none => false
/-- The numbers ahead of k that are so. -/
def rdy (f : Nat → Bool) (k : Nat) : List Int := ((List.range k).filter f).map fun i : Nat => (i : Int)
/-- What one does on its channel. -/
def oneR (c : ChS) (x : Cs) : Int × Bool × Bool × List Wk := if x.2.1 then (0, (c.sendR x.2.2).2.2 == 0, (c.sendR x.2.2).2.2 == 5, (c.sendR x.2.2).2.1) else (c.recvR.1, c.recvR.2.1, false, c.recvR.2.2.2)
def oneS (c : ChS) (x : Cs) : ChS := if x.2.1 then c.sendS x.2.2 else c.recvS
/-- A task waits by case number k. -/
def stepF (P : Nat → Option ChS) (f : ChS → ChS) (o : Option Nat) : Nat → Option ChS := match o with
  | none => P
  | some i => match P i with
    | some c => upd P i (some (f c))
    | none => P
def valC (x : Cs) : Int := if x.2.1 then x.2.2 else 0
def parkF (t : Int) : List Cs → Nat → (Nat → Option ChS) → Nat → Option ChS
  | [], _, P => P
  | x :: l, k, P => parkF t l (k + 1) (stepF P (fun c => c.waitS (t, (k : Int), valC x) x.2.1) x.1)
def leaveF (t : Int) : List Cs → (Nat → Option ChS) → Nat → Option ChS
  | [], P => P
  | x :: l, P => leaveF t l (stepF P (fun c => c.removeS t) x.1)
/-- No channel has more than so many who wait. -/
def Few (P : Nat → Option ChS) (m : Nat) : Prop := ∀ i c, P i = some c → c.rv.length ≤ m ∧ c.sd.length ≤ m
theorem Few.mono {P : Nat → Option ChS} {m n : Nat} (h : Few P m) (hn : m ≤ n) : Few P n := fun i c hi => ⟨Nat.le_trans (h i c hi).1 hn, Nat.le_trans (h i c hi).2 hn⟩
theorem Few.step {P : Nat → Option ChS} {m n : Nat} (h : Few P m) (hn : m ≤ n) (f : ChS → ChS) (hf : ∀ c : ChS, c.rv.length ≤ m → c.sd.length ≤ m → (f c).rv.length ≤ n ∧ (f c).sd.length ≤ n) (o : Option Nat) : Few (stepF P f o) n := by
  cases o with
  | none => exact h.mono hn
  | some i =>
    unfold stepF
    cases hp : P i with
    | none => simp only [hp]; exact h.mono hn
    | some c =>
      simp only [hp]
      intro j d hj
      by_cases e : j = i
      · subst e; rw [upd_same] at hj; cases hj; exact hf c (h j c hp).1 (h j c hp).2
      · rw [upd_ne _ _ e] at hj; exact h.mono hn j d hj
theorem wait_few (x : Wt) (s : Bool) (m : Nat) (c : ChS) (h1 : c.rv.length ≤ m) (h2 : c.sd.length ≤ m) : (c.waitS x s).rv.length ≤ m + 1 ∧ (c.waitS x s).sd.length ≤ m + 1 := by
  unfold ChS.waitS
  split
  · split
    · exact ⟨by simp; omega, by simp; omega⟩
    · exact ⟨by simp; omega, by simp; omega⟩
  · exact ⟨by omega, by omega⟩
theorem CsOk.step {P : Nat → Option ChS} {x : Cs} (h : CsOk P x) (f : ChS → ChS) (o : Option Nat) : CsOk (stepF P f o) x := by
  intro i hi
  obtain ⟨c, hc⟩ := h i hi
  cases o with
  | none => exact ⟨c, hc⟩
  | some j =>
    unfold stepF
    cases hp : P j with
    | none => exact ⟨c, by simp only [hp]; exact hc⟩
    | some d =>
      simp only [hp]
      by_cases e : i = j
      · subst e; exact ⟨_, upd_same _ _ _⟩
      · exact ⟨c, by rw [upd_ne _ _ e]; exact hc⟩
theorem CsOk.park {x : Cs} (t : Int) : ∀ (l : List Cs) (k : Nat) (P : Nat → Option ChS), CsOk P x → CsOk (parkF t l k P) x
  | [], _, _, h => h
  | y :: l, k, P, h => CsOk.park t l (k + 1) _ (h.step _ _)
theorem Few.park (t : Int) : ∀ (l : List Cs) (k : Nat) (P : Nat → Option ChS) (m : Nat), Few P m → Few (parkF t l k P) (m + l.length)
  | [], _, _, m, h => h
  | y :: l, k, P, m, h => by
    have h1 := h.step (Nat.le_succ m) (fun c => c.waitS (t, (k : Int), valC y) y.2.1) (fun c a b => wait_few _ _ m c a b) y.1
    have h2 := Few.park t l (k + 1) _ (m + 1) h1
    have : m + 1 + l.length = m + (y :: l).length := by simp; omega
    rw [← this]; exact h2
/-- A case; an instruction: its operation, A, B, C; the value of its cases, these, and its default. -/
abbrev ICs := Bool × Int × Int
abbrev icsEn (c : ICs) : List Value := [.bool c.1, .int .i64 c.2.1, .int .i64 c.2.2]
abbrev Ins := (Int × Int × Int × Int) × Value × List ICs × Bool
abbrev insEn (i : Ins) : List Value := [.int .i64 i.1.1, .int .i64 i.1.2.1, .int .i64 i.1.2.2.1, .int .i64 i.1.2.2.2, i.2.1, .bool i.2.2.2]
abbrev insV (i : Ins) : Value := .agg #[.int .i64 i.1.1, .int .i64 i.1.2.1, .int .i64 i.1.2.2.1, .int .i64 i.1.2.2.2, i.2.1, .bool i.2.2.2]
def InsOk (w : World) (i : Ins) : Prop := Rd w 3 i.2.1 i.2.2.1.length (i.2.2.1.flatMap icsEn)
theorem InsOk.fr {w w' : World} {i : Ins} (h : InsOk w i) (hf : Fr Nob w w') : InsOk w' i := Rd.fr h hf
theorem csGet (cs : List ICs) (k j : Nat) (y : ICs) (h : cs[k]? = some y) (hj : j < 3) : (cs.flatMap icsEn)[k * 3 + j]? = (icsEn y)[j]? := by
  induction cs generalizing k with
  | nil => simp at h
  | cons x cs ih =>
    rw [List.flatMap_cons]
    cases k with
    | zero =>
      simp at h; subst h
      rw [Nat.zero_mul, Nat.zero_add, List.getElem?_append_left (by simpa using hj)]
    | succ k =>
      rw [List.getElem?_append_right (by simp; omega), show (k + 1) * 3 + j - (icsEn x).length = k * 3 + j by simp; omega]
      exact ih k (by simpa using h)
def regB (n : Int) : Bool := decide (0 ≤ n) && decide (n < 8)
def mayB (k n places : Int) : Bool := if k = 114 then regB n else if k = 112 then decide (0 ≤ n) && decide (n ≤ places) else if k = 103 then decide (0 ≤ n) && decide (n < 16) else if k = 45 then n == 0 else true
def fieldsL : List Int := [114, 110, 45, 114, 114, 45, 114, 110, 45, 112, 45, 45, 114, 112, 45, 114, 45, 45, 45, 45, 45, 114, 103, 45, 114, 110, 45, 114, 114, 45, 114, 114, 114, 114, 45, 45, 114, 114, 45, 114, 114, 45, 114, 114, 114, 114, 45, 45, 114, 114, 114, 114, 114, 114, 114, 114, 103, 114, 114, 45, 114, 114, 114, 114, 114, 45, 114, 114, 114, 114, 114, 114, 114, 114, 45, 114, 114, 45, 114, 114, 45, 114, 114, 45, 114, 114, 45, 114, 114, 114, 114, 114, 103, 114, 114, 45]
def kindB (op : Int) (k : Nat) : Int := fieldsL.getD (3 * (op - 1) + k).toNat 0
def csB (c : ICs) : Bool := regB c.2.1 && regB c.2.2 && (c.1 || c.2.2 == 0)
def headB (op : Int) (cs : List ICs) (d : Bool) : Bool := decide (1 ≤ op) && decide (op ≤ 32) && (op == 15 || (cs.length == 0 && !d)) && decide (cs.length ≤ 16)
def goodB (i : Ins) (places : Int) : Bool := headB i.1.1 i.2.2.1 i.2.2.2 && mayB (kindB i.1.1 0) i.1.2.1 places && mayB (kindB i.1.1 1) i.1.2.2.1 places && mayB (kindB i.1.1 2) i.1.2.2.2 places && i.2.2.1.all csB
theorem register_any (w : World) (n : Int) : Calls Tryz.prog 106 #[.int .i64 n] w fun e w' => e = .returned (.bool (regB n)) ∧ w = w' := by
  by_cases h0 : 0 ≤ n
  · by_cases h8 : n < 8
    · have hr : regB n = true := by simp [regB, h0, h8]
      have Hr := Lib.hid hr
      clear hr
      go_enter Tryz.func106, Tryz.ntmps106
      go_wp2
      go_ret
      exact ⟨by rw [Hr.out]; rfl, rfl⟩
    · have hr : regB n = false := by simp [regB, h8]
      have Hr := Lib.hid hr
      have hd : decide (n < 8) = false := by simp; omega
      clear hr
      go_enter Tryz.func106, Tryz.ntmps106
      go_wp2
      go_ret
      exact ⟨by rw [Hr.out]; rfl, rfl⟩
  · have hr : regB n = false := by simp [regB, h0]
    have Hr := Lib.hid hr
    have hd : decide (0 ≤ n) = false := by simp; omega
    clear hr
    go_enter Tryz.func106, Tryz.ntmps106
    go_wp2
    go_ret
    exact ⟨by rw [Hr.out]; rfl, rfl⟩
theorem may_any (w : World) (k n places : Int) : Calls Tryz.prog 103 #[.int .u8 k, .int .i64 n, .int .i64 places] w fun e w' => e = .returned (.bool (mayB k n places)) ∧ w = w' := by
  have hreg := register_any w n
  by_cases h1 : k = 114
  · subst h1
    have hm : mayB 114 n places = regB n := rfl
    rw [hm]
    have Hreg := Lib.hid hreg
    clear hreg hm
    generalize regB n = r at *
    go_enter Tryz.func103, Tryz.ntmps103
    go_wp2_with fail
    refine Hreg.out.mono ?_
    rintro e w' ⟨rfl, rfl⟩
    go_wp2_with fail
    go_ret
    exact ⟨rfl, rfl⟩
  · clear hreg
    have e1 : (k == 114) = false := beq_eq_false_iff_ne.2 h1
    by_cases h2 : k = 112
    · subst h2
      have hm : mayB 112 n places = (decide (0 ≤ n) && decide (n ≤ places)) := rfl
      by_cases h0 : 0 ≤ n
      · by_cases h8 : n ≤ places
        · have Hr : Hid (mayB 112 n places = true) := by rw [hm]; exact Lib.hid (by simp [h0, h8])
          clear hm
          go_enter Tryz.func103, Tryz.ntmps103
          go_wp2
          go_ret
          exact ⟨by rw [Hr.out]; rfl, rfl⟩
        · have Hr : Hid (mayB 112 n places = false) := by rw [hm]; exact Lib.hid (by simp [h8])
          have hd : decide (n ≤ places) = false := by simp; omega
          clear hm
          go_enter Tryz.func103, Tryz.ntmps103
          go_wp2
          go_ret
          exact ⟨by rw [Hr.out]; rfl, rfl⟩
      · have Hr : Hid (mayB 112 n places = false) := by rw [hm]; exact Lib.hid (by simp [h0])
        have hd : decide (0 ≤ n) = false := by simp; omega
        clear hm
        go_enter Tryz.func103, Tryz.ntmps103
        go_wp2
        go_ret
        exact ⟨by rw [Hr.out]; rfl, rfl⟩
    · have e2 : (k == 112) = false := beq_eq_false_iff_ne.2 h2
      by_cases h3 : k = 103
      · subst h3
        have hm : mayB 103 n places = (decide (0 ≤ n) && decide (n < 16)) := rfl
        by_cases h0 : 0 ≤ n
        · by_cases h8 : n < 16
          · have Hr : Hid (mayB 103 n places = true) := by rw [hm]; exact Lib.hid (by simp [h0, h8])
            clear hm
            go_enter Tryz.func103, Tryz.ntmps103
            go_wp2
            go_ret
            exact ⟨by rw [Hr.out]; rfl, rfl⟩
          · have Hr : Hid (mayB 103 n places = false) := by rw [hm]; exact Lib.hid (by simp [h8])
            have hd : decide (n < 16) = false := by simp; omega
            clear hm
            go_enter Tryz.func103, Tryz.ntmps103
            go_wp2
            go_ret
            exact ⟨by rw [Hr.out]; rfl, rfl⟩
        · have Hr : Hid (mayB 103 n places = false) := by rw [hm]; exact Lib.hid (by simp [h0])
          have hd : decide (0 ≤ n) = false := by simp; omega
          clear hm
          go_enter Tryz.func103, Tryz.ntmps103
          go_wp2
          go_ret
          exact ⟨by rw [Hr.out]; rfl, rfl⟩
      · have e3 : (k == 103) = false := beq_eq_false_iff_ne.2 h3
        by_cases h4 : k = 45
        · subst h4
          have hm : mayB 45 n places = (n == 0) := rfl
          rw [hm]
          clear hm
          generalize hz : (n == 0) = z
          go_enter Tryz.func103, Tryz.ntmps103
          go_wp2
          go_ret
          exact ⟨rfl, rfl⟩
        · have e4 : (k == 45) = false := beq_eq_false_iff_ne.2 h4
          have hm : mayB k n places = true := by simp [mayB, h1, h2, h3, h4]
          have Hm := Lib.hid hm
          clear hm h1 h2 h3 h4
          go_enter Tryz.func103, Tryz.ntmps103
          go_wp2
          go_ret
          exact ⟨by rw [Hm.out]; rfl, rfl⟩
/-- Of a case: that it may not be. -/
theorem bad_case (w : World) (c : ICs) : Calls Tryz.prog 105 #[.agg #[.bool c.1, .int .i64 c.2.1, .int .i64 c.2.2]] w fun e w' => e = .returned (.bool (!(csB c))) ∧ Fr Nob w w' := by
  obtain ⟨s, x, y⟩ := c
  have hr1 := fun w => register_any w x
  have hr2 := fun w => register_any w y
  have hcs : csB (s, x, y) = (regB x && regB y && (s || y == 0)) := rfl
  rw [hcs]
  generalize regB x = r1 at *
  generalize regB y = r2 at *
  have H1 := Lib.hid hr1; have H2 := Lib.hid hr2
  clear hr1 hr2 hcs
  cases r1 with
  | false =>
    go_enter Tryz.func105, Tryz.ntmps105
    go_wp2_with fail
    refine (H1.out _).mono ?_
    rintro e w' ⟨rfl, rfl⟩
    go_wp2_with fail
    go_ret
    exact ⟨rfl, (Fr.refl _ _).alloc _⟩
  | true =>
    cases r2 with
    | false =>
      go_enter Tryz.func105, Tryz.ntmps105
      go_wp2_with fail
      refine (H1.out _).mono ?_
      rintro e w' ⟨rfl, rfl⟩
      go_wp2_with fail
      refine (H2.out _).mono ?_
      rintro e w' ⟨rfl, rfl⟩
      go_wp2_with fail
      go_ret
      exact ⟨rfl, (Fr.refl _ _).alloc _⟩
    | true =>
      cases s with
      | true =>
        go_enter Tryz.func105, Tryz.ntmps105
        go_wp2_with fail
        refine (H1.out _).mono ?_
        rintro e w' ⟨rfl, rfl⟩
        go_wp2_with fail
        refine (H2.out _).mono ?_
        rintro e w' ⟨rfl, rfl⟩
        go_wp2_with fail
        go_ret
        exact ⟨rfl, (Fr.refl _ _).alloc _⟩
      | false =>
        by_cases hy : y = 0
        · subst hy
          go_enter Tryz.func105, Tryz.ntmps105
          go_wp2_with fail
          refine (H1.out _).mono ?_
          rintro e w' ⟨rfl, rfl⟩
          go_wp2_with fail
          refine (H2.out _).mono ?_
          rintro e w' ⟨rfl, rfl⟩
          go_wp2_with fail
          go_ret
          exact ⟨rfl, (Fr.refl _ _).alloc _⟩
        · have e1 : (y == 0) = false := beq_eq_false_iff_ne.2 hy
          have e2 : (y != 0) = true := by simp [hy]
          have hv : (!(true && true && (false || y == 0))) = true := by rw [e1]; rfl
          have Hv := Lib.hid hv
          clear hv hy
          go_enter Tryz.func105, Tryz.ntmps105
          go_wp2_with fail
          refine (H1.out _).mono ?_
          rintro e w' ⟨rfl, rfl⟩
          go_wp2_with fail
          refine (H2.out _).mono ?_
          rintro e w' ⟨rfl, rfl⟩
          go_wp2_with fail
          go_ret
          exact ⟨by rw [Hv.out]; rfl, (Fr.refl _ _).alloc _⟩
def IxP (P : Bool) (w : World) (e : Ending) (w' : World) : Prop := ∃ r : Int, e = .returned (.int .i64 r) ∧ decide (0 ≤ r) = P ∧ Fr Nob w w'
set_option maxHeartbeats 1000000 in
theorem index_cases (w : World) (v : Value) (cs : List ICs) (n : Nat) (hn : cs.length = n) (h : Rd w 3 v n (cs.flatMap icsEn)) :
    Calls Tryz.prog 154 #[v, .func (.func 105) #[] #[]] w (IxP (cs.any fun c => !(csB c)) w) := by
  obtain ⟨_, hl, A, c, rfl, hc1, hc2, hA⟩ := h
  unfold maxLen at hl
  have hyes : ∀ (k : Nat) (x : ICs), cs[k]? = some x → csB x = false → (cs.any fun c => !(csB c)) = true := fun k x hk e => List.any_eq_true.2 ⟨x, List.mem_of_getElem? hk, by simp [e]⟩
  have hno : (∀ (k : Nat) (x : ICs), k < n → cs[k]? = some x → csB x = true) → (cs.any fun c => !(csB c)) = false := fun hh => by
    rw [List.any_eq_false]
    intro y hy
    obtain ⟨k, hk, e⟩ := List.mem_iff_getElem.1 hy
    have := hh k y (by omega) (by rw [List.getElem?_eq_getElem hk, e])
    simp [this]
  have hg : ∀ k, k < n → ∃ x : ICs, cs[k]? = some x ∧ (cs.flatMap icsEn)[k * 3]? = some (.bool x.1) ∧ (cs.flatMap icsEn)[k * 3 + 1]? = some (.int .i64 x.2.1) ∧ (cs.flatMap icsEn)[k * 3 + 2]? = some (.int .i64 x.2.2) := fun k hk => by
    have h0 : cs[k]? = some (cs[k]'(by omega)) := by simp
    refine ⟨_, h0, ?_, ?_, ?_⟩
    · exact csGet cs k 0 _ h0 (by omega)
    · exact csGet cs k 1 _ h0 (by omega)
    · exact csGet cs k 2 _ h0 (by omega)
  have HA := Lib.hid hA; have Hyes := Lib.hid hyes; have Hno := Lib.hid hno; have Hg := Lib.hid hg
  generalize (cs.any fun c => !(csB c)) = P at *
  clear hA hyes hno hg
  go_enter Tryz.func154, Tryz.ntmps154
  go_wp2_with fail
  go_loopw [8] (fun i wr => ∃ k : Nat, k ≤ n ∧ i = .int .i64 k ∧ Fr Nob w wr ∧ Hid (∀ (j : Nat) (x : ICs), j < k → cs[j]? = some x → csB x = true)) (fun i _ => n - (intOf i).toNat)
  case atStart => exact ⟨0, Nat.zero_le _, rfl, Fr.refl _ _, Lib.hid fun j x hj => by omega⟩
  case round =>
    obtain ⟨k, hk, rfl, hfr, hall⟩ := hrel
    have Hfr := Lib.hid hfr
    clear hfr
    by_cases hlt : k < n
    · obtain ⟨x, hx, q0, q1, q2⟩ := Hg.out k hlt
      obtain ⟨g, o, rfl, hgl, hc⟩ := HA.out (by omega)
      have x0 := Hfr.out.cell (p := ⟨g, o + k * 3, none⟩) id (hc _ _ q0)
      have x1 := Hfr.out.cell (p := ⟨g, o + (k * 3 + 1), none⟩) id (hc _ _ q1)
      have x2 := Hfr.out.cell (p := ⟨g, o + (k * 3 + 2), none⟩) id (hc _ _ q2)
      rw [← Nat.add_assoc] at x1 x2
      have hbc := fun W => bad_case W x
      have hy := Hyes.out k x hx
      have hall2 : csB x = true → ∀ (j : Nat) (y : ICs), j < k + 1 → cs[j]? = some y → csB y = true := fun hb j y hj hy => by
        by_cases hjk : j = k
        · subst hjk; rw [hx] at hy; cases hy; exact hb
        · exact hall.out j y (by omega) hy
      obtain ⟨s, a, b⟩ := x
      dsimp only at x0 x1 x2 hbc
      generalize csB (s, a, b) = r at *
      have Hbc := Lib.hid hbc; have Hy := Lib.hid hy; have Hall2 := Lib.hid hall2
      have hki : (k : Int) < n := by omega
      clear hc q0 q1 q2 hx hbc hy hall2
      cases r with
      | true =>
        have Hn2 := Lib.hid (Hall2.out rfl)
        go_wp2_with fail
        refine (Hbc.out _).mono ?_
        rintro e w2 ⟨rfl, hf2⟩
        have Hf2 := Lib.hid (Hfr.out.trans0 hf2)
        clear hf2
        go_wp2_with fail
        go_roundw
        case rel => exact ⟨k + 1, by omega, by go_num, Hf2.out, Hn2⟩
        case measure => simp [intOf]; omega
      | false =>
        have hP := Hy.out rfl
        have HP := Lib.hid hP
        clear hP
        go_wp2_with fail
        refine (Hbc.out _).mono ?_
        rintro e w2 ⟨rfl, hf2⟩
        have Hf2 := Lib.hid (Hfr.out.trans0 hf2)
        clear hf2
        go_wp2_with fail
        go_ret
        exact ⟨k, rfl, by rw [HP.out]; simp, Hf2.out⟩
    · obtain rfl : k = n := by omega
      have HP := Lib.hid (Hno.out fun j x hj hx => hall.out j x hj hx)
      go_wp2_with fail
      go_ret
      exact ⟨-1, rfl, by rw [HP.out]; rfl, Hfr.out⟩
theorem contains_cases (w : World) (v : Value) (cs : List ICs) (n : Nat) (hn : cs.length = n) (h : Rd w 3 v n (cs.flatMap icsEn)) :
    Calls Tryz.prog 104 #[v, .func (.func 105) #[] #[]] w fun e w' => e = .returned (.bool (cs.any fun c => !(csB c))) ∧ Fr Nob w w' := by
  have H := Lib.hid (index_cases w v cs n hn h)
  obtain ⟨_, _, A, c, rfl, _⟩ := h
  generalize (cs.any fun c => !(csB c)) = P at *
  go_enter Tryz.func104, Tryz.ntmps104
  go_wp2_with fail
  refine H.out.mono ?_
  rintro e w' ⟨r, rfl, hr, hf⟩
  have Hf := Lib.hid hf; have Hr := Lib.hid hr
  clear hf hr
  go_wp2_with fail
  go_ret
  exact ⟨by rw [← Hr.out]; rfl, Hf.out⟩
end Go.Proofs.YtcffplgimbbflaaGreat
