/- What Wait of the document's own channel does, whatever the channel is. -/
import Derived.Test.YtdemeghhjnehbaaRefWait
set_option linter.unusedVariables false
set_option linter.unusedSimpArgs false
namespace Go.Proofs.Ytdemeghhjnehbaa
open Go.RowKit
set_option maxRecDepth 100000
theorem ref_wait {w : World} {S : Nat → Prop} {b : Nat} {c c' : ChS} (h : RefAt w S b c) (hfew : c.Few) (x : Wt) (s : Bool) (r : Int) (hr : c.waitR x s = r) (hs : c.waitS x s = c') :
    Calls Try.prog 51 #[.pointer (some ⟨b, 0, none⟩), wtVal x, .bool s] w (WaitF w S b c' r) := by
  have hsame := fun W (hW : Fr Nob w W) (e : c = c') => (e ▸ RfTo.same h hW : RfTo w S b c' W)
  have hH := h
  obtain ⟨v1, v2, v3, h⟩ := h
  obtain ⟨n1, hn1⟩ : ∃ m, c.q.length = m := ⟨_, rfl⟩
  obtain ⟨m2, hm2⟩ : ∃ m, c.sd.length = m := ⟨_, rfl⟩
  obtain ⟨m3, hm3⟩ : ∃ m, c.rv.length = m := ⟨_, rfl⟩
  obtain ⟨sz, hsz⟩ : ∃ m, c.size = m := ⟨_, rfl⟩
  obtain ⟨A1, c1, A2, c2, A3, c3, rfl, rfl, rfl, p0, p1, p2, p3, p4, p5, p6⟩ := h.cells
  have hR2 := h.sd.rd; have hR3 := h.rv.rd
  have hb := h.blk
  have hbl := lt_of_block hb
  rw [hm2] at p5 hR2; rw [hm3] at p6 hR3; rw [hn1] at p4; rw [hsz] at p0
  have hS := fun W (hW : Fr Nob w W) => ref_others W _ c.sd m2 hm2 x.1 (hR2.fr hW)
  have hR := fun W (hW : Fr Nob w W) => ref_others W _ c.rv m3 hm3 x.1 (hR3.fr hW)
  have hpt := fun (ht : c.mute = false) (hk : c.closed = false) (hf : c.free true = false) (ho : (c.rv.any fun y => y.1 != x.1) = false) => wait_push_true hH hfew x ht hk hf ho
  have hpf := fun (hk : c.closed = false) (hf : c.free false = false) (ho : (c.sd.any fun y => y.1 != x.1) = false) => wait_push_false hH hfew x trivial hk hf ho
  have hT7 : s = true → c.mute = true → 7 = r ∧ c = c' := fun h1 h2 => by
    have e : c.waitR x s = 7 := by unfold ChS.waitR; rw [if_pos (by simp [h1, h2])]
    have e2 : c.waitS x s = c := by unfold ChS.waitS; rw [if_neg (by rw [e]; decide)]
    exact ⟨e.symm.trans hr, e2.symm.trans hs⟩
  have hT5 : (c.mute && s) = false → c.closed = true → 5 = r ∧ c = c' := fun h1 h2 => by
    have e : c.waitR x s = 5 := by unfold ChS.waitR; rw [if_neg (by simp [h1]), if_pos h2]
    have e2 : c.waitS x s = c := by unfold ChS.waitS; rw [if_neg (by rw [e]; decide)]
    exact ⟨e.symm.trans hr, e2.symm.trans hs⟩
  have hT1 : (c.mute && s) = false → c.closed = false → (c.free s || (c.queue (!s)).any (fun y => y.1 != x.1)) = true → 1 = r ∧ c = c' := fun h1 h2 h3 => by
    have e : c.waitR x s = 1 := by unfold ChS.waitR; rw [if_neg (by simp [h1]), if_neg (by simp [h2]), if_pos h3]
    have e2 : c.waitS x s = c := by unfold ChS.waitS; rw [if_neg (by rw [e]; decide)]
    exact ⟨e.symm.trans hr, e2.symm.trans hs⟩
  have hT0 : (c.mute && s) = false → c.closed = false → (c.free s || (c.queue (!s)).any (fun y => y.1 != x.1)) = false → 0 = r ∧ (if s then { c with sd := c.sd ++ [x] } else { c with rv := c.rv ++ [x] }) = c' := fun h1 h2 h3 => by
    have e : c.waitR x s = 0 := by unfold ChS.waitR; rw [if_neg (by simp [h1]), if_neg (by simp [h2]), if_neg (by simp [h3])]
    have e2 : c.waitS x s = (if s then { c with sd := c.sd ++ [x] } else { c with rv := c.rv ++ [x] }) := by unfold ChS.waitS; rw [if_pos e]
    exact ⟨e.symm.trans hr, e2.symm.trans hs⟩
  have hft : c.free true = decide (n1 < sz) := by unfold ChS.free; rw [if_pos rfl, hn1, hsz]
  have hff : c.free false = decide (0 < n1) := by unfold ChS.free; rw [if_neg (by simp), hn1]
  clear hR2 hR3 h hb hn1 hm2 hm3 hsz hfew hH hr hs
  have hmu : c.mute = (c.timed || c.signal) := rfl
  have Hsame := Lib.hid hsame; have Hpt := Lib.hid hpt; have Hpf := Lib.hid hpf; have Hft := Lib.hid hft; have Hff := Lib.hid hff; have HT7 := Lib.hid hT7; have HT5 := Lib.hid hT5; have HT1 := Lib.hid hT1; have HT0 := Lib.hid hT0; have Hmu := Lib.hid hmu
  clear hsame hpt hpf hft hff hT7 hT5 hT1 hT0 hmu
  cases s with
  | true =>
    cases ht : c.timed with
    | true =>
      obtain ⟨hr0, he⟩ := HT7.out rfl (by rw [Hmu.out, ht]; rfl)
      rw [ht] at p1
      subst hr0
      have HS := Lib.hid hS; have HR := Lib.hid hR
      obtain ⟨y0, y1, y2⟩ := x
      (try dsimp only at HS HR)
      clear hS hR Hpt Hpf HT7 HT5 HT1 HT0 Hmu Hft Hff
      (try clear ho)
      (try clear hk)
      (try clear ht)
      (try clear hg)
      (try clear hmu0)
      (try clear hms)
      go_enter Try.func51, Try.ntmps51
      go_wp2_with fail
      go_ret
      exact ⟨rfl, Hsame.out _ ((Fr.refl _ _).alloc _) he⟩
    | false =>
      cases hg : c.signal with
      | true =>
        obtain ⟨hr0, he⟩ := HT7.out rfl (by rw [Hmu.out, ht, hg]; rfl)
        rw [ht] at p1; rw [hg] at p2
        subst hr0
        have HS := Lib.hid hS; have HR := Lib.hid hR
        obtain ⟨y0, y1, y2⟩ := x
        (try dsimp only at HS HR)
        clear hS hR Hpt Hpf HT7 HT5 HT1 HT0 Hmu Hft Hff
        (try clear ho)
        (try clear hk)
        (try clear ht)
        (try clear hg)
        (try clear hmu0)
        (try clear hms)
        go_enter Try.func51, Try.ntmps51
        go_wp2_with fail
        go_ret
        exact ⟨rfl, Hsame.out _ ((Fr.refl _ _).alloc _) he⟩
      | false =>
        have hmu0 : c.mute = false := by rw [Hmu.out, ht, hg]; rfl
        rw [ht] at p1; rw [hg] at p2
        cases hk : c.closed with
        | true =>
          obtain ⟨hr0, he⟩ := HT5.out (by rw [hmu0]; rfl) hk
          rw [hk] at p3
          subst hr0
          have HS := Lib.hid hS; have HR := Lib.hid hR
          obtain ⟨y0, y1, y2⟩ := x
          (try dsimp only at HS HR)
          clear hS hR Hpt Hpf HT7 HT5 HT1 HT0 Hmu Hft Hff
          (try clear ho)
          (try clear hk)
          (try clear ht)
          (try clear hg)
          (try clear hmu0)
          (try clear hms)
          go_enter Try.func51, Try.ntmps51
          go_wp2_with fail
          go_ret
          exact ⟨rfl, Hsame.out _ ((Fr.refl _ _).alloc _) he⟩
        | false =>
          by_cases h1 : n1 < sz
          · obtain ⟨hr0, he⟩ := HT1.out (by rw [hmu0]; rfl) hk (by rw [Hft.out, decide_eq_true h1]; rfl)
            rw [hk] at p3
            have hd0 : (n1 : Int) < sz := by omega
            have hd1 : decide ((n1 : Int) < sz) = true := decide_eq_true hd0
            have hd2 : decide (n1 < sz) = true := decide_eq_true h1
            subst hr0
            have HS := Lib.hid hS; have HR := Lib.hid hR
            obtain ⟨y0, y1, y2⟩ := x
            (try dsimp only at HS HR)
            clear hS hR Hpt Hpf HT7 HT5 HT1 HT0 Hmu Hft Hff
            (try clear ho)
            (try clear hk)
            (try clear ht)
            (try clear hg)
            (try clear hmu0)
            (try clear hms)
            go_enter Try.func51, Try.ntmps51
            go_wp2_with fail
            obtain ⟨w1, hw1⟩ : ∃ w1, w1 = w.alloc (.cells #[.int .i64 y0, .int .i64 y1, .int .i64 y2] 63) := ⟨_, rfl⟩
            rw [← hw1]
            obtain ⟨pb, hpb⟩ : ∃ pb, pb = w.heap.size := ⟨_, rfl⟩
            rw [← hpb]
            have hf1 : Fr Nob w w1 := by rw [hw1]; exact (Fr.refl Nob w).alloc _
            have hp1 : w1.heap[pb]? = some (.cells #[.int .i64 y0, .int .i64 y1, .int .i64 y2] 63 (0, 0)) := by rw [hw1, hpb]; exact heap_alloc_new _ _
            have q0 := hf1.cell id p0; have q4 := hf1.cell id p4; have q5 := hf1.cell id p5; have q6 := hf1.cell id p6
            have t0 := blk_cell hp1 0 rfl
            have Hf1 := Lib.hid hf1
            clear hw1 hpb hf1 hp1 p0 p1 p2 p3 p4 p5 p6
            go_quiet (fail)
            obtain ⟨w2, hw2⟩ : ∃ w2, w2 = w1.drewN nq := ⟨_, rfl⟩
            rw [← hw2]
            have hf12 := Fr.ofDrew ⟨nq, hw2⟩
            clear hw2 q0 q4 q5 q6 t0
            go_wp2_with fail
            go_ret
            exact ⟨rfl, Hsame.out _ (Hf1.out.trans0 hf12) he⟩
          · cases ho : (c.rv.any fun y => y.1 != x.1) with
            | true =>
              obtain ⟨hr0, he⟩ := HT1.out (by rw [hmu0]; rfl) hk (by show (_ || (c.rv.any fun y => y.1 != x.1)) = true; rw [ho, Bool.or_true])
              rw [hk] at p3
              rw [ho] at hR
              have hd0 : ¬ (n1 : Int) < sz := by omega
              have hd1 : decide ((n1 : Int) < sz) = false := decide_eq_false hd0
              have hd2 : decide (n1 < sz) = false := decide_eq_false h1
              subst hr0
              have HS := Lib.hid hS; have HR := Lib.hid hR
              obtain ⟨y0, y1, y2⟩ := x
              (try dsimp only at HS HR)
              clear hS hR Hpt Hpf HT7 HT5 HT1 HT0 Hmu Hft Hff
              (try clear ho)
              (try clear hk)
              (try clear ht)
              (try clear hg)
              (try clear hmu0)
              (try clear hms)
              go_enter Try.func51, Try.ntmps51
              go_wp2_with fail
              obtain ⟨w1, hw1⟩ : ∃ w1, w1 = w.alloc (.cells #[.int .i64 y0, .int .i64 y1, .int .i64 y2] 63) := ⟨_, rfl⟩
              rw [← hw1]
              obtain ⟨pb, hpb⟩ : ∃ pb, pb = w.heap.size := ⟨_, rfl⟩
              rw [← hpb]
              have hf1 : Fr Nob w w1 := by rw [hw1]; exact (Fr.refl Nob w).alloc _
              have hp1 : w1.heap[pb]? = some (.cells #[.int .i64 y0, .int .i64 y1, .int .i64 y2] 63 (0, 0)) := by rw [hw1, hpb]; exact heap_alloc_new _ _
              have q0 := hf1.cell id p0; have q4 := hf1.cell id p4; have q5 := hf1.cell id p5; have q6 := hf1.cell id p6
              have t0 := blk_cell hp1 0 rfl
              have Hf1 := Lib.hid hf1
              clear hw1 hpb hf1 hp1 p0 p1 p2 p3 p4 p5 p6
              go_quiet ((go_at_call 78; exact Calls.quiet_of_same ((HR.out _ (Hf1.out.trans0 ((Fr.refl Nob w1).drewN _))).mono fun e w' h => ⟨h.1, h.2.symm⟩)))
              obtain ⟨w2, hw2⟩ : ∃ w2, w2 = w1.drewN nq := ⟨_, rfl⟩
              rw [← hw2]
              have hf12 := Fr.ofDrew ⟨nq, hw2⟩
              clear hw2 q0 q4 q5 q6 t0
              go_wp2_with fail
              go_ret
              exact ⟨rfl, Hsame.out _ (Hf1.out.trans0 hf12) he⟩
            | false =>
              have hfr : c.free true = false := by rw [Hft.out]; exact decide_eq_false h1
              obtain ⟨rfl, rfl⟩ := HT0.out (by rw [hmu0]; rfl) hk (by show (c.free true || (c.rv.any fun y => y.1 != x.1)) = false; rw [ho, hfr]; rfl)
              exact Hpt.out hmu0 hk hfr ho
  | false =>
    have hms : (c.mute && false) = false := Bool.and_false _
    cases hk : c.closed with
    | true =>
      obtain ⟨hr0, he⟩ := HT5.out hms hk
      rw [hk] at p3
      subst hr0
      have HS := Lib.hid hS; have HR := Lib.hid hR
      obtain ⟨y0, y1, y2⟩ := x
      (try dsimp only at HS HR)
      clear hS hR Hpt Hpf HT7 HT5 HT1 HT0 Hmu Hft Hff
      (try clear ho)
      (try clear hk)
      (try clear ht)
      (try clear hg)
      (try clear hmu0)
      (try clear hms)
      go_enter Try.func51, Try.ntmps51
      go_wp2_with fail
      go_ret
      exact ⟨rfl, Hsame.out _ ((Fr.refl _ _).alloc _) he⟩
    | false =>
      by_cases h1 : 0 < n1
      · obtain ⟨hr0, he⟩ := HT1.out hms hk (by rw [Hff.out, decide_eq_true h1]; rfl)
        rw [hk] at p3
        have hd0 : (0 : Int) < n1 := by omega
        have hd2 : decide (0 < n1) = true := decide_eq_true h1
        subst hr0
        have HS := Lib.hid hS; have HR := Lib.hid hR
        obtain ⟨y0, y1, y2⟩ := x
        (try dsimp only at HS HR)
        clear hS hR Hpt Hpf HT7 HT5 HT1 HT0 Hmu Hft Hff
        (try clear ho)
        (try clear hk)
        (try clear ht)
        (try clear hg)
        (try clear hmu0)
        (try clear hms)
        go_enter Try.func51, Try.ntmps51
        go_wp2_with fail
        obtain ⟨w1, hw1⟩ : ∃ w1, w1 = w.alloc (.cells #[.int .i64 y0, .int .i64 y1, .int .i64 y2] 63) := ⟨_, rfl⟩
        rw [← hw1]
        obtain ⟨pb, hpb⟩ : ∃ pb, pb = w.heap.size := ⟨_, rfl⟩
        rw [← hpb]
        have hf1 : Fr Nob w w1 := by rw [hw1]; exact (Fr.refl Nob w).alloc _
        have hp1 : w1.heap[pb]? = some (.cells #[.int .i64 y0, .int .i64 y1, .int .i64 y2] 63 (0, 0)) := by rw [hw1, hpb]; exact heap_alloc_new _ _
        have q0 := hf1.cell id p0; have q4 := hf1.cell id p4; have q5 := hf1.cell id p5; have q6 := hf1.cell id p6
        have t0 := blk_cell hp1 0 rfl
        have Hf1 := Lib.hid hf1
        clear hw1 hpb hf1 hp1 p0 p1 p2 p3 p4 p5 p6
        go_quiet (fail)
        obtain ⟨w2, hw2⟩ : ∃ w2, w2 = w1.drewN nq := ⟨_, rfl⟩
        rw [← hw2]
        have hf12 := Fr.ofDrew ⟨nq, hw2⟩
        have r4 := hf12.cell id q4; have r5 := hf12.cell id q5; have r0 := hf12.cell id t0
        have Hf12 := Lib.hid (Hf1.out.trans0 hf12)
        clear hw2 q0 q4 q5 q6 t0 hf12
        go_wp2_with fail
        go_quiet (fail)
        obtain ⟨w3, hw3⟩ : ∃ w3, w3 = w2.drewN nq := ⟨_, rfl⟩
        rw [← hw3]
        have hf23 := Fr.ofDrew ⟨_, hw3⟩
        clear hw3 r4 r5 r0
        go_wp2_with fail
        go_ret
        exact ⟨rfl, Hsame.out _ (Hf12.out.trans0 hf23) he⟩
      · obtain rfl : n1 = 0 := by omega
        cases ho : (c.sd.any fun y => y.1 != x.1) with
        | true =>
          obtain ⟨hr0, he⟩ := HT1.out hms hk (by show (_ || (c.sd.any fun y => y.1 != x.1)) = true; rw [ho, Bool.or_true])
          rw [hk] at p3
          rw [ho] at hS
          subst hr0
          have HS := Lib.hid hS; have HR := Lib.hid hR
          obtain ⟨y0, y1, y2⟩ := x
          (try dsimp only at HS HR)
          clear hS hR Hpt Hpf HT7 HT5 HT1 HT0 Hmu Hft Hff
          (try clear ho)
          (try clear hk)
          (try clear ht)
          (try clear hg)
          (try clear hmu0)
          (try clear hms)
          go_enter Try.func51, Try.ntmps51
          go_wp2_with fail
          obtain ⟨w1, hw1⟩ : ∃ w1, w1 = w.alloc (.cells #[.int .i64 y0, .int .i64 y1, .int .i64 y2] 63) := ⟨_, rfl⟩
          rw [← hw1]
          obtain ⟨pb, hpb⟩ : ∃ pb, pb = w.heap.size := ⟨_, rfl⟩
          rw [← hpb]
          have hf1 : Fr Nob w w1 := by rw [hw1]; exact (Fr.refl Nob w).alloc _
          have hp1 : w1.heap[pb]? = some (.cells #[.int .i64 y0, .int .i64 y1, .int .i64 y2] 63 (0, 0)) := by rw [hw1, hpb]; exact heap_alloc_new _ _
          have q0 := hf1.cell id p0; have q4 := hf1.cell id p4; have q5 := hf1.cell id p5; have q6 := hf1.cell id p6
          have t0 := blk_cell hp1 0 rfl
          have Hf1 := Lib.hid hf1
          clear hw1 hpb hf1 hp1 p0 p1 p2 p3 p4 p5 p6
          go_quiet (fail)
          obtain ⟨w2, hw2⟩ : ∃ w2, w2 = w1.drewN nq := ⟨_, rfl⟩
          rw [← hw2]
          have hf12 := Fr.ofDrew ⟨nq, hw2⟩
          have r4 := hf12.cell id q4; have r5 := hf12.cell id q5; have r0 := hf12.cell id t0
          have Hf12 := Lib.hid (Hf1.out.trans0 hf12)
          clear hw2 q0 q4 q5 q6 t0 hf12
          go_wp2_with fail
          go_quiet ((go_at_call 78; exact Calls.quiet_of_same ((HS.out _ (Hf12.out.trans0 ((Fr.refl Nob w2).drewN _))).mono fun e w' h => ⟨h.1, h.2.symm⟩)))
          obtain ⟨w3, hw3⟩ : ∃ w3, w3 = w2.drewN nq := ⟨_, rfl⟩
          rw [← hw3]
          have hf23 := Fr.ofDrew ⟨_, hw3⟩
          clear hw3 r4 r5 r0
          go_wp2_with fail
          go_ret
          exact ⟨rfl, Hsame.out _ (Hf12.out.trans0 hf23) he⟩
        | false =>
          have hfr : c.free false = false := by rw [Hff.out]; rfl
          obtain ⟨rfl, rfl⟩ := HT0.out hms hk (by show (c.free false || (c.sd.any fun y => y.1 != x.1)) = false; rw [ho, hfr]; rfl)
          exact Hpf.out hk hfr ho
end Go.Proofs.Ytdemeghhjnehbaa
