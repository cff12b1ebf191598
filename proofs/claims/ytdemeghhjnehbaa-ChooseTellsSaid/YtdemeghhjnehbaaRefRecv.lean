/- What Recv of the document's own channel does. -/
import Derived.Test.YtdemeghhjnehbaaRefSend
set_option linter.unusedVariables false
set_option linter.unusedSimpArgs false
namespace Go.Proofs.Ytdemeghhjnehbaa
open Go.RowKit
set_option maxRecDepth 100000
/-- Several of its slices are new. -/
theorem RfTo.make {w w' : World} {S : Nat → Prop} {b : Nat} {c c' : ChS} {v1 v2 v3 u1 u2 u3 : Value} (h : RfP w S b c v1 v2 v3) (hf : Fr (fun k => k = b) w w') (hb : w'.heap[b]? = some (refObj c' u1 u2 u3))
    (hq : Sl w' (From w.heap.size) 3 1 u1 c'.q.length (ints c'.q)) (hs : Sl w' (From w.heap.size) 63 3 u2 c'.sd.length (waits c'.sd)) (hr3 : u3 = v3) (hr : c'.rv = c.rv) : RfTo w S b c' w' := by
  have hbl := lt_of_block h.blk
  subst hr3
  refine ⟨hf.mono fun k _ e => e ▸ h.own, And' S w w', ⟨u1, u2, u3, .inl h.own, fun k q => ?_, hb, hq.mono fun k hk q => ⟨.inr ⟨q, hk⟩, by unfold From at q; omega⟩, hs.mono fun k hk q => ⟨.inr ⟨q, hk⟩, by unfold From at q; omega⟩, ?_⟩, fun k q => by rcases q with q | q; exact .inl q; exact .inr q.1⟩
  · rcases q with q | q
    · have := h.lt k q; have := hf.size; omega
    · exact q.2
  · rw [hr]; exact (h.rv.fr hf fun k q e => q.2 e).mono fun k hk q => ⟨.inl q.1, q.2⟩
def RecvF (w : World) (S : Nat → Prop) (b : Nat) (c' : ChS) (v : Int) (ok d : Bool) (l : List Wk) (n : Nat) (e : Ending) (w' : World) : Prop := ∃ (A : Option Addr) (cp : Nat), e = .returned (.tuple #[.int .i64 v, .bool ok, .bool d, .slice A n cp]) ∧ RfTo w S b c' w' ∧ Rd w' 5 (.slice A n cp) n (wks l)
set_option maxHeartbeats 1000000 in
theorem rfrecv_val {w : World} {S : Nat → Prop} {b : Nat} {c : ChS} (h : RefAt w S b c) (hfew : c.Few) (v : Int) (r : List Int) (hq : c.q = v :: r) (hsd : c.sd = []) :
    Calls Try.prog 49 #[.pointer (some ⟨b, 0, none⟩)] w (RecvF w S b { c with q := r } v true true [] 0) := by
  obtain ⟨v1, v2, v3, h⟩ := h
  obtain ⟨m, hm⟩ : ∃ m, r.length = m := ⟨_, rfl⟩
  have hm8 : (0 + m) * 8 ≤ 140737488355328 ∧ (m + 1) * 8 ≤ 140737488355328 := by have := hfew.2.2; rw [hq] at this; simp at this; omega
  have hbq := h.buf
  rw [hq, List.length_cons, hm] at hbq
  obtain ⟨g, o, c1, rfl, hSg, hg, hc1, hc2, hc, hfz⟩ := hbq.form (by omega)
  have hlg := h.lt g hSg.1
  have hgb : ¬ g = b := hSg.2
  have p4 : w.cell? ⟨b, 4, none⟩ = some (.slice (some ⟨g, o, none⟩) (m + 1) c1) := blk_cell h.blk 4 rfl
  have u0 := hc 0 _ rfl
  rw [Nat.add_zero] at u0
  obtain ⟨A2, hrun2, hS2, hR2⟩ := cut_l (P := Try.prog) 42 3 1 Try.underlying42 (by kernel_rfl) (some ⟨g, o, none⟩) (m + 1) c1 1 (by omega)
  have hrun2' : ∀ W : World, (Instr.slice 42 (.slice (some ⟨g, o, none⟩) (m + 1) c1) (some (.int .i64 1)) none none).run Try.prog W = .ok (.slice A2 m (c1 - 1)) W := hrun2
  have hR : Rd w 1 (.slice A2 m (c1 - 1)) m (ints r) := hR2 w _ hbq.rd
  have h0 : Sl (w.alloc (.cells #[] 3)) (From w.heap.size) 3 1 (.slice (some ⟨w.heap.size, 0, none⟩) 0 0) 0 [] := Sl.lit w 3 1 #[] 0 (From w.heap.size) (by simp [From]) (by simp [maxLen]) rfl
  have HR := Lib.hid (hR.fr ((Fr.refl Nob w).alloc (.cells #[] 3)))
  have H0 := Lib.hid h0; have Hm8 := Lib.hid hm8
  have hset := fun W (hW : Fr Nob w W) u hs W' => RfTo.set (w' := W') h hW (h.setQ hW r m hm u hs)
  obtain ⟨A5, c5, e5⟩ := h.sd.slice
  subst e5
  have hb := h.blk
  rw [hsd, List.length_nil] at hb
  have hbl := lt_of_block hb
  have Hset := Lib.hid hset; have Hb := Lib.hid hb
  clear hset h0 hm8 hb hR hR2 hS2 hrun2 hbq hc hfz h hq hsd hfew hm
  go_enter Try.func49, Try.ntmps49
  go_wp2_with (at_builtin; (refine wpList_append_rd _ rfl _ _ _ rfl (From w.heap.size) 3 _ 1 8 Try.underlying42 info_int2 rfl (by omega) (.slice (some ⟨w.heap.size, 0, none⟩) 0 0) 0 [] rfl H0.out (.slice A2 m (c1 - 1)) m (ints r) rfl HR.out (ints_one r) (by omega) Hm8.out.1 ?_; intro v4 w4 hs4 hf4; simp only [Nat.zero_add, List.nil_append] at hs4; obtain ⟨A4, c4, rfl⟩ := hs4.slice; simp only [Nat.zero_add]; have Hw4 : Hid (Fr Nob w w4) := Lib.hid (((Fr.refl Nob w).alloc _).trans hf4 fun k hk e => by unfold From at e; omega); have q4 := blk_cell (Hw4.out.blk id Hb.out) 4 rfl; have f4 := blk_froz (Hw4.out.blk id Hb.out) 4; have q5 := blk_cell (Hw4.out.blk id Hb.out) 5 rfl; have f5 := blk_froz (Hw4.out.blk id Hb.out) 5; have hb4 : b < w4.heap.size := (by have := Hw4.out.size; omega); have Hs4 : Hid (Sl w4 (From w.heap.size) 3 1 (.slice A4 m c4) m (ints r)) := Lib.hid (hs4.mono fun k hk q => by rcases q with q | q; exact q; simp at q; unfold From; omega); clear hs4 hf4))
  have key := Hset.out w4 Hw4.out (.slice A4 m c4) Hs4.out _ (Fr.refl Nob _)
  generalize w4.setCell ⟨b, 4, none⟩ (.slice A4 m c4) = w5 at *
  clear q4 f4 q5 f5 Hs4 Hset u0 p4
  exact bodyPost_ret (v := .tuple #[.int .i64 v, .bool true, .bool true, .slice none 0 0]) (by simp [results, Try.results49, go_sem]) rfl (by exact ⟨none, 0, rfl, key, rd_nil w5 5⟩)
set_option maxHeartbeats 1000000 in
theorem rfrecv_wait {w : World} {S : Nat → Prop} {b : Nat} {c : ChS} (h : RefAt w S b c) (hfew : c.Few) (x : Wt) (l : List Wt) (hq : c.q = []) (hsd : c.sd = x :: l) :
    Calls Try.prog 49 #[.pointer (some ⟨b, 0, none⟩)] w (RecvF w S b { c with sd := l } x.2.2 true true [wakeOf x 0 true false] 1) := by
  obtain ⟨v1, v2, v3, h⟩ := h
  obtain ⟨m2, hm2⟩ : ∃ m2, l.length = m2 := ⟨_, rfl⟩
  have hm24 : (0 + m2) * 24 ≤ 140737488355328 := by have := hfew.2.1; rw [hsd] at this; simp at this; omega
  have hbs := h.sd
  rw [hsd, List.length_cons, hm2] at hbs
  obtain ⟨g2, o2, c2, rfl, hSg2, hg2, hcs1, hcs2, hcs, hfzs⟩ := hbs.form (by omega)
  have hlg2 := h.lt g2 hSg2.1
  have hg2b : ¬ g2 = b := hSg2.2
  have p5 : w.cell? ⟨b, 5, none⟩ = some (.slice (some ⟨g2, o2, none⟩) (m2 + 1) c2) := blk_cell h.blk 5 rfl
  obtain ⟨x0, x1, x2⟩ := x
  have s0 := hcs 0 _ rfl
  have s1 := hcs 1 _ rfl
  have s2 := hcs 2 _ rfl
  rw [Nat.add_zero] at s0
  obtain ⟨A3, hrun3, hS3, hR3⟩ := cut_l (P := Try.prog) 47 63 3 Try.underlying47 (by kernel_rfl) (some ⟨g2, o2, none⟩) (m2 + 1) c2 1 (by omega)
  have hrun3' : ∀ W : World, (Instr.slice 47 (.slice (some ⟨g2, o2, none⟩) (m2 + 1) c2) (some (.int .i64 1)) none none).run Try.prog W = .ok (.slice A3 m2 (c2 - 1)) W := hrun3
  have hRs : Rd w 3 (.slice A3 m2 (c2 - 1)) m2 (waits l) := hR3 w _ hbs.rd
  have Hm24 := Lib.hid hm24; have HRs := Lib.hid hRs
  have hset := fun W (hW : Fr Nob w W) u hs W' => RfTo.set (w' := W') h hW (h.setSd hW l m2 hm2 u hs)
  obtain ⟨A5, c5, e5⟩ := h.buf.slice
  subst e5
  have hb := h.blk
  rw [hq, List.length_nil] at hb
  have p4 := blk_cell hb 4 rfl
  have hbl := lt_of_block hb
  have Hset := Lib.hid hset; have Hb := Lib.hid hb
  clear hset hm24 hb hRs hR3 hS3 hrun3 hbs hcs hfzs h hq hsd hfew hm2
  go_enter Try.func49, Try.ntmps49
  go_wp2_with (at_builtin; (refine wpList_append_rd _ rfl _ _ _ rfl (fun k => k = w.heap.size + 1) 63 _ 3 24 Try.underlying47 info_wait rfl (by omega) (.slice (some ⟨w.heap.size + 1, 0, none⟩) 0 0) 0 [] rfl (by have h0 := Sl.lit (w.alloc (.cells #[.int .i64 x0, .int .i64 x1, .int .i64 x2] 63)) 63 3 #[] 0 (fun k => k = w.heap.size + 1) (by simp) (by simp [maxLen]) rfl; rw [show (w.alloc (.cells #[.int .i64 x0, .int .i64 x1, .int .i64 x2] 63)).heap.size = w.heap.size + 1 by simp] at h0; exact h0) (.slice A3 m2 (c2 - 1)) m2 (waits l) rfl (HRs.out.fr (((Fr.refl Nob w).alloc _).alloc _)) (waits_one l) (by omega) Hm24.out ?_; intro v6 w6 hs6 hf6; simp only [Nat.zero_add, List.nil_append] at hs6; obtain ⟨A6, c6, rfl⟩ := hs6.slice; simp only [Nat.zero_add]; have Hw6 : Hid (Fr Nob w w6) := Lib.hid ((((Fr.refl Nob w).alloc _).alloc _).trans hf6 fun k hk e => by omega); have q5 := blk_cell (Hw6.out.blk id Hb.out) 5 rfl; have f5 := blk_froz (Hw6.out.blk id Hb.out) 5; have Ht6 := Lib.hid (hf6.blk (k := w.heap.size) (by omega) (((Fr.refl Nob _).alloc _).blk id (heap_alloc_new w (.cells #[.int .i64 x0, .int .i64 x1, .int .i64 x2] 63)))); have Hs6 : Hid (Sl w6 (From w.heap.size) 63 3 (.slice A6 m2 c6) m2 (waits l)) := Lib.hid (hs6.mono fun k hk q => by rcases q with q | q; (unfold From; omega); simp at q; unfold From; omega); clear hs6 hf6))
  obtain ⟨w7, hw7⟩ : ∃ w7, w7 = w6.setCell ⟨b, 5, none⟩ (.slice A6 m2 c6) := ⟨_, rfl⟩
  have ht7 : w7.heap[w.heap.size]? = some (.cells #[.int .i64 x0, .int .i64 x1, .int .i64 x2] 63 (0, 0)) := by rw [hw7]; exact (blk_set_ne 5 _ (by omega)).trans Ht6.out
  have t0 := blk_cell ht7 0 rfl
  have t1 := blk_cell ht7 1 rfl
  have t2 := blk_cell ht7 2 rfl
  rw [← hw7]
  have Hw7 := Lib.hid hw7
  have hz7 := lt_of_block ht7
  clear hw7 ht7 q5 f5 s0 s1 s2 p4 p5
  go_region
  have key := Hset.out w6 Hw6.out (.slice A6 m2 c6) Hs6.out
  rw [← Hw7.out] at key
  go_wp2_with fail
  exact bodyPost_ret (v := .tuple #[.int .i64 x2, .bool true, .bool true, .slice (some ⟨w7.heap.size, 0, none⟩) 1 1]) (by simp [results, Try.results49, go_sem]) rfl ⟨_, _, rfl, key _ (((Fr.refl Nob w7).alloc _).drew), (rd_wake x0 x1 0 true false).fr ((Fr.refl Nob _).drew)⟩
theorem rfrecv_none {w : World} {S : Nat → Prop} {b : Nat} {c : ChS} (h : RefAt w S b c) (hq : c.q = []) (hsd : c.sd = []) :
    Calls Try.prog 49 #[.pointer (some ⟨b, 0, none⟩)] w (RecvF w S b c 0 false c.closed [] 0) := by
  have hset := fun W (hW : Fr Nob w W) => RfTo.same h hW
  obtain ⟨v1, v2, v3, h⟩ := h
  obtain ⟨A1, c1, A2, c2, A3, c3, rfl, rfl, rfl, p0, p1, p2, p3, p4, p5, p6⟩ := h.cells
  rw [hq, List.length_nil] at p4
  rw [hsd, List.length_nil] at p5
  have Hset := Lib.hid hset
  generalize c.closed = k at *
  clear hset hq hsd h p0 p1 p2 p6
  go_enter Try.func49, Try.ntmps49
  go_wp2_with fail
  go_quiet (fail)
  go_wp2_with fail
  exact bodyPost_ret (v := .tuple #[.int .i64 0, .bool false, .bool k, .slice none 0 0]) (by simp [results, Try.results49, go_sem]) rfl ⟨_, _, rfl, Hset.out _ (Fr.ofDrew ⟨nq, rfl⟩), rd_nil _ _⟩
set_option maxHeartbeats 1000000 in
theorem rfrecv_both {w : World} {S : Nat → Prop} {b : Nat} {c : ChS} (h : RefAt w S b c) (hfew : c.Few) (v : Int) (r : List Int) (x : Wt) (l : List Wt) (hq : c.q = v :: r) (hsd : c.sd = x :: l) :
    Calls Try.prog 49 #[.pointer (some ⟨b, 0, none⟩)] w (RecvF w S b { c with q := r ++ [x.2.2], sd := l } v true true [wakeOf x 0 true false] 1) := by
  obtain ⟨v1, v2, v3, h⟩ := h
  obtain ⟨m, hm⟩ : ∃ m, r.length = m := ⟨_, rfl⟩
  have hm8 : (0 + m) * 8 ≤ 140737488355328 ∧ (m + 1) * 8 ≤ 140737488355328 := by have := hfew.2.2; rw [hq] at this; simp at this; omega
  have hbq := h.buf
  rw [hq, List.length_cons, hm] at hbq
  obtain ⟨g, o, c1, rfl, hSg, hg, hc1, hc2, hc, hfz⟩ := hbq.form (by omega)
  have hlg := h.lt g hSg.1
  have hgb : ¬ g = b := hSg.2
  have p4 : w.cell? ⟨b, 4, none⟩ = some (.slice (some ⟨g, o, none⟩) (m + 1) c1) := blk_cell h.blk 4 rfl
  have u0 := hc 0 _ rfl
  rw [Nat.add_zero] at u0
  obtain ⟨A2, hrun2, hS2, hR2⟩ := cut_l (P := Try.prog) 42 3 1 Try.underlying42 (by kernel_rfl) (some ⟨g, o, none⟩) (m + 1) c1 1 (by omega)
  have hrun2' : ∀ W : World, (Instr.slice 42 (.slice (some ⟨g, o, none⟩) (m + 1) c1) (some (.int .i64 1)) none none).run Try.prog W = .ok (.slice A2 m (c1 - 1)) W := hrun2
  have hR : Rd w 1 (.slice A2 m (c1 - 1)) m (ints r) := hR2 w _ hbq.rd
  have h0 : Sl (w.alloc (.cells #[] 3)) (From w.heap.size) 3 1 (.slice (some ⟨w.heap.size, 0, none⟩) 0 0) 0 [] := Sl.lit w 3 1 #[] 0 (From w.heap.size) (by simp [From]) (by simp [maxLen]) rfl
  have HR := Lib.hid (hR.fr ((Fr.refl Nob w).alloc (.cells #[] 3)))
  have H0 := Lib.hid h0; have Hm8 := Lib.hid hm8
  obtain ⟨m2, hm2⟩ : ∃ m2, l.length = m2 := ⟨_, rfl⟩
  have hm24 : (0 + m2) * 24 ≤ 140737488355328 := by have := hfew.2.1; rw [hsd] at this; simp at this; omega
  have hbs := h.sd
  rw [hsd, List.length_cons, hm2] at hbs
  obtain ⟨g2, o2, c2, rfl, hSg2, hg2, hcs1, hcs2, hcs, hfzs⟩ := hbs.form (by omega)
  have hlg2 := h.lt g2 hSg2.1
  have hg2b : ¬ g2 = b := hSg2.2
  have p5 : w.cell? ⟨b, 5, none⟩ = some (.slice (some ⟨g2, o2, none⟩) (m2 + 1) c2) := blk_cell h.blk 5 rfl
  obtain ⟨x0, x1, x2⟩ := x
  have s0 := hcs 0 _ rfl
  have s1 := hcs 1 _ rfl
  have s2 := hcs 2 _ rfl
  rw [Nat.add_zero] at s0
  obtain ⟨A3, hrun3, hS3, hR3⟩ := cut_l (P := Try.prog) 47 63 3 Try.underlying47 (by kernel_rfl) (some ⟨g2, o2, none⟩) (m2 + 1) c2 1 (by omega)
  have hrun3' : ∀ W : World, (Instr.slice 47 (.slice (some ⟨g2, o2, none⟩) (m2 + 1) c2) (some (.int .i64 1)) none none).run Try.prog W = .ok (.slice A3 m2 (c2 - 1)) W := hrun3
  have hRs : Rd w 3 (.slice A3 m2 (c2 - 1)) m2 (waits l) := hR3 w _ hbs.rd
  have Hm24 := Lib.hid hm24; have HRs := Lib.hid hRs
  have hmk := fun W (hf : Fr (fun k => k = b) w W) u1 u2 u3 (hb : W.heap[b]? = some (refObj { c with q := r ++ [x2], sd := l } u1 u2 u3)) (h1 : Sl W (From w.heap.size) 3 1 u1 (m + 1) (ints (r ++ [x2]))) (h2 : Sl W (From w.heap.size) 63 3 u2 m2 (waits l)) (h3 : u3 = v3) => RfTo.make (c' := { c with q := r ++ [x2], sd := l }) h hf hb (by simpa [hm] using h1) (by simpa [hm2] using h2) h3 rfl
  have HSs := Lib.hid (hS3 w _ _ _ hbs)
  have hb := h.blk
  have hbl := lt_of_block hb
  have Hmk := Lib.hid hmk; have Hb := Lib.hid hb
  clear hmk h0 hm8 hb hR hR2 hS2 hrun2 hbq hc hfz h hq hsd hfew hm hm24 hRs hR3 hS3 hrun3 hbs hcs hfzs hm2
  go_enter Try.func49, Try.ntmps49
  go_wp2_with (at_builtin; go_loud (first
    | (refine wpList_append_rd _ rfl _ _ _ rfl (From w.heap.size) 3 _ 1 8 Try.underlying42 info_int2 rfl (by omega) (.slice (some ⟨w.heap.size, 0, none⟩) 0 0) 0 [] rfl H0.out (.slice A2 m (c1 - 1)) m (ints r) rfl HR.out (ints_one r) (by omega) Hm8.out.1 ?_; intro v4 w4 hs4 hf4; simp only [Nat.zero_add, List.nil_append] at hs4; obtain ⟨A4, c4, rfl⟩ := hs4.slice; simp only [Nat.zero_add]; have Hw4 : Hid (Fr Nob w w4) := Lib.hid (((Fr.refl Nob w).alloc _).trans hf4 fun k hk e => by unfold From at e; omega); have q4 := blk_cell (Hw4.out.blk id Hb.out) 4 rfl; have f4 := blk_froz (Hw4.out.blk id Hb.out) 4; have q5 := blk_cell (Hw4.out.blk id Hb.out) 5 rfl; have f5 := blk_froz (Hw4.out.blk id Hb.out) 5; have hb4 : b < w4.heap.size := (by have := Hw4.out.size; omega); have t0 := Hw4.out.cell (p := ⟨g2, o2, none⟩) id s0; have t1 := Hw4.out.cell (p := ⟨g2, o2 + 1, none⟩) id s1; have t2 := Hw4.out.cell (p := ⟨g2, o2 + 2, none⟩) id s2; have hlg4 : g2 < w4.heap.size := (by have := Hw4.out.size; omega); have Hs4 : Hid (Sl w4 (From w.heap.size) 3 1 (.slice A4 m c4) m (ints r)) := Lib.hid (hs4.mono fun k hk q => by rcases q with q | q; exact q; simp at q; unfold From; omega); clear hs4 hf4)
    | (refine wpList_append_rd _ rfl _ _ _ rfl (fun k => k = w4.heap.size + 1) 63 _ 3 24 Try.underlying47 info_wait rfl (by omega) (.slice (some ⟨w4.heap.size + 1, 0, none⟩) 0 0) 0 [] rfl (by have h0 := Sl.lit ((w4.setCell ⟨b, 4, none⟩ (.slice A4 m c4)).alloc (.cells #[.int .i64 x0, .int .i64 x1, .int .i64 x2] 63)) 63 3 #[] 0 (fun k => k = w4.heap.size + 1) (by simp) (by simp [maxLen]) rfl; rw [show ((w4.setCell ⟨b, 4, none⟩ (.slice A4 m c4)).alloc (.cells #[.int .i64 x0, .int .i64 x1, .int .i64 x2] 63)).heap.size = w4.heap.size + 1 by simp] at h0; exact h0) (.slice A3 m2 (c2 - 1)) m2 (waits l) rfl ((((HSs.out.fr (Hw4.out.none.trans0 ((Fr.refl (fun k => k = b) w4).setCell (p := ⟨b, 4, none⟩) (.inl rfl) _)) fun k q e => q.2 e).alloc _).alloc _).rd) (waits_one l) (by omega) Hm24.out ?_; intro v6 w6 hs6 hf6; simp only [Nat.zero_add, List.nil_append] at hs6; obtain ⟨A6, c6, rfl⟩ := hs6.slice; simp only [Nat.zero_add]; have hb6 := hf6.blk (k := b) (by omega) ((((Fr.refl Nob _).alloc _).alloc _).blk id (blk_set (Hw4.out.blk id Hb.out) 4 (.slice A4 m c4))); have q5 : w6.cell? ⟨b, 5, none⟩ = some (.slice (some ⟨g2, o2, none⟩) (m2 + 1) c2) := blk_cell hb6 5 rfl; have f5 := blk_froz hb6 5; have Hb6 := Lib.hid hb6; have hzw := Hw4.out.size; have HF6 : Hid (Fr (fun k => k = b) w w6) := Lib.hid (((((Hw4.out.none.trans0 ((Fr.refl (fun k => k = b) w4).setCell (p := ⟨b, 4, none⟩) (.inl rfl) (.slice A4 m c4)))).alloc _).alloc _).trans hf6 fun k hk e => by omega); have Ht6 := Lib.hid (hf6.blk (k := w4.heap.size) (by omega) (((Fr.refl Nob _).alloc _).blk id (blk_alloc_eq (w := w4.setCell ⟨b, 4, none⟩ (.slice A4 m c4)) (.cells #[.int .i64 x0, .int .i64 x1, .int .i64 x2] 63) (by simp)))); have Hq6 := Lib.hid (((((Hs4.out.mono (S' := fun k => w.heap.size ≤ k ∧ k < w4.heap.size) fun k hk q => ⟨q, hk⟩).fr ((Fr.refl (fun k => k = b) w4).setCell (p := ⟨b, 4, none⟩) (.inl rfl) (.slice A4 m c4)) fun k q e => by omega).alloc (.cells #[.int .i64 x0, .int .i64 x1, .int .i64 x2] 63)).alloc (.cells #[] 63)).fr hf6 fun k q e => by omega); have Hs6 : Hid (Sl w6 (fun k => w4.heap.size ≤ k) 63 3 (.slice A6 m2 c6) m2 (waits l)) := Lib.hid (hs6.mono fun k hk q => by rcases q with q | q; omega; simp at q; omega); clear hs6 hf6 hb6)))
  obtain ⟨w7, hw7⟩ : ∃ w7, w7 = w6.setCell ⟨b, 5, none⟩ (.slice A6 m2 c6) := ⟨_, rfl⟩
  have hf67 : Fr (fun k => k = b) w6 w7 := by rw [hw7]; exact (Fr.refl (fun k => k = b) w6).setCell (p := ⟨b, 5, none⟩) (.inl rfl) _
  have Hb7 : Hid (w7.heap[b]? = some (refObj { c with q := r, sd := l } (.slice A4 m c4) (.slice A6 m2 c6) v3)) := Lib.hid (by rw [hw7]; have := blk_set Hb6.out 5 (.slice A6 m2 c6); rw [this]; rfl)
  have Ht7 := Lib.hid (hf67.blk (k := w4.heap.size) (by omega) Ht6.out)
  have Hq7 := Lib.hid (Hq6.out.fr hf67 fun k q e => by omega)
  have Hs7 := Lib.hid (Hs6.out.fr hf67 fun k q e => by omega)
  have HF7 := Lib.hid (HF6.out.trans0 hf67)
  have t0 := blk_cell Ht7.out 0 rfl; have t1 := blk_cell Ht7.out 1 rfl; have t2 := blk_cell Ht7.out 2 rfl
  have q4 : w7.cell? ⟨b, 4, none⟩ = some (.slice A4 m c4) := blk_cell Hb7.out 4 rfl
  have hb7 := lt_of_block Hb7.out
  have hz47 : w4.heap.size < w7.heap.size := lt_of_block Ht7.out
  rw [← hw7]
  clear hw7 hf67 Hb6 Ht6 Hq6 Hs6 HF6 q5 f5 f4 s0 s1 s2 u0 p4 p5
  go_region_law ((refine step_append_sl _ (by rfl) _ _ _ (by rfl) (fun k => w.heap.size ≤ k ∧ k < w4.heap.size) 3 _ 1 8 Try.underlying42 info_int2 rfl (by omega) (.slice A4 m c4) m (ints r) (by rfl) ((Hq7.out.alloc _).drew) ⟨w7.heap.size, 0, none⟩ 1 1 [.int .i64 x2] (by rfl) (by rfl) (news_lit _ [.int .i64 x2] 3 (0, 0) _ (heap_alloc_new w7 _)) (by rfl) (by have := Hm8.out.2; (try unfold maxLen); omega) (by have := Hm8.out.2; omega) ?_; intro v8 w8 hs8 hf8; obtain ⟨A8, c8, rfl⟩ := hs8.slice; have hfw : Fr (fun k => w.heap.size ≤ k ∧ k < w4.heap.size) w7 w8 := (((Fr.refl (fun k => w.heap.size ≤ k ∧ k < w4.heap.size) w7).alloc (.cells #[.int .i64 x2] 3)).drew).trans0 hf8; have hb8 := hfw.blk (k := b) (by omega) Hb7.out; have d4 : w8.cell? ⟨b, 4, none⟩ = some (.slice A4 m c4) := blk_cell hb8 4 rfl; have g4 := blk_froz hb8 4; have Hb8 := Lib.hid hb8; have Hs8 := Lib.hid hs8; have Hfw := Lib.hid hfw; clear hs8 hf8 hfw hb8))
  all_goals (
    obtain ⟨w9, hw9⟩ : ∃ w9, w9 = w8.setCell ⟨b, 4, none⟩ (.slice A8 (m + 1) c8) := ⟨_, rfl⟩
    have hf89 : Fr (fun k => k = b) w8 w9 := by rw [hw9]; exact (Fr.refl (fun k => k = b) w8).setCell (p := ⟨b, 4, none⟩) (.inl rfl) _
    have HF9 : Hid (Fr (fun k => k = b) w w9) := Lib.hid ((HF7.out.trans Hfw.out fun k hk q => by omega).trans0 hf89)
    have Hb9 : Hid (w9.heap[b]? = some (refObj { c with q := r ++ [x2], sd := l } (.slice A8 (m + 1) c8) (.slice A6 m2 c6) v3)) := Lib.hid (by rw [hw9]; have := blk_set Hb8.out 4 (.slice A8 (m + 1) c8); rw [this]; rfl)
    have ht9 := hf89.blk (k := w4.heap.size) (by omega) (Hfw.out.blk (k := w4.heap.size) (by omega) Ht7.out)
    have Hs9 := Lib.hid ((Hs7.out.fr Hfw.out fun k q e => by omega).fr hf89 fun k q e => by omega)
    have Hq9 : Hid (Sl w9 (From w.heap.size) 3 1 (.slice A8 (m + 1) c8) (m + 1) (ints (r ++ [x2]))) := Lib.hid (by have := (Hs8.out.mono (S' := From w.heap.size) fun k hk q => by rcases q with q | q; exact q.1; (try simp at q); unfold From; omega).fr hf89 (fun k q e => by unfold From at q; omega); simpa [ints] using this)
    have hz49 : w.heap.size ≤ w4.heap.size := Hw4.out.size
    rw [← hw9]
    clear hw9 hf89 d4 g4 t0 t1 t2 q4 Hs8 Hb8 Hfw Hs7 Hq7 Hb7 Ht7
    have t0 := blk_cell ht9 0 rfl
    have t1 := blk_cell ht9 1 rfl
    clear ht9
    go_wp2_with fail
    go_region
    go_wp2_with fail
    exact bodyPost_ret (v := .tuple #[.int .i64 v, .bool true, .bool true, .slice (some ⟨w9.heap.size, 0, none⟩) 1 1]) (by simp [results, Try.results49, go_sem]) rfl ⟨_, _, rfl, Hmk.out _ (HF9.out.alloc _).drew _ _ _ (((Fr.refl Nob w9).alloc _).drew.blk id Hb9.out) (Hq9.out.alloc _).drew ((Hs9.out.mono fun k hk q => by unfold From; omega).alloc _).drew rfl, (rd_wake x0 x1 0 true false).fr ((Fr.refl Nob _).drew)⟩)
theorem ref_recv {w : World} {S : Nat → Prop} {b : Nat} {c c' : ChS} (h : RefAt w S b c) (hfew : c.Few) (v : Int) (ok d : Bool) (l : List Wk) (n : Nat) (hr : c.recvR = (v, ok, d, l)) (hs : c.recvS = c') (hn : l.length = n) :
    Calls Try.prog 49 #[.pointer (some ⟨b, 0, none⟩)] w (RecvF w S b c' v ok d l n) := by
  unfold ChS.recvR at hr
  unfold ChS.recvS at hs
  cases hq : c.q with
  | nil =>
    cases hsd : c.sd with
    | nil =>
      rw [hq, hsd] at hr
      have e : c' = c := by rw [← hs]; simp [hq, hsd]
      cases hr; cases hn; rw [e]
      exact rfrecv_none h hq hsd
    | cons x r =>
      rw [hq, hsd] at hr
      have e : c' = { c with sd := r } := by rw [← hs]; simp [hq, hsd]
      cases hr; cases hn; rw [e]
      exact rfrecv_wait h hfew x r hq hsd
  | cons y q =>
    cases hsd : c.sd with
    | nil =>
      rw [hq, hsd] at hr
      have e : c' = { c with q := q } := by rw [← hs]; simp [hq, hsd]
      cases hr; cases hn; rw [e]
      exact rfrecv_val h hfew v q hq hsd
    | cons x r =>
      rw [hq, hsd] at hr
      have e : c' = { c with q := q ++ [x.2.2], sd := r } := by rw [← hs]; simp [hq, hsd]
      cases hr; cases hn; rw [e]
      exact rfrecv_both h hfew v q x r hq hsd
end Go.Proofs.Ytdemeghhjnehbaa
