/- What send, Send and Put of the document's own channel do. -/
import Derived.Test.YtdemeghhjnehbaaRefCh
set_option linter.unusedVariables false
set_option linter.unusedSimpArgs false
namespace Go.Proofs.Ytdemeghhjnehbaa
open Go.RowKit
set_option maxRecDepth 100000
theorem waits_one (l : List Wt) : ∀ u ∈ waits l, u.oneCell' = true := by
  intro u hu
  obtain ⟨x, _, hx⟩ := List.mem_flatMap.1 hu
  simp only [wtCells, List.mem_cons, List.not_mem_nil, or_false] at hx
  rcases hx with rfl | rfl | rfl <;> rfl
theorem rd_wake {w : World} (x0 x1 x2 : Int) (x3 x4 : Bool) : Rd (w.alloc (.cells #[.int .i64 x0, .int .i64 x1, .int .i64 x2, .bool x3, .bool x4] 37)) 5 (.slice (some ⟨w.heap.size, 0, none⟩) 1 1) 1 (wks [(x0, x1, x2, x3, x4)]) :=
  (Sl.lit w 37 5 #[.int .i64 x0, .int .i64 x1, .int .i64 x2, .bool x3, .bool x4] 1 (fun _ => True) trivial (by simp [maxLen]) rfl).rd
theorem rd_nil (w : World) (sz : Nat) : Rd w sz (.slice none 0 0) 0 [] := ⟨by simp, by simp [maxLen], none, 0, rfl, Nat.le_refl _, by simp [maxLen], fun h => absurd h (by omega)⟩
def ChS.givR (c : ChS) (v : Int) : Bool × List Wk := match c.rv with
  | x :: _ => (true, [wakeOf x v true false])
  | [] => (decide (c.q.length < c.size), [])
def ChS.givS (c : ChS) (v : Int) : ChS := match c.rv with
  | _ :: l => { c with rv := l }
  | [] => if c.q.length < c.size then { c with q := c.q ++ [v] } else c
def ChS.Few (c : ChS) : Prop := c.rv.length ≤ 1000 ∧ c.sd.length ≤ 1000 ∧ c.q.length ≤ 1000
def GivP (w : World) (S : Nat → Prop) (b : Nat) (c' : ChS) (d : Bool) (l : List Wk) (n : Nat) (e : Ending) (w' : World) : Prop := ∃ (A : Option Addr) (cp : Nat), e = .returned (.tuple #[.bool d, .slice A n cp]) ∧ RfTo w S b c' w' ∧ Rd w' 5 (.slice A n cp) n (wks l)
theorem give_some {w : World} {S : Nat → Prop} {b : Nat} {c : ChS} (h : RefAt w S b c) (hfew : c.Few) (v : Int) (x : Wt) (l : List Wt) (hx : c.rv = x :: l) :
    Calls Try.prog 75 #[.pointer (some ⟨b, 0, none⟩), .int .i64 v] w (GivP w S b { c with rv := l } true [wakeOf x v true false] 1) := by
  obtain ⟨v1, v2, v3, h⟩ := h
  obtain ⟨m, hm⟩ : ∃ m, l.length = m := ⟨_, rfl⟩
  have hm24 : (0 + m) * 24 ≤ 140737488355328 := by have := hfew.1; rw [hx] at this; simp at this; omega
  have hset := fun W (hW : Fr Nob w W) u hs W' => RfTo.set (w' := W') h hW (h.setRv hW l m hm u hs)
  have hrv := h.rv
  rw [hx, List.length_cons, hm] at hrv
  obtain ⟨g, o, c3, rfl, hSg, hg, hc1, hc2, hc, hfz⟩ := hrv.form (by omega)
  have hlg := h.lt g hSg.1
  have hbl := lt_of_block h.blk
  have p6 : w.cell? ⟨b, 6, none⟩ = some (.slice (some ⟨g, o, none⟩) (m + 1) c3) := blk_cell h.blk 6 rfl
  have hb := h.blk
  obtain ⟨x0, x1, x2⟩ := x
  have u0 := hc 0 _ rfl
  have u1 := hc 1 _ rfl
  have u2 := hc 2 _ rfl
  rw [Nat.add_zero] at u0
  obtain ⟨A2, hrun2, hS2, hR2⟩ := cut_l (P := Try.prog) 47 63 3 Try.underlying47 (by kernel_rfl) (some ⟨g, o, none⟩) (m + 1) c3 1 (by omega)
  have hrun2' : ∀ W : World, (Instr.slice 47 (.slice (some ⟨g, o, none⟩) (m + 1) c3) (some (.int .i64 1)) none none).run Try.prog W = .ok (.slice A2 m (c3 - 1)) W := hrun2
  have hR : Rd w 3 (.slice A2 m (c3 - 1)) m (waits l) := hR2 w _ hrv.rd
  have h0 := Sl.lit (w.alloc (.cells #[.int .i64 x0, .int .i64 x1, .int .i64 x2] 63)) 63 3 #[] 0 (fun k => k = w.heap.size + 1) (by simp) (by simp [maxLen]) rfl
  rw [show (w.alloc (.cells #[.int .i64 x0, .int .i64 x1, .int .i64 x2] 63)).heap.size = w.heap.size + 1 by simp] at h0
  have hfa : Fr Nob w ((w.alloc (.cells #[.int .i64 x0, .int .i64 x1, .int .i64 x2] 63)).alloc (.cells #[] 63)) := ((Fr.refl Nob w).alloc _).alloc _
  have ht : ((w.alloc (.cells #[.int .i64 x0, .int .i64 x1, .int .i64 x2] 63)).alloc (.cells #[] 63)).heap[w.heap.size]? = some (.cells #[.int .i64 x0, .int .i64 x1, .int .i64 x2] 63 (0, 0)) := ((Fr.refl Nob _).alloc _).blk id (heap_alloc_new w _)
  have hza : ((w.alloc (.cells #[.int .i64 x0, .int .i64 x1, .int .i64 x2] 63)).alloc (.cells #[] 63)).heap.size = w.heap.size + 2 := by simp
  have HR := Lib.hid (hR.fr hfa)
  have Hset := Lib.hid hset; have H0 := Lib.hid h0; have Hfa := Lib.hid hfa; have Ht := Lib.hid ht; have Hm24 := Lib.hid hm24; have Hb := Lib.hid hb; have Hza := Lib.hid hza
  clear hset h0 hfa ht hm24 hb hR hR2 hS2 hrun2 hrv hc hfz h hx hm hza
  go_enter Try.func75, Try.ntmps75
  go_wp2_with (at_builtin; refine wpList_append_rd _ rfl _ _ _ rfl (fun k => k = w.heap.size + 1) 63 _ 3 24 Try.underlying47 info_wait rfl (by omega) (.slice (some ⟨w.heap.size + 1, 0, none⟩) 0 0) 0 [] rfl H0.out (.slice A2 m (c3 - 1)) m (waits l) rfl HR.out (waits_one l) (by omega) Hm24.out ?_; intro v4 w4 hs4 hf4; simp only [Nat.zero_add, List.nil_append] at hs4; obtain ⟨A4, c4, rfl⟩ := hs4.slice; simp only [Nat.zero_add]; have Hw4 : Hid (Fr Nob w w4) := Lib.hid (Hfa.out.trans hf4 fun k hk e => by omega); have q6 := blk_cell (Hw4.out.blk id Hb.out) 6 rfl; have f6 := blk_froz (Hw4.out.blk id Hb.out) 6; have Hs4 := Lib.hid hs4; have Ht4 := Lib.hid (hf4.blk (k := w.heap.size) (by omega) Ht.out); clear hs4 hf4)
  obtain ⟨w5, hw5⟩ : ∃ w5, w5 = w4.setCell ⟨b, 6, none⟩ (.slice A4 m c4) := ⟨_, rfl⟩
  have ht5 : w5.heap[w.heap.size]? = some (.cells #[.int .i64 x0, .int .i64 x1, .int .i64 x2] 63 (0, 0)) := by rw [hw5]; exact (blk_set_ne 6 _ (by omega)).trans Ht4.out
  have t0 := blk_cell ht5 0 rfl
  have t1 := blk_cell ht5 1 rfl
  rw [← hw5]
  have Hw5 := Lib.hid hw5
  clear hw5 ht5 q6 f6 u0 u1 u2 p6
  go_region
  have hz4 := Hza.out
  have key := Hset.out w4 Hw4.out (.slice A4 m c4) (Hs4.out.mono fun k hk q => by rcases q with q | q; (unfold From; omega); (unfold From; omega))
  rw [← Hw5.out] at key
  go_wp2_with fail
  go_ret2
  exact ⟨_, _, rfl, key _ (((Fr.refl Nob w5).alloc _).drew), (rd_wake x0 x1 v true false).fr ((Fr.refl Nob _).drew)⟩
theorem give_none {w : World} {S : Nat → Prop} {b : Nat} {c : ChS} (h : RefAt w S b c) (hfew : c.Few) (v : Int) (hx : c.rv = []) (hlt : c.q.length < c.size) :
    Calls Try.prog 75 #[.pointer (some ⟨b, 0, none⟩), .int .i64 v] w (GivP w S b { c with q := c.q ++ [v] } true [] 0) := by
  obtain ⟨v1, v2, v3, h⟩ := h
  obtain ⟨n, hn⟩ : ∃ n, c.q.length = n := ⟨_, rfl⟩
  have hset := fun W (hW : Fr Nob w W) u hs W' => RfTo.set (w' := W') h hW (h.setQ hW (c.q ++ [v]) (n + 1) (by simp [hn]) u hs)
  obtain ⟨A1, c1, A2, c2, A3, c3, rfl, rfl, rfl, p0, p1, p2, p3, p4, p5, p6⟩ := h.cells
  have hbl := lt_of_block h.blk
  have hb := h.blk
  have hR := h.buf.rd
  rw [hn] at p4 hR
  rw [hx, List.length_nil] at p6
  obtain ⟨sz, hsz⟩ : ∃ sz, c.size = sz := ⟨_, rfl⟩
  rw [hsz] at p0
  have h1 : (n : Int) < sz := by omega
  have hn8 : (0 + n) * 8 ≤ 140737488355328 ∧ (n + 1) * 8 ≤ 140737488355328 := by have := hfew.2.2; omega
  have Hset := Lib.hid hset; have Hn8 := Lib.hid hn8; have Hb := Lib.hid hb
  generalize c.q = q at *
  clear hset hn8 hb hx hfew hlt hsz h hn p1 p2 p3 p5
  go_enter Try.func75, Try.ntmps75
  go_wp2_with fail
  go_quiet (fail)
  obtain ⟨w1, hw1⟩ : ∃ w1, w1 = w.drewN nq := ⟨_, rfl⟩
  rw [← hw1]
  have hf1 := Fr.ofDrew ⟨nq, hw1⟩
  have Hz1 : Hid (w1.heap.size = w.heap.size) := Lib.hid (by rw [hw1]; simp)
  have Hf1 := Lib.hid hf1
  have q4 := hf1.cell id p4
  have hbl1 : b < w1.heap.size := by have := hf1.size; omega
  have hzw1 := hf1.size
  have h0 : Sl (w1.alloc (.cells #[] 3)) (From w1.heap.size) 3 1 (.slice (some ⟨w1.heap.size, 0, none⟩) 0 0) 0 [] := Sl.lit w1 3 1 #[] 0 (From w1.heap.size) (by simp [From]) (by simp [maxLen]) rfl
  have HR := Lib.hid (hR.fr (hf1.trans0 ((Fr.refl Nob w1).alloc (.cells #[] 3))))
  have H0 := Lib.hid h0
  clear hw1 hf1 p0 p4 p6 hR h0 h1
  go_wp2_with (at_builtin; go_loud (first
    | (refine wpList_append_rd _ rfl _ _ _ rfl (From w1.heap.size) 3 _ 1 8 Try.underlying42 info_int2 rfl (by omega) (.slice (some ⟨w1.heap.size, 0, none⟩) 0 0) 0 [] rfl H0.out (.slice A1 n c1) n (ints q) rfl HR.out (ints_one q) (by omega) Hn8.out.1 ?_; intro v4 w4 hs4 hf4; simp only [Nat.zero_add, List.nil_append] at hs4; obtain ⟨A4, c4, rfl⟩ := hs4.slice; simp only [Nat.zero_add]; have Hw4 : Hid (Fr Nob w w4) := Lib.hid ((Hf1.out.trans0 ((Fr.refl Nob w1).alloc _)).trans hf4 fun k hk e => by unfold From at e; omega); have Hs4 : Hid (Sl w4 (From w1.heap.size) 3 1 (.slice A4 n c4) n (ints q)) := Lib.hid (hs4.mono fun k hk q => by rcases q with q | q; exact q; simp at q; unfold From; omega); clear hs4 hf4)
    | (refine wpList_append1 _ rfl _ _ _ rfl (From w1.heap.size) 3 _ 1 8 Try.underlying42 info_int2 rfl (by omega) (.slice A4 n c4) n (ints q) [.int .i64 v] rfl Hs4.out rfl rfl rfl Hn8.out.2 (by omega) ?_; intro v5 w5 hs5 hf5 hz5; obtain ⟨A5, c5, rfl⟩ := hs5.slice; have Hw5 : Hid (Fr Nob w w5) := Lib.hid (Hw4.out.trans hf5 fun k hk e => by unfold From at e; omega); have q6 := blk_cell (Hw5.out.blk id Hb.out) 4 rfl; have f6 := blk_froz (Hw5.out.blk id Hb.out) 4; have Hs5 := Lib.hid hs5; clear hs5 hf5 hz5)))
  have key := Hset.out w5 Hw5.out (.slice A5 (n + 1) c5) (by rw [← Hz1.out]; simpa [ints] using Hs5.out.mono (S' := From w1.heap.size) fun k hk q => by rcases q with q | q; exact q; have := Hw4.out.size; have := Hz1.out; unfold From; omega)
  go_ret2
  exact ⟨_, _, rfl, key _ (Fr.refl _ _), rd_nil _ _⟩
theorem give_full {w : World} {S : Nat → Prop} {b : Nat} {c : ChS} (h : RefAt w S b c) (v : Int) (hx : c.rv = []) (hlt : ¬ c.q.length < c.size) :
    Calls Try.prog 75 #[.pointer (some ⟨b, 0, none⟩), .int .i64 v] w (GivP w S b c false [] 0) := by
  have hset := fun W (hW : Fr Nob w W) => RfTo.same h hW
  obtain ⟨v1, v2, v3, h⟩ := h
  obtain ⟨A1, c1, A2, c2, A3, c3, rfl, rfl, rfl, p0, p1, p2, p3, p4, p5, p6⟩ := h.cells
  rw [hx, List.length_nil] at p6
  obtain ⟨n, hn⟩ : ∃ n, c.q.length = n := ⟨_, rfl⟩
  obtain ⟨sz, hsz⟩ : ∃ sz, c.size = sz := ⟨_, rfl⟩
  rw [hsz] at p0
  rw [hn] at p4
  have h1 : ¬ (n : Int) < sz := by omega
  have Hset := Lib.hid hset
  clear hset hx hlt hsz h hn p1 p2 p3 p5
  go_enter Try.func75, Try.ntmps75
  go_wp2_with fail
  go_quiet (fail)
  go_wp2_with fail
  go_ret2
  exact ⟨_, _, rfl, Hset.out _ (Fr.ofDrew ⟨nq, rfl⟩), rd_nil _ _⟩
theorem ref_give {w : World} {S : Nat → Prop} {b : Nat} {c c' : ChS} (h : RefAt w S b c) (hfew : c.Few) (v : Int) (d : Bool) (l : List Wk) (n : Nat) (hr : c.givR v = (d, l)) (hs : c.givS v = c') (hn : l.length = n) :
    Calls Try.prog 75 #[.pointer (some ⟨b, 0, none⟩), .int .i64 v] w (GivP w S b c' d l n) := by
  unfold ChS.givR at hr
  unfold ChS.givS at hs
  cases hrv : c.rv with
  | cons x r =>
    rw [hrv] at hr hs
    cases hr; cases hn; cases hs
    exact give_some h hfew v x r hrv
  | nil =>
    rw [hrv] at hr
    by_cases hlt : c.q.length < c.size
    · have e : c' = { c with q := c.q ++ [v] } := by rw [← hs]; simp [hrv, hlt]
      simp only [hlt, decide_true] at hr
      cases hr; cases hn; rw [e]
      exact give_none h hfew v hrv hlt
    · have e : c' = c := by rw [← hs]; simp [hrv, hlt]
      simp only [hlt, decide_false] at hr
      cases hr; cases hn; rw [e]
      exact give_full h v hrv hlt
theorem sendS_giv (c : ChS) (v : Int) (hm : c.mute = false) (hc : c.closed = false) : c.sendS v = c.givS v := by
  unfold ChS.sendS; rw [if_neg (by simp [hm]), if_neg (by simp [hc])]; rfl
theorem sendR_giv (c : ChS) (v : Int) (hm : c.mute = false) (hc : c.closed = false) : c.sendR v = ((c.givR v).1, (c.givR v).2, 0) := by
  unfold ChS.sendR ChS.givR; rw [if_neg (by simp [hm]), if_neg (by simp [hc])]; cases c.rv <;> rfl
def SendF (w : World) (S : Nat → Prop) (b : Nat) (c' : ChS) (d : Bool) (l : List Wk) (n : Nat) (er : Int) (e : Ending) (w' : World) : Prop := ∃ (A : Option Addr) (cp : Nat), e = .returned (.tuple #[.bool d, .slice A n cp, .int .i64 er]) ∧ RfTo w S b c' w' ∧ Rd w' 5 (.slice A n cp) n (wks l)
theorem ref_send {w : World} {S : Nat → Prop} {b : Nat} {c c' : ChS} (h : RefAt w S b c) (hfew : c.Few) (v : Int) (d : Bool) (l : List Wk) (n : Nat) (er : Int) (hr : c.sendR v = (d, l, er)) (hs : c.sendS v = c') (hn : l.length = n) :
    Calls Try.prog 47 #[.pointer (some ⟨b, 0, none⟩), .int .i64 v] w (SendF w S b c' d l n er) := by
  have hsame := fun W (hW : Fr Nob w W) (e : c = c') => (e ▸ RfTo.same h hW : RfTo w S b c' W)
  have hgr : c.mute = false → c.closed = false → (c.givR v).1 = d ∧ (c.givR v).2 = l ∧ er = 0 := fun hm hc => by
    rw [sendR_giv c v hm hc] at hr; cases hr; exact ⟨rfl, rfl, rfl⟩
  have hgiv := fun (hm : c.mute = false) (hc : c.closed = false) => ref_give h hfew v (c.givR v).1 (c.givR v).2 n (c' := c') rfl ((sendS_giv c v hm hc).symm.trans hs) (by rw [(hgr hm hc).2.1]; exact hn)
  have hmute : c.mute = true → d = false ∧ l = [] ∧ er = 7 ∧ c = c' := fun hm => by
    unfold ChS.sendR at hr; unfold ChS.sendS at hs; rw [if_pos hm] at hr hs; cases hr; exact ⟨rfl, rfl, rfl, hs⟩
  have hcl : c.mute = false → c.closed = true → d = false ∧ l = [] ∧ er = 5 ∧ c = c' := fun hm hc => by
    unfold ChS.sendR at hr; unfold ChS.sendS at hs; rw [if_neg (by simp [hm]), if_pos hc] at hr hs; cases hr; exact ⟨rfl, rfl, rfl, hs⟩
  obtain ⟨v1, v2, v3, h⟩ := h
  obtain ⟨A1, c1, A2, c2, A3, c3, -, -, -, p0, p1, p2, p3, p4, p5, p6⟩ := h.cells
  have Hsame := Lib.hid hsame; have Hgiv := Lib.hid hgiv; have Hgr := Lib.hid hgr; have Hmute := Lib.hid hmute; have Hcl := Lib.hid hcl; have Hn := Lib.hid hn
  clear hsame hgiv hgr hmute hcl hr hs hn h p0 p4 p5 p6 hfew
  have Hmd : Hid (c.mute = (c.timed || c.signal)) := Lib.hid rfl
  generalize c.mute = mu at *
  generalize htt : c.timed = t at *
  generalize hss : c.signal = s at *
  generalize hcc : c.closed = k at *
  clear htt hss hcc
  cases t with
  | true =>
    obtain ⟨rfl, rfl, rfl, he⟩ := Hmute.out Hmd.out
    obtain rfl := Hn.out
    go_enter Try.func47, Try.ntmps47
    go_wp2_with fail
    go_ret3
    exact ⟨none, 0, rfl, Hsame.out _ (Fr.refl _ _) he, rd_nil _ _⟩
  | false =>
    cases s with
    | true =>
      obtain ⟨rfl, rfl, rfl, he⟩ := Hmute.out Hmd.out
      obtain rfl := Hn.out
      go_enter Try.func47, Try.ntmps47
      go_wp2_with fail
      go_ret3
      exact ⟨none, 0, rfl, Hsame.out _ (Fr.refl _ _) he, rd_nil _ _⟩
    | false =>
      cases k with
      | true =>
        obtain ⟨rfl, rfl, rfl, he⟩ := Hcl.out Hmd.out rfl
        obtain rfl := Hn.out
        go_enter Try.func47, Try.ntmps47
        go_wp2_with fail
        go_ret3
        exact ⟨none, 0, rfl, Hsame.out _ (Fr.refl _ _) he, rd_nil _ _⟩
      | false =>
        obtain ⟨rfl, rfl, rfl⟩ := Hgr.out Hmd.out rfl
        have Hg := Lib.hid (Hgiv.out Hmd.out rfl)
        generalize (c.givR v).1 = d at *
        generalize (c.givR v).2 = l at *
        clear Hgiv Hgr Hmute Hcl Hsame Hmd
        go_enter Try.func47, Try.ntmps47
        go_wp2_with fail
        refine Hg.out.mono ?_
        rintro e w1 ⟨A, cp, rfl, hf, hr⟩
        have Hf := Lib.hid hf; have Hr := Lib.hid hr
        clear hf hr
        go_wp2_with fail
        go_ret3
        exact ⟨A, cp, rfl, Hf.out, Hr.out⟩
end Go.Proofs.Ytdemeghhjnehbaa
