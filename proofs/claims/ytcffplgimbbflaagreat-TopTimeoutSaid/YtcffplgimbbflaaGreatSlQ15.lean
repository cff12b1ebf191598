/- Who waits on a channel, from outside; what two laws need. -/
import Derived.Test.YtcffplgimbbflaaGreatSlQ14
set_option linter.unusedVariables false
set_option linter.unusedSimpArgs false
namespace Go.Proofs.YtcffplgimbbflaaGreat
open Go.RowKit
set_option maxRecDepth 100000
theorem Tryz.info_event : (Tryz.prog.info? 43).map (fun i => (i.zero, i.size, i.bytes)) = some (some (.agg #[.int .i64 0, .int .i64 0, .int .i64 0, .int .i64 0, .int .i64 0, .int .i64 0]), 6, 48) := by kernel_rfl
theorem Tryz.info_deal : (Tryz.prog.info? 222).map (fun i => (i.zero, i.size, i.bytes)) = some (some (.agg #[.int .i64 0, .int .i64 0, .int .i64 0, .bool false, .int .i64 0]), 5, 40) := by kernel_rfl
theorem clock_now (w : World) (b : Nat) (now : Int) (h : w.heap[b]? = some (.cells #[inV now] 93 (0, 0))) : Calls Tryz.prog 73 #[ptV b] w fun e w' => e = .returned (inV now) ∧ w = w' := by
  have c0 := blk_cell h 0 rfl
  clear h
  go_enter Tryz.func73, Tryz.ntmps73
  go_wp2_with fail
  go_ret
  exact ⟨rfl, rfl⟩
section
variable {w : World} {S : Nat → Prop} {wb : Nat} {P : Pg} {st : WS} {nd nm : Nat} (h : WAt w S wb P st nd nm)
include h
theorem world_now : Calls Tryz.prog 52 #[ptV wb] w fun e w' => e = .returned (inV st.now) ∧ w = w' := by
  obtain ⟨F, c, h, rfl, hS⟩ := h
  have hb := h.blk id
  have hn := Lib.hid (clock_now w c.cb st.now (h.clk id))
  have c1 := blk_cell hb 1 rfl
  clear h hb
  go_enter Tryz.func52, Tryz.ntmps52
  go_wp2_with fail
  refine hn.out.mono ?_
  rintro e _ ⟨rfl, rfl⟩
  go_wp2_with fail
  go_ret
  exact ⟨rfl, rfl⟩
set_option maxHeartbeats 1000000 in
theorem world_tell (kind who a b d : Int) (hev : st.ev.length < 1000000) : Calls Tryz.prog 28 #[ptV wb, inV kind, inV who, inV a, inV b, inV d] w fun e w' => e = .returned (.tuple #[]) ∧ Nx w S wb P (st.tell kind who a b d) nd nm w' := by
  obtain ⟨F, c, h, rfl, hS⟩ := h
  have hb := h.blk id
  have hs := h.evs id
  obtain ⟨A, cp, hve⟩ := hs.slice
  have c9 := blk_cell hb 9 rfl
  have c10 := blk_cell hb 10 rfl
  have f10 := blk_froz hb 10
  rw [hve] at c10 hs
  generalize hn : st.ev.length = n at *
  have Hn := Lib.hid hn
  have lb := lt_of_block hb
  have H := Lib.hid h; have Hs := Lib.hid hs; have HS := Lib.hid hS; have Hb := Lib.hid hb
  have h90 : ¬ F 9 c.wb := fun q => absurd (h.dis _ _ _ q h.own0) (by decide)
  clear h hs hS hn hb hve
  go_enter Tryz.func28, Tryz.ntmps28
  go_wp2_with fail
  go_region_law ((refine step_append_sl _ (by rfl) _ _ _ (by rfl) (F 9) 43 _ 6 48 Tryz.underlying34 Tryz.info_event rfl (by omega) (.slice A n cp) n (evs st.ev) (by rfl) ((Hs.out.alloc _).drew) ⟨w.heap.size, 0, none⟩ 1 1 [inV (st.steps : Int), inV kind, inV who, inV a, inV b, inV d] (by rfl) (by rfl) (news_lit _ [inV (st.steps : Int), inV kind, inV who, inV a, inV b, inV d] 43 (0, 0) _ (heap_alloc_new w _)) (by rfl) (by omega) (by omega) ?_; intro v3 w3 hs3 hf3; obtain ⟨X3, c3, rfl⟩ := hs3.slice; have hb3 := hf3.blk h90 (show ((w.alloc (.cells #[inV (st.steps : Int), inV kind, inV who, inV a, inV b, inV d] 43)).drew).heap[c.wb]? = _ from (blk_alloc_ne _ lb).trans Hb.out); have d10 := blk_cell hb3 10 rfl; have g10 := blk_froz hb3 10; have Hb3 := Lib.hid hb3; have Hs3 := Lib.hid hs3; have Hf3 := Lib.hid hf3; clear hb3 hs3 hf3))
  all_goals
    go_wp2_with fail
    go_end0
    obtain ⟨W3, hW3⟩ : ∃ W3, W3 = w3.setCell ⟨c.wb, 10, none⟩ (.slice X3 (n + 1) c3) := ⟨_, rfl⟩
    rw [← hW3]
    have hf34 : Fr (fun k => k = c.wb) w3 W3 := by rw [hW3]; exact (Fr.refl _ w3).setB 10 _
    have hb4 := blk_set Hb3.out 10 (.slice X3 (n + 1) c3)
    rw [← hW3] at hb4
    have hz1 : (w.alloc (.cells #[inV (st.steps : Int), inV kind, inV who, inV a, inV b, inV d] 43)).drew.heap.size = w.heap.size + 1 := by simp
    have hz2 := Hf3.out.size; have hz3 := hf34.size
    have hfr : Fr (fun k => F 0 k ∨ F 9 k) w W3 := (((((Fr.refl Nob w).alloc _).drew).none.trans Hf3.out fun k _ q => q).mono fun k _ q => .inr q).trans hf34 fun k _ q => .inl (by rw [q]; exact H.out.own0)
    have h' := H.out.part2 0 9 hfr
    have hsub : ∀ k, (F 9 k ∨ (w.heap.size ≤ k ∧ k < W3.heap.size)) → F 9 k ∨ w.heap.size ≤ k := fun k q => q.imp id fun q => q.1
    have hs4 : Sl W3 (fun k => F 9 k ∨ (w.heap.size ≤ k ∧ k < W3.heap.size)) 43 6 (.slice X3 (n + 1) c3) (n + 1) (evs (st.tell kind who a b d).ev) := by
      have e1 : evs (st.tell kind who a b d).ev = evs st.ev ++ [inV (st.steps : Int), inV kind, inV who, inV a, inV b, inV d] := by simp [WS.tell, evs]
      rw [e1]
      refine (Hs3.out.fr hf34 fun k q e => ?_).mono fun k hk q => ?_
      · rcases q with q | q
        · exact h90 (by rw [← e]; exact q)
        · omega
      · rcases q with q | q
        · exact .inl q
        · exact .inr ⟨by omega, hk⟩
    have hlen : (st.tell kind who a b d).ev.length = n + 1 := by simp [WS.tell, Hn.out]
    refine ⟨rfl, WAt.of HS.out (hfr.mono fun k _ q => by rcases q with q | q; exact ⟨0, q⟩; exact ⟨9, q⟩) (c' := { c with ve := .slice X3 (n + 1) c3 }) (F' := Go.Proofs.YtcffplgimbbflaaGreat.upd F 9 (fun k => F 9 k ∨ (w.heap.size ≤ k ∧ k < W3.heap.size))) ⟨fam_lt H.out.lt hfr.size fun k q => by rcases q with q | q; have := H.out.lt _ _ q; omega; exact q.2, fam_dis H.out.lt H.out.dis hsub, h'.own0, h'.own1, fun _ => hb4, fun _ => h'.clk (by decide), fun _ => h'.tab (by decide), fun _ => h'.chs (by decide), fun _ => h'.tim (by decide), fun _ => h'.ctx (by decide), fun _ => h'.dls (by decide), fun _ => h'.lks (by decide), fun _ => h'.prg (by decide), fun _ => by rw [hlen]; exact hs4, fun _ => h'.cas (by decide), fun _ => h'.pool (by decide), h'.chn, h'.tml, h'.cxl, h'.pad⟩ rfl (fam_un (fun p k q => ⟨p, q⟩) hsub)⟩
end
theorem deal_new (w : World) : Calls Tryz.prog 23 #[] w fun e w' => ∃ (b : Nat) (S : Nat → Prop), e = .returned (ptV b) ∧ Fr Nob w w' ∧ DealAt w' S b 0 ∧ (∀ k, S k → w.heap.size ≤ k) ∧ ∀ k, S k → k < w'.heap.size := by
  go_enter Tryz.func23, Tryz.ntmps23
  go_wp2_with fail
  go_ret
  exact ⟨w.heap.size, fun k => k = w.heap.size, rfl, (Fr.refl _ _).alloc _, ⟨Nob, .slice none 0 0, 0, [], rfl, fun k q => q.elim, heap_alloc_new _ _, Sl.nil _ _ _ _, Nat.le_refl _⟩, fun k q => by omega, fun k q => by simp; omega⟩
def DealP (w : World) (S : Nat → Prop) (b nd : Nat) (e : Ending) (w' : World) : Prop := (∃ r : Int, e = .returned (inV r)) ∧ Fr S w w' ∧ DealAt w' (And' S w w') b nd
set_option maxHeartbeats 1000000 in
theorem deal_add {w : World} {S : Nat → Prop} {b nd : Nat} (h : DealAt w S b nd) (hS : ∀ k, S k → k < w.heap.size) (hnd : nd ≤ 1000000000000) (ch who v at' : Int) (got : Bool) (hw : -1 ≤ who) :
    Calls Tryz.prog 118 #[ptV b, .agg #[inV ch, inV who, inV v, .bool got, inV at']] w (DealP w S b (nd + 1)) := by
  by_cases hch : ch < 0
  · have hc : decide (ch < 0) = true := decide_eq_true hch
    have H := Lib.hid h
    clear h
    go_enter Tryz.func118, Tryz.ntmps118
    go_wp2_with fail
    go_ret
    have hf : Fr Nob w (w.alloc (.cells #[inV ch, inV who, inV v, .bool got, inV at'] 222)) := (Fr.refl _ _).alloc _
    obtain ⟨SL, v0, n, cs, h1, h2, h3, h4, h5⟩ := H.out.fr (S := S) hf fun _ _ q => q
    exact ⟨⟨_, rfl⟩, hf.none, SL, v0, n, cs, .inl h1, fun k q => ⟨.inl (h2 k q).1, (h2 k q).2⟩, h3, h4, by omega⟩
  · have hw1 : ¬ who < -1 := by omega
    obtain ⟨SL, v0, n, cs, h1, h2, h3, h4, h5⟩ := h
    obtain ⟨A, cp, rfl⟩ := h4.slice
    have lb := lt_of_block h3
    have H3 := Lib.hid h3; have H4 := Lib.hid h4
    clear h3 h4
    go_enter Tryz.func118, Tryz.ntmps118
    go_wp2_with fail
    obtain ⟨w1, hw1⟩ : ∃ w1, w1 = w.alloc (.cells #[inV ch, inV who, inV v, .bool got, inV at'] 222) := ⟨_, rfl⟩
    rw [← hw1]
    obtain ⟨xb, hxb⟩ : ∃ xb, xb = w.heap.size := ⟨_, rfl⟩
    rw [← hxb]
    have hfw1 : Fr Nob w w1 := by rw [hw1]; exact (Fr.refl Nob w).alloc _
    have hbw1 : w1.heap[xb]? = some (.cells #[inV ch, inV who, inV v, .bool got, inV at'] 222 (0, 0)) := by rw [hw1, hxb]; exact heap_alloc_new _ _
    have Hfw1 := Lib.hid hfw1; have Hbw1 := Lib.hid hbw1; have Hzw1 : Hid (w.heap.size = xb ∧ xb < w1.heap.size) := ⟨hxb.symm, lt_of_block hbw1⟩
    clear hw1 hxb hfw1 hbw1
    have hb1 := Hfw1.out.blk id H3.out
    have hs1 := H4.out.fr Hfw1.out fun _ _ q => q
    have c0 := blk_cell hb1 0 rfl; have f0 := blk_froz hb1 0
    have lb1 := lt_of_block hb1
    have x0 := blk_cell Hbw1.out 0 rfl; have x1 := blk_cell Hbw1.out 1 rfl; have x2 := blk_cell Hbw1.out 2 rfl; have x3 := blk_cell Hbw1.out 3 rfl; have x4 := blk_cell Hbw1.out 4 rfl
    have Hb1 := Lib.hid hb1; have Hs1 := Lib.hid hs1
    clear hb1 hs1
    go_region_law ((refine step_append_sl _ (by rfl) _ _ _ (by rfl) SL 222 _ 5 40 Tryz.underlying108 Tryz.info_deal rfl (by omega) (.slice A n cp) n cs (by rfl) ((Hs1.out.alloc _).drew) ⟨w1.heap.size, 0, none⟩ 1 1 [inV ch, inV who, inV v, .bool got, inV at'] (by rfl) (by rfl) (news_lit _ [inV ch, inV who, inV v, .bool got, inV at'] 222 (0, 0) _ (heap_alloc_new w1 _)) (by rfl) (by omega) (by omega) ?_; intro v3 w3 hs3 hf3; obtain ⟨X3, c3, rfl⟩ := hs3.slice; have hb3 := hf3.blk (fun q => (h2 _ q).2 rfl) (show ((w1.alloc (.cells #[inV ch, inV who, inV v, .bool got, inV at'] 222)).drew).heap[b]? = _ from (blk_alloc_ne _ lb1).trans Hb1.out); have d0 := blk_cell hb3 0 rfl; have g0 := blk_froz hb3 0; have Hb3 := Lib.hid hb3; have Hs3 := Lib.hid hs3; have Hf3 := Lib.hid hf3; clear hb3 hs3 hf3))
    all_goals
      go_wp2_with fail
      go_ret
      have hz1 : (w1.alloc (.cells #[inV ch, inV who, inV v, .bool got, inV at'] 222)).drew.heap.size = w1.heap.size + 1 := by simp
      have hz0 := Hfw1.out.size; have hz2 := Hf3.out.size
      have hbw := hS b h1
      have hf34 : Fr (fun k => k = b) w3 (w3.setCell ⟨b, 0, none⟩ (.slice X3 (n + 1) c3)) := (Fr.refl _ w3).setB 0 _
      have hz3 := hf34.size
      refine ⟨⟨_, rfl⟩, ((((Hfw1.out.alloc _).drew).none.trans Hf3.out fun k _ q => (h2 k q).1).trans hf34 fun k _ q => by rw [q]; exact h1), fun k => SL k ∨ (w.heap.size ≤ k ∧ k < (w3.setCell ⟨b, 0, none⟩ (.slice X3 (n + 1) c3)).heap.size), _, n + 1, _, .inl h1, fun k q => ?_, blk_set Hb3.out 0 _, (Hs3.out.fr hf34 fun k q e => ?_).mono fun k hk q => ?_, by omega⟩
      · rcases q with q | q
        · exact ⟨.inl (h2 k q).1, (h2 k q).2⟩
        · exact ⟨.inr q, by omega⟩
      · rcases q with q | q
        · exact (h2 k q).2 e
        · omega
      · rcases q with q | q
        · exact .inl q
        · exact .inr ⟨by omega, hk⟩
section
variable {w : World} {S : Nat → Prop} {wb : Nat} {P : Pg} {st : WS} {nd nm : Nat} (h : WAt w S wb P st nd nm)
include h
set_option maxHeartbeats 1000000 in
theorem world_went2 (ch who v : Int) (got : Bool) (hw : -1 ≤ who) (hnd : nd ≤ 1000000000000) : Calls Tryz.prog 77 #[ptV wb, inV ch, inV who, inV v, .bool got] w fun e w' => e = .returned (.tuple #[]) ∧ Nx w S wb P st (nd + 1) nm w' ∧ w'.heap[wb]? = w.heap[wb]? := by
  obtain ⟨F, c, h, rfl, hS⟩ := h
  have hb := h.blk id
  have Hd := Lib.hid (fun W (hW : Fr Nob w W) => deal_add ((h.fr0 hW).dls id) ((h.fr0 hW).lt 6) hnd ch who v (st.steps : Int) got hw)
  have c7 := blk_cell hb 7 rfl; have c9 := blk_cell hb 9 rfl
  have h60 : ¬ F 6 c.wb := fun q => absurd (h.dis _ _ _ q h.own0) (by decide)
  have H := Lib.hid h; have HS := Lib.hid hS
  have key : ∀ W, Fr (F 6) w W → W.cell? ⟨c.wb, 7, none⟩ = some (ptV c.db) ∧ W.cell? ⟨c.wb, 9, none⟩ = some (inV (st.steps : Int)) := fun W hW => ⟨hW.cell h60 c7, hW.cell h60 c9⟩
  have Key := Lib.hid key
  clear h hS hb c7 c9 key
  go_enter Tryz.func77, Tryz.ntmps77
  go_wp2_with fail
  have hf0 : Fr (F 6) w w := Fr.refl _ _
  go_region_held3 (fun W => W.cell? ⟨c.wb, 7, none⟩ = some (ptV c.db) ∧ W.cell? ⟨c.wb, 9, none⟩ = some (inV (st.steps : Int)))
    ((refine Key.out _ ?_; first | with_reducible exact hf2 | with_reducible exact hf0 | exact hf0.drew))
    ((go_at_call 118; refine (Hd.out w.drew ((Fr.refl Nob w).drew)).mono ?_; rintro e w2 ⟨⟨r, rfl⟩, hf2', hd2⟩; have hf2 : Fr (F 6) w w2 := (hf0.drew).trans0 hf2'; have Hd2 := Lib.hid hd2; clear hd2 hf2'))
  go_wp2_with fail
  go_end0
  have h' := H.out.part 6 hf2
  have hsub : ∀ k, And' (F 6) w.drew w2 k → F 6 k ∨ w.heap.size ≤ k := fun k q => q.imp id fun q => q.1
  have hblk : w2.heap[c.wb]? = w.heap[c.wb]? := hf2.block c.wb (H.out.lt _ _ H.out.own0) h60
  exact ⟨rfl, WAt.of HS.out (hf2.mono fun k _ q => ⟨6, q⟩) (c' := c) (F' := Go.Proofs.YtcffplgimbbflaaGreat.upd F 6 (And' (F 6) w.drew w2)) ⟨fam_lt H.out.lt hf2.size fun k q => by rcases q with q | q; have := H.out.lt _ _ q; have := hf2.size; omega; exact q.2, fam_dis H.out.lt H.out.dis hsub, h'.own0, h'.own1, fun _ => h'.blk (by decide), fun _ => h'.clk (by decide), fun _ => h'.tab (by decide), fun _ => h'.chs (by decide), fun _ => h'.tim (by decide), fun _ => h'.ctx (by decide), fun _ => Hd2.out, fun _ => (h'.lks (by decide)).mono (by omega), fun _ => h'.prg (by decide), fun _ => h'.evs (by decide), fun _ => h'.cas (by decide), fun _ => h'.pool (by decide), h'.chn, h'.tml, h'.cxl, h'.pad⟩ rfl (fam_un (fun p k q => ⟨p, q⟩) hsub), hblk⟩
theorem world_went (ch who v : Int) (got : Bool) (hw : -1 ≤ who) (hnd : nd ≤ 1000000000000) : Calls Tryz.prog 77 #[ptV wb, inV ch, inV who, inV v, .bool got] w fun e w' => e = .returned (.tuple #[]) ∧ Nx w S wb P st (nd + 1) nm w' :=
  (world_went2 h ch who v got hw hnd).mono fun _ _ q => ⟨q.1, q.2.1⟩
end
section
variable {w : World} {F : Nat → Nat → Prop} {c : Cfg} {P : Pg} {st : WS} {nd nm : Nat} (h : WP H0 w F c P st nd nm)
include h
theorem world_channel (hd : Int) (o : Option Nat) (ho : st.chan hd = some o) : Calls Tryz.prog 32 #[ptV c.wb, inV hd] w fun e w' => e = .returned (.tuple #[.pointer (pa c.B o), .bool true]) ∧ w = w' := by
  have hb := h.blk id
  have hs := h.chs id
  obtain ⟨A, cp, hvc⟩ := hs.slice
  have c3 := blk_cell hb 3 rfl
  rw [hvc] at c3 hs
  have hl := hs.len_le
  unfold WS.chan at ho
  by_cases h0 : hd < 0
  · rw [if_pos (.inl h0)] at ho
    split at ho
    · next e =>
      cases ho
      subst e
      clear h hb hs hvc
      go_enter Tryz.func32, Tryz.ntmps32
      go_wp2_with fail
      go_ret2
      exact ⟨rfl, rfl⟩
    · cases ho
  · by_cases h1 : (st.nch : Int) ≤ hd
    · rw [if_pos (.inr h1), if_neg (by omega)] at ho; cases ho
    · rw [if_neg (by omega)] at ho
      cases ho
      obtain ⟨i, rfl⟩ : ∃ i : Nat, hd = i := ⟨hd.toNat, by omega⟩
      have hi : i < st.nch := by omega
      obtain ⟨g, off, cp', hv', hg, hgl, hc1, hc2, hc, hfz⟩ := hs.form (by omega)
      injection hv' with hA hn' hcp
      subst hA; subst hcp
      have q0 := hc i (ptV (c.B i)) (by simp [chPtrs, hi])
      have hint : (i : Int) < st.nch := by omega
      clear h hb hs hvc hc hn'
      go_enter Tryz.func32, Tryz.ntmps32
      go_wp2_with fail
      go_ret2
      exact ⟨rfl, rfl⟩
end
theorem info_chan : (Tryz.prog.info? 85).map (fun i => i.size) = some 6 := by kernel_rfl
theorem Tryz.info_pchan : (Tryz.prog.info? 48).map (fun i => (i.zero, i.size, i.bytes)) = some (some (.pointer none), 1, 8) := by kernel_rfl
theorem eql_chan_same (w : World) (q : Nat) : (binOp .eql 48 (ptV q) (ptV q)).run Tryz.prog w = .ok (.bool true) w := by
  obtain ⟨j, hj, _⟩ := Option.map_eq_some_iff.1 info_chan
  exact run_eql_ptr_same w _ Tryz.underlying48 hj
theorem eql_chan_other {w : World} {p q : Nat} {cs1 cs2 : Array Value} {T1 T2 : TypeId} (h1 : w.heap[p]? = some (.cells cs1 T1 (0, 0))) (h2 : w.heap[q]? = some (.cells cs2 T2 (0, 0))) (hne : p ≠ q) : (binOp .eql 48 (ptV p) (ptV q)).run Tryz.prog w = .ok (.bool false) w := by
  obtain ⟨j, hj, hs⟩ := Option.map_eq_some_iff.1 info_chan
  exact run_eql_ptr_other w Tryz.underlying48 hj (by omega) (by simp [hne]) h1 h2
theorem ChanAt.block {w : World} {S : Nat → Prop} {b : Nat} {c : ChS} (h : ChanAt w S b c) : ∃ cs T, w.heap[b]? = some (.cells cs T (0, 0)) := by
  obtain ⟨_, _, _, _, _, _, h⟩ := h; exact ⟨_, _, h.blk⟩
theorem Pool.block {w : World} {S : Nat → Prop} {B : Nat → Nat} {P : Nat → Option ChS} (h : Pool w S B P) (i : Nat) {c : ChS} (hi : P i = some c) : ∃ cs T, w.heap[B i]? = some (.cells cs T (0, 0)) := by
  obtain ⟨T, h1, _⟩ := h.at hi; exact h1.block
theorem chs_get (B : Nat → Nat) (n i : Nat) (hi : i < n) : (chPtrs B n)[i]? = some (ptV (B i)) := by simp [chPtrs, hi]
section
variable {w : World} {F : Nat → Nat → Prop} {c : Cfg} {P : Pg} {st : WS} {nd nm : Nat} (h : WP H0 w F c P st nd nm)
include h
omit h in
theorem Pool.inj {S : Nat → Prop} {B : Nat → Nat} {P : Nat → Option ChS} (h : Pool w S B P) {i j : Nat} {x y : ChS} (hi : P i = some x) (hj : P j = some y) (e : B i = B j) : i = j := by
  obtain ⟨F, h1, _, h3⟩ := h
  obtain ⟨_, _, _, _, _, _, a⟩ := h1 i x hi
  obtain ⟨_, _, _, _, _, _, b⟩ := h1 j y hj
  exact h3 i j _ a.own (e ▸ b.own)
/-- The place of a channel. -/
theorem index_chans (b : Nat) (hb : ∃ cs T, w.heap[b]? = some (.cells cs T (0, 0))) : Calls Tryz.prog 119 #[c.vc, ptV b] w fun e w' => (∃ r : Int, e = .returned (inV r) ∧ ∀ j : Nat, j < st.nch → c.B j = b → r = j) ∧ w = w' := by
  have hs := h.chs id
  obtain ⟨A, cp, hvc⟩ := hs.slice
  rw [hvc] at hs ⊢
  have hl := hs.len_le
  unfold maxLen at hl
  have hsome : ∀ i, i < st.nch → ∃ x, st.ch i = some x := fun i hi => by
    have := h.chn i
    rw [decide_eq_true hi] at this
    exact Option.isSome_iff_exists.1 this
  have hblk : ∀ i, i < st.nch → ∃ cs T, w.heap[c.B i]? = some (.cells cs T (0, 0)) := fun i hi => by
    obtain ⟨x, hx⟩ := hsome i hi
    exact (h.pool id).block i hx
  have hinj : ∀ i j, i < st.nch → j < st.nch → c.B i = c.B j → i = j := fun i j hi hj e => by
    obtain ⟨x, hx⟩ := hsome i hi
    obtain ⟨y, hy⟩ := hsome j hj
    exact (h.pool id).inj hx hy e
  by_cases h0 : st.nch = 0
  · rw [h0] at hs
    rw [h0] at hl ⊢
    clear h hs hvc hsome hblk hinj hb
    go_enter Tryz.func119, Tryz.ntmps119
    go_wp2_with fail
    go_loopw [8] (fun i wr => i = .int .i64 0 ∧ wr = w) (fun i _ => 0)
    case atStart => exact ⟨rfl, rfl⟩
    case round =>
      obtain ⟨rfl, rfl⟩ := hrel
      go_wp2_with fail
      go_ret
      exact ⟨⟨_, rfl, fun j hj => absurd hj (by omega)⟩, rfl⟩
  · obtain ⟨g, off, cp', hv', hg, hgl, hc1, hc2, hc, hfz⟩ := hs.form (by omega)
    injection hv' with hA hn' hcp
    subst hA; subst hcp
    have Hblk := Lib.hid hblk; have Hinj := Lib.hid hinj; have Hb := Lib.hid hb
    have Hc := Lib.hid (fun i (hi : i < st.nch) => hc i (ptV (c.B i)) (chs_get c.B st.nch i hi))
    generalize st.nch = n at *
    clear h hs hvc hc hblk hinj hb hsome
    go_enter Tryz.func119, Tryz.ntmps119
    go_wp2_with fail
    go_loopw [8] (fun i wr => ∃ k : Nat, k ≤ n ∧ i = .int .i64 k ∧ wr = w ∧ Hid (∀ j, j < k → c.B j ≠ b)) (fun i _ => n - (intOf i).toNat)
    case atStart => exact ⟨0, Nat.zero_le _, rfl, rfl, Lib.hid fun j q => absurd q (by omega)⟩
    case round =>
      obtain ⟨k, hk, rfl, rfl, Hno⟩ := hrel
      by_cases hlt : k < n
      · have q0 := Hc.out k hlt
        have hint : (k : Int) < n := by omega
        obtain ⟨cs1, T1, h1⟩ := Hb.out
        obtain ⟨cs2, T2, h2⟩ := Hblk.out k hlt
        by_cases he : b = c.B k
        · have hq := eql_chan_same wr b
          rw [← he] at q0
          have He := Lib.hid he
          clear h1 h2 he
          go_wp2_with fail
          go_ret
          exact ⟨⟨_, rfl, fun j hj e => by have := Hinj.out j k hj hlt (e.trans He.out); rw [this]⟩, rfl⟩
        · have hq := eql_chan_other h1 h2 he
          have He := Lib.hid he
          clear h1 h2 he
          go_wp2_with fail
          go_roundw
          case rel => exact ⟨k + 1, by omega, by simp, by first | rfl | trivial, Lib.hid fun j q e => by
            by_cases e2 : j = k
            · subst e2; exact He.out e.symm
            · exact Hno.out j (by omega) e⟩
          case measure => simp [intOf]; omega
      · have hint : ¬ (k : Int) < n := by omega
        go_wp2_with fail
        go_ret
        exact ⟨⟨_, rfl, fun j hj e => absurd e (Hno.out j (by omega))⟩, rfl⟩
theorem world_handle (b : Nat) (hbb : ∃ cs T, w.heap[b]? = some (.cells cs T (0, 0))) : Calls Tryz.prog 78 #[ptV c.wb, ptV b] w fun e w' => (∃ r : Int, e = .returned (inV r) ∧ ∀ j : Nat, j < st.nch → c.B j = b → r = j) ∧ w = w' := by
  have Hi := Lib.hid (index_chans h b hbb)
  have hb := h.blk id
  have c3 := blk_cell hb 3 rfl
  obtain ⟨A, cp, hvc⟩ := (h.chs id).slice
  rw [hvc] at c3 Hi
  clear h hb hvc hbb
  go_enter Tryz.func78, Tryz.ntmps78
  go_wp2_with fail
  refine Hi.out.mono ?_
  rintro e _ ⟨⟨r, rfl, hr⟩, rfl⟩
  have Hr := Lib.hid hr
  clear hr
  go_wp2_with fail
  go_ret
  exact ⟨⟨_, rfl, Hr.out⟩, rfl⟩
end
def OpenP (w : World) (c : Cfg) (st : WS) (S3 : Nat → Prop) (n : Nat) (cs : List Value) (b : Nat) (e : Ending) (w' : World) : Prop := ∃ v', e = .returned (inV (n : Int)) ∧ Fr (fun k => k = c.wb ∨ S3 k) w w' ∧ w'.heap[c.wb]? = some (worldO { c with vc := v' } st) ∧ Sl w' (And' S3 w w') 48 1 v' (n + 1) (cs ++ [ptV b])
theorem open_raw {w : World} {c : Cfg} {st : WS} (hb : w.heap[c.wb]? = some (worldO c st)) {S3 : Nat → Prop} {n : Nat} {cs : List Value} (hs : Sl w S3 48 1 c.vc n cs) (h3 : ¬ S3 c.wb) (hn : n ≤ 100000) (b : Nat) : Calls Tryz.prog 131 #[ptV c.wb, ptV b] w (OpenP w c st S3 n cs b) := by
  obtain ⟨A, cp, hve⟩ := hs.slice
  have c3 := blk_cell hb 3 rfl
  have f3 := blk_froz hb 3
  rw [hve] at c3 hs
  have lb := lt_of_block hb
  have Hs := Lib.hid hs; have Hb := Lib.hid hb
  have hw1 : IntKind.i64.wrap ((n : Int) + 1 - 1) = (n : Int) := by rw [show (n : Int) + 1 - 1 = n by omega]; simp [IntKind.wrap, IntKind.bits, IntKind.signed]; omega
  clear hs hb hve
  go_enter Tryz.func131, Tryz.ntmps131
  go_wp2_with (at_builtin; refine wpList_append1 _ rfl _ _ _ rfl S3 48 _ 1 8 Tryz.underlying65 Tryz.info_pchan rfl (by omega) (.slice A n cp) n cs [ptV b] rfl Hs.out rfl rfl rfl (by omega) (by omega) ?_; intro v3 w3 hs3 hf3 hz3; obtain ⟨X3, cp3, rfl⟩ := hs3.slice; have hb3 := hf3.blk h3 Hb.out; have d3 := blk_cell hb3 3 rfl; have g3 := blk_froz hb3 3; have Hb3 := Lib.hid hb3; have Hs3 := Lib.hid hs3; have Hf3 := Lib.hid hf3; clear hb3 hs3 hf3)
  go_ret
  have hf34 : Fr (fun k => k = c.wb) w3 (w3.setCell ⟨c.wb, 3, none⟩ (.slice X3 (n + 1) cp3)) := (Fr.refl _ w3).setB 3 _
  have hz := Hf3.out.size; have hz4 := hf34.size
  refine ⟨.slice X3 (n + 1) cp3, by simp, (Hf3.out.mono fun k _ q => .inr q).trans hf34 fun k _ q => .inl q, blk_set Hb3.out 3 _, (Hs3.out.fr hf34 fun k q e => ?_).mono fun k hk q => ?_⟩
  · rcases q with q | q
    · exact h3 (by rw [← e]; exact q)
    · omega
  · rcases q with q | q
    · exact .inl q
    · exact .inr ⟨by omega, hk⟩
theorem chPtrs_snoc (B : Nat → Nat) (n b : Nat) : chPtrs (Go.Proofs.YtcffplgimbbflaaGreat.upd B n b) (n + 1) = chPtrs B n ++ [ptV b] := by
  unfold chPtrs
  rw [List.range_succ, List.map_append]
  congr 1
  · refine List.map_congr_left fun i hi => ?_
    rw [upd_ne _ _ (by have := List.mem_range.1 hi; omega)]
  · simp [upd_same]
theorem TmOk.more {B : Nat → Nat} {n b : Nat} {tmr : List Tr} {tm : List TmS} (h : TmOk B n tmr tm) : TmOk (Go.Proofs.YtcffplgimbbflaaGreat.upd B n b) (n + 1) tmr tm := by
  refine ⟨?_, fun x hx => by have := h.2 x hx; omega⟩
  rw [h.1]
  refine List.map_congr_left fun x hx => ?_
  rw [upd_ne _ _ (by have := h.2 x hx; omega)]
theorem CxOk.more {B : Nat → Nat} {n b : Nat} {cxr : List CxR} {cx : List CxS} (h : CxOk B n cxr cx) : CxOk (Go.Proofs.YtcffplgimbbflaaGreat.upd B n b) (n + 1) cxr cx := by
  refine ⟨?_, fun x hx i hi => by have := h.2 x hx i hi; omega⟩
  rw [h.1]
  refine List.map_congr_left fun x hx => ?_
  unfold toR
  congr 1
  cases hc : x.ch with
  | none => rfl
  | some i => simp only [Option.map_some]; rw [upd_ne _ _ (by have := h.2 x hx i hc; omega)]
/-- The state with one channel more. -/
abbrev WS.addCh (st : WS) (ch : ChS) : WS := { st with ch := Go.Proofs.YtcffplgimbbflaaGreat.upd st.ch st.nch (some ch), nch := st.nch + 1 }
abbrev Cfg.addCh (c : Cfg) (v : Value) (n b : Nat) : Cfg := { c with vc := v, B := Go.Proofs.YtcffplgimbbflaaGreat.upd c.B n b }
/-- A channel that was made beside the world gets a handle. -/
theorem WP.addChan {H : Nat → Prop} {w0 w w' : World} {F : Nat → Nat → Prop} {c : Cfg} {P : Pg} {st : WS} {nd nm : Nat} (h : WP H w F c P st nd nm) (hH : ¬ H 0 ∧ ¬ H 3 ∧ ¬ H 11) (hn : st.nch < 100000) {T : Nat → Prop} {b : Nat} {ch : ChS} (hc : ChanAt w T b ch) (hT : ∀ p k, F p k → T k → False) {v' : Value} (hf : Fr (fun k => k = c.wb ∨ F 3 k) w w') (hb : w'.heap[c.wb]? = some (worldO { c with vc := v' } st)) (hs : Sl w' (And' (F 3) w w') 48 1 v' (st.nch + 1) (chPtrs c.B st.nch ++ [ptV b])) :
    WP H w' (Go.Proofs.YtcffplgimbbflaaGreat.upd (Go.Proofs.YtcffplgimbbflaaGreat.upd F 3 (And' (F 3) w w')) 11 (fun k => F 11 k ∨ T k)) (c.addCh v' st.nch b) (P.1, Go.Proofs.YtcffplgimbbflaaGreat.upd P.2 st.nch b) (st.addCh ch) nd nm := by
  have hfr : Fr (fun k => F 0 k ∨ F 3 k) w w' := hf.mono fun k _ q => q.imp (fun e => by rw [e]; exact h.own0) id
  have hz := hfr.size
  have h' : WP (fun q => H q ∨ q = 0 ∨ q = 3) w' F c P st nd nm := h.frame hfr (fun q a => .inl a) fun q k n a b => by
    rcases b with b | b
    · exact n (.inr (.inl (h.dis q 0 k a b)))
    · exact n (.inr (.inr (h.dis q 3 k a b)))
  have hT0 : ∀ k, T k → (k = c.wb ∨ F 3 k) → False := fun k q e => by
    rcases e with e | e
    · exact hT 0 k (by rw [e]; exact h.own0) q
    · exact hT 3 k e q
  have hc' := hc.fr hf hT0
  have hpool := h'.pool (by rintro (q | q | q); exact hH.2.2 q; cases q; cases q)
  have key : ∀ p k, Go.Proofs.YtcffplgimbbflaaGreat.upd (Go.Proofs.YtcffplgimbbflaaGreat.upd F 3 (And' (F 3) w w')) 11 (fun k => F 11 k ∨ T k) p k → F p k ∨ (p = 3 ∧ w.heap.size ≤ k ∧ k < w'.heap.size) ∨ (p = 11 ∧ T k) := fun p k q => by
    by_cases e : p = 11
    · subst e; rw [upd_same] at q
      exact q.imp id fun q => .inr ⟨rfl, q⟩
    · rw [upd_ne _ _ e] at q
      by_cases e3 : p = 3
      · subst e3; rw [upd_same] at q
        exact q.imp id fun q => .inl ⟨rfl, q⟩
      · rw [upd_ne _ _ e3] at q; exact .inl q
  have hTl := hc.lt
  refine ⟨fun p k q => ?_, fun p r k a b' => ?_, h.own0, h.own1, fun _ => ?_, fun n => h'.clk (by rintro (q | q | q); exact n q; cases q; cases q), fun n => h'.tab (by rintro (q | q | q); exact n q; cases q; cases q), fun _ => ?_, fun n => h'.tim (by rintro (q | q | q); exact n q; cases q; cases q), fun n => h'.ctx (by rintro (q | q | q); exact n q; cases q; cases q), fun n => h'.dls (by rintro (q | q | q); exact n q; cases q; cases q), fun n => h'.lks (by rintro (q | q | q); exact n q; cases q; cases q), fun n => h'.prg (by rintro (q | q | q); exact n q; cases q; cases q), fun n => h'.evs (by rintro (q | q | q); exact n q; cases q; cases q), fun n => h'.cas (by rintro (q | q | q); exact n q; cases q; cases q), fun _ => ?_, fun i => ?_, h.tml.more, h.cxl.more, h.pad.1, by show st.nch + 1 ≤ 100000; omega, fun i hi => ?_⟩
  · rcases key p k q with q | q | q
    · have := h.lt p k q; omega
    · exact q.2.2
    · have := hTl k q.2; omega
  · rcases key p k a with a | a | a
    · rcases key r k b' with b' | b' | b'
      · exact h.dis _ _ _ a b'
      · have := h.lt p k a; omega
      · exact (hT p k a b'.2).elim
    · rcases key r k b' with b' | b' | b'
      · have := h.lt r k b'; omega
      · omega
      · have := hTl k b'.2; omega
    · rcases key r k b' with b' | b' | b'
      · exact (hT r k b' a.2).elim
      · have := hTl k a.2; omega
      · omega
  · exact hb
  · show Sl w' (And' (F 3) w w') _ 1 v' (st.nch + 1) (chPtrs (Go.Proofs.YtcffplgimbbflaaGreat.upd c.B st.nch b) (st.nch + 1))
    rw [chPtrs_snoc]; exact hs
  · show Pool w' (fun k => F 11 k ∨ T k) (Go.Proofs.YtcffplgimbbflaaGreat.upd c.B st.nch b) (Go.Proofs.YtcffplgimbbflaaGreat.upd st.ch st.nch (some ch))
    obtain ⟨G, g1, g2, g3⟩ := hpool
    have hno : st.ch st.nch = none := by have := h.chn st.nch; simpa using this
    refine ⟨Go.Proofs.YtcffplgimbbflaaGreat.upd G st.nch T, fun i x hi => ?_, fun i k q => ?_, fun i j k q r => ?_⟩
    · by_cases e : i = st.nch
      · subst e; rw [upd_same] at hi ⊢; rw [upd_same]; cases hi; exact hc'
      · rw [upd_ne _ _ e] at hi ⊢; rw [upd_ne _ _ e]; exact g1 i x hi
    · by_cases e : i = st.nch
      · subst e; rw [upd_same] at q; exact ⟨.inr q, by have := hTl k q; omega⟩
      · rw [upd_ne _ _ e] at q; exact ⟨.inl (g2 i k q).1, (g2 i k q).2⟩
    · by_cases e : i = st.nch
      · by_cases e2 : j = st.nch
        · omega
        · subst e; rw [upd_same] at q; rw [upd_ne _ _ e2] at r; exact (hT 11 k (g2 j k r).1 q).elim
      · by_cases e2 : j = st.nch
        · subst e2; rw [upd_same] at r; rw [upd_ne _ _ e] at q; exact (hT 11 k (g2 i k q).1 r).elim
        · rw [upd_ne _ _ e] at q; rw [upd_ne _ _ e2] at r; exact g3 i j k q r
  · show (Go.Proofs.YtcffplgimbbflaaGreat.upd st.ch st.nch (some ch) i).isSome = decide (i < st.nch + 1)
    by_cases e : i = st.nch
    · subst e; rw [upd_same]; simp
    · rw [upd_ne _ _ e, h.chn i]; by_cases hl : i < st.nch
      · rw [decide_eq_true hl, decide_eq_true (by omega)]
      · rw [decide_eq_false hl, decide_eq_false (by omega)]
  · show Go.Proofs.YtcffplgimbbflaaGreat.upd c.B st.nch b i = Go.Proofs.YtcffplgimbbflaaGreat.upd P.2 st.nch b i
    by_cases e : i = st.nch
    · subst e; rw [upd_same, upd_same]
    · have hi : i < st.nch + 1 := hi
      rw [upd_ne _ _ e, upd_ne _ _ e]; exact h.pad.2.2 i (by omega)
/-- The timers are put back. -/
theorem WP.fillTim {w : World} {F : Nat → Nat → Prop} {c : Cfg} {P : Pg} {st : WS} {nd nm nm' : Nat} (h : WP (fun q => q = 4) w F c P st nd nm) (hnm : nm ≤ nm') {T : Nat → Prop} {tmr : List Tr} {tm : List TmS} {named : Nat} {hp : List Hi} {seq : Nat} {per : Int → Option Int} (ht : TmAt w T c.mb tmr named hp seq per nm') (hok : TmOk c.B st.nch tmr tm) (hT : ∀ p k, p ≠ 4 → F p k → T k → False) :
    WP H0 w (Go.Proofs.YtcffplgimbbflaaGreat.upd F 4 T) { c with tmr := tmr } P { st with tm := tm, named := named, hp := hp, seq := seq, per := per } nd nm' := by
  have key : ∀ p k, Go.Proofs.YtcffplgimbbflaaGreat.upd F 4 T p k → (p ≠ 4 ∧ F p k) ∨ (p = 4 ∧ T k) := fun p k q => by
    by_cases e : p = 4
    · subst e; rw [upd_same] at q; exact .inr ⟨rfl, q⟩
    · rw [upd_ne _ _ e] at q; exact .inl ⟨e, q⟩
  exact ⟨fun p k q => by
    rcases key p k q with q | q
    · exact h.lt p k q.2
    · exact ht.lt k q.2, fun p r k a b => by
    rcases key p k a with a | a
    · rcases key r k b with b | b
      · exact h.dis _ _ _ a.2 b.2
      · exact (hT p k a.1 a.2 b.2).elim
    · rcases key r k b with b | b
      · exact (hT r k b.1 b.2 a.2).elim
      · omega, h.own0, h.own1, fun _ => h.blk (by decide), fun _ => h.clk (by decide), fun _ => h.tab (by decide), fun _ => h.chs (by decide), fun _ => ht, fun _ => (h.ctx (by decide)).mono hnm, fun _ => h.dls (by decide), fun _ => h.lks (by decide), fun _ => h.prg (by decide), fun _ => h.evs (by decide), fun _ => h.cas (by decide), fun _ => h.pool (by decide), h.chn, hok, h.cxl, h.pad⟩
theorem tkD_put (t : Nat → Int) (d : Bool) (pc : Int) (r : Nat → Int) : tkD (updT (updT (updT (updT (updT (updT (updT (updT (updT t 1 pc) 4 (r 0)) 5 (r 1)) 6 (r 2)) 7 (r 3)) 8 (r 4)) 9 (r 5)) 10 (r 6)) 11 (r 7)) d = tkD (putT t pc r) d := rfl
set_option maxHeartbeats 4000000 in
theorem put_ok {w : World} {S : Nat → Prop} {b : Nat} {ts : List Tk} {line : List Int} (h : TableAt w S b ts line) (i : Nat) (t : Nat → Int) (d : Bool) (hi : ts[i]? = some (t, d, .slice none 0 0)) (h2 : (t 2 == 0) = true) (pc : Int) (r : Nat → Int) :
    Calls Tryz.prog 62 #[.pointer (some ⟨b, 0, none⟩), .int .i64 (i : Int), .int .i64 pc, .agg (regR r)] w fun e w' => e = .returned (.int .i64 0) ∧ Fr S w w' ∧ TableAt w' S b (ts.set i (putT t pc r, d, .slice none 0 0)) line := by
  have His := Lib.hid (fun W (hW : Fr Nob w W) => is_runs (w := W) (S := S) (b := b) (ts := ts) (line := line) (by obtain ⟨ab, lb, SA, SL, h⟩ := h; exact ⟨ab, lb, SA, SL, h.fr0 hW⟩) i t d hi true (fun W => by have := so_runs W (t 2); rw [h2] at this; exact this) 0 rfl)
  obtain ⟨ab, lb, SA, SL, h⟩ := h
  have hset := fun W (hW : Fr Nob w W) => (h.fr0 hW).set i (List.getElem?_eq_some_iff.1 hi).1 (putT t pc r, d, .slice none 0 0) (tkD_one _ _)
  have hb := h.blk
  have Hset := Lib.hid hset; have Hb := Lib.hid hb; have H := Lib.hid h
  clear hset hb h hi h2
  go_enter Tryz.func62, Tryz.ntmps62
  go_wp2_with fail
  obtain ⟨w1, hw1⟩ : ∃ w1, w1 = w.alloc (.cells (regR r) 74) := ⟨_, rfl⟩
  rw [← hw1]
  obtain ⟨gb, hgb⟩ : ∃ gb, gb = w.heap.size := ⟨_, rfl⟩
  rw [← hgb]
  have hf1 : Fr Nob w w1 := by rw [hw1]; exact (Fr.refl Nob w).alloc _
  have hg1 : w1.heap[gb]? = some (.cells (regR r) 74 (0, 0)) := by rw [hw1, hgb]; exact heap_alloc_new _ _
  clear hw1 hgb
  refine (His.out w1 hf1).mono ?_
  rintro e w2 ⟨rfl, hf2⟩
  have Hf2 := Lib.hid (hf1.trans0 hf2); have Hg2 := Lib.hid (hf2.blk id hg1)
  clear hf2 hf1 hg1
  have hzn : (w2.alloc (.cells tkZ.toArray 98)).heap[w2.heap.size]? = some (.cells tkZ.toArray 98 (0, 0)) := heap_alloc_new _ _
  unfold tkZ at hzn
  dsimp only [tkL] at hzn
  go_wp2_with (refine wpList_store_row _ rfl 98 (.tmp 9) (.tmp 15) rfl w2.heap.size (tkD t d).toArray _ 98 rfl rfl hzn rfl (info18 t d) (tkD_all t d) ?_; intro w3 hb3 hf3; have c1 := tkc1 hb3; have c4 := tkc4 hb3; have c5 := tkc5 hb3; have c6 := tkc6 hb3; have c7 := tkc7 hb3; have c8 := tkc8 hb3; have c9 := tkc9 hb3; have c10 := tkc10 hb3; have c11 := tkc11 hb3; have f1 := tkf hb3 1; have f4 := tkf hb3 4; have f5 := tkf hb3 5; have f6 := tkf hb3 6; have f7 := tkf hb3 7; have f8 := tkf hb3 8; have f9 := tkf hb3 9; have f10 := tkf hb3 10; have f11 := tkf hb3 11; have hg3 := hf3.blk (k := gb) (by have := lt_of_block Hg2.out; omega) (((Fr.refl Nob w2).alloc _).blk id Hg2.out); have Hb3 := Lib.hid hb3; have Hf3 := Lib.hid hf3; clear hb3 hf3)
  have g0 := blk_cell hg3 0 rfl; have g1 := blk_cell hg3 1 rfl; have g2 := blk_cell hg3 2 rfl; have g3 := blk_cell hg3 3 rfl; have g4 := blk_cell hg3 4 rfl; have g5 := blk_cell hg3 5 rfl; have g6 := blk_cell hg3 6 rfl; have g7 := blk_cell hg3 7 rfl
  have hgt : gb ≠ w2.heap.size := by have := lt_of_block Hg2.out; omega
  clear hzn hg3
  go_region
  obtain ⟨w4, hw4⟩ : ∃ w4, w4 = (((((((((w3.setCell ⟨w2.heap.size, 1, none⟩ (.int .i64 pc)).setCell ⟨w2.heap.size, 4, none⟩ (.int .i64 (r 0))).setCell ⟨w2.heap.size, 5, none⟩ (.int .i64 (r 1))).setCell ⟨w2.heap.size, 6, none⟩ (.int .i64 (r 2))).setCell ⟨w2.heap.size, 7, none⟩ (.int .i64 (r 3))).setCell ⟨w2.heap.size, 8, none⟩ (.int .i64 (r 4))).setCell ⟨w2.heap.size, 9, none⟩ (.int .i64 (r 5))).setCell ⟨w2.heap.size, 10, none⟩ (.int .i64 (r 6))).setCell ⟨w2.heap.size, 11, none⟩ (.int .i64 (r 7))).drew := ⟨_, rfl⟩
  rw [← hw4]
  have hb4 : w4.heap[w2.heap.size]? = some (.cells (tkD (putT t pc r) d).toArray 98 (0, 0)) := by
    rw [← tkD_put, hw4, blk_drew]; exact (tkp11 (tkp10 (tkp9 (tkp8 (tkp7 (tkp6 (tkp5 (tkp4 (tkp1 Hb3.out _) _) _) _) _) _) _) _) _)
  have hf34 : Fr (fun k => k = w2.heap.size) w3 w4 := by rw [hw4]; exact ((((((((((Fr.refl (fun k => k = w2.heap.size) w3).setT 1 _).setT 4 _).setT 5 _).setT 6 _).setT 7 _).setT 8 _).setT 9 _).setT 10 _).setT 11 _).drew
  have hf23 : Fr Nob w2 w3 := ((Fr.refl Nob w2).alloc _).trans Hf3.out fun k hk e => by omega
  have hf24 : Fr Nob w2 w4 := hf23.trans hf34 fun k hk e => by omega
  have Hf4 := Lib.hid (Hf2.out.trans0 hf24)
  have Hb4 := Lib.hid hb4
  have Hz4 := Lib.hid Hf2.out.size
  clear hw4 hb4 hf34 hf23 hf24 c1 f1 c4 f4 c5 f5 c6 f6 c7 f7 c8 f8 c9 f9 c10 f10 c11 f11 g0 g1 g2 g3 g4 g5 g6 g7 hgt
  go_wp2_with fail
  have HS0 : Hid (w4.rangeAt w2.heap.size 0 (tkD (putT t pc r) d) ∧ w4.cell? ⟨b, 0, none⟩ = some (.pointer (some ⟨ab, 0, none⟩))) := ⟨rangeRow Hb4.out, blk_cell (Hf4.out.blk id Hb.out) 0 rfl⟩
  have hns : ¬ SA w2.heap.size := fun q => by have := H.out.lt _ (H.out.subA _ q).1; have := Hz4.out; omega
  have hu44 := Tryz.underlying98
  have hi44 : (Tryz.prog.info? 98).map (·.size) = some (tkD (putT t pc r) d).length := info_task18
  refine wp_region_held_drew (S := fun W => W.rangeAt w2.heap.size 0 (tkD (putT t pc r) d) ∧ W.cell? ⟨b, 0, none⟩ = some (.pointer (some ⟨ab, 0, none⟩))) (by kernel_rfl) (by simpa using HS0.out) (fun hHeld => ?_)
  refine wpAnyH_take (i := 0) (v := ?_) rfl (by kernel_rfl) (by kernel_rfl) (by kernel_rfl) (fun _ _ _ h => h) (Or.inl ⟨by rfl, ?_⟩) (by assumption) ?_
  rotate_left
  · intro w hSw; (try dsimp only at hSw); go_simp; try with_reducible rfl
  try simp only [List.getElem_toArray, List.getElem_cons_zero, List.getElem_cons_succ, Act.put, List.setIfInBounds_toArray, List.set_cons_zero, List.set_cons_succ]
  refine wpAnyH_take (i := 1) (v := ?_) rfl (by kernel_rfl) (by kernel_rfl) (by kernel_rfl) (fun _ _ _ h => h) (Or.inl ⟨by rfl, ?_⟩) (by assumption) ?_
  rotate_left
  · intro w hSw; (try dsimp only at hSw); go_simp; try with_reducible rfl
  try simp only [List.getElem_toArray, List.getElem_cons_zero, List.getElem_cons_succ, Act.put, List.setIfInBounds_toArray, List.set_cons_zero, List.set_cons_succ]
  refine wpAnyH_take (i := 2) (v := ?_) rfl (by kernel_rfl) (by kernel_rfl) (by kernel_rfl) (fun _ _ _ h => h) (Or.inl ⟨by rfl, ?_⟩) (by assumption) ?_
  rotate_left
  · intro w hSw; (try dsimp only at hSw); go_simp; try with_reducible rfl
  try simp only [List.getElem_toArray, List.getElem_cons_zero, List.getElem_cons_succ, Act.put, List.setIfInBounds_toArray, List.set_cons_zero, List.set_cons_succ]
  refine wpAnyH_take (i := 3) (v := ?_) rfl (by kernel_rfl) (by kernel_rfl) (by kernel_rfl) (fun _ _ _ h => h) (Or.inl ⟨by rfl, ?_⟩) (by assumption) ?_
  rotate_left
  · intro w hSw; (try dsimp only at hSw); go_simp; try with_reducible rfl
  try simp only [List.getElem_toArray, List.getElem_cons_zero, List.getElem_cons_succ, Act.put, List.setIfInBounds_toArray, List.set_cons_zero, List.set_cons_succ]
  refine wpAnyH_take (i := 4) (v := ?_) rfl (by kernel_rfl) (by kernel_rfl) (by kernel_rfl) (fun _ _ _ h => h) (Or.inl ⟨by rfl, ?_⟩) (by assumption) ?_
  rotate_left
  · intro w hSw; (try dsimp only at hSw); go_simp; try with_reducible rfl
  try simp only [List.getElem_toArray, List.getElem_cons_zero, List.getElem_cons_succ, Act.put, List.setIfInBounds_toArray, List.set_cons_zero, List.set_cons_succ]
  refine wpAnyH_take (i := 5) (v := _) rfl (by kernel_rfl) (by kernel_rfl) (by kernel_rfl) (fun _ _ _ h => h) (yieldsIf_load_mid (by rfl) _ _ rfl (w2.heap.size) 0 rfl (tkD (putT t pc r) d) _ (fun w hw => hw.1) hu44 rfl hi44) (by assumption) ?_
  try simp only [List.getElem_toArray, List.getElem_cons_zero, List.getElem_cons_succ, Act.put, List.setIfInBounds_toArray, List.set_cons_zero, List.set_cons_succ]
  refine wpAnyH_ready (rs := [6]) (by kernel_rfl) (by simp) ?_
  refine AllReadyH.cons rfl (fun K hK => ?_) AllReadyH.nil
  simp only [List.getElem_toArray, List.getElem_cons_zero, List.getElem_cons_succ]
  go_simp
  refine (Hset.out w4.drew Hf4.out.drew).mono ?_
  rintro e w5 ⟨rfl, hf5, ht5⟩
  refine hK.out _ _ ⟨fun j v hj => hf5.cell (p := ⟨w2.heap.size, 0 + j, none⟩) hns (hHeld.1 j v hj), hf5.cell (p := ⟨b, 0, none⟩) (fun q => (H.out.subA _ q).2 rfl) hHeld.2⟩ (fun hHeld2 => ?_)
  refine wpAnyH_done (by kernel_rfl) ?_ _
  try simp only [List.getElem_toArray, List.getElem_cons_zero, List.getElem_cons_succ, Act.put, List.setIfInBounds_toArray, List.set_cons_zero, List.set_cons_succ]
  have Hf5 := Lib.hid (show Fr SA w4 w5 from ((Fr.refl SA w4).drew).trans0 hf5); have Ht5 := Lib.hid ht5
  clear hf5 ht5 hHeld hHeld2 hK K HS0
  go_wp2_with fail
  go_ret
  exact ⟨rfl, Hf4.out.none.trans Hf5.out fun k hk q => (H.out.subA k q).1, ab, lb, SA, SL, Ht5.out⟩
theorem world_bit (w : World) (b : Bool) : Calls Tryz.prog 125 #[.bool b] w fun e w' => e = .returned (inV (bitI b)) ∧ w = w' := by
  cases b with
  | true =>
    go_enter Tryz.func125, Tryz.ntmps125
    go_wp2_with fail
    go_ret
    exact ⟨rfl, rfl⟩
  | false =>
    go_enter Tryz.func125, Tryz.ntmps125
    go_wp2_with fail
    go_ret
    exact ⟨rfl, rfl⟩
theorem tellO_some {st s : WS} {k w a b c : Int} (h : st.tellO k w a b c = some s) : st.ev.length < 1000 ∧ s = st.tell k w a b c := by
  unfold WS.tellO at h
  split at h
  · cases h
  · cases h; exact ⟨by omega, rfl⟩
theorem CasesAt.snoc {w : World} {S : Nat → Prop} {tsv : List Tk} {ts : List TkS} (h : CasesAt w S tsv ts) (t : Nat → Int) (d : Bool) : CasesAt w S (tsv ++ [(t, d, .slice none 0 0)]) (ts ++ [(t, d, [])]) := by
  refine ⟨by rw [List.length_append, List.length_append, h.1]; rfl, fun i t' d' cs hi => ?_⟩
  by_cases e : i < ts.length
  · rw [List.getElem?_append_left e] at hi
    obtain ⟨cv, a, b⟩ := h.2 i t' d' cs hi
    exact ⟨cv, by rw [List.getElem?_append_left (by rw [h.1]; exact e)]; exact a, b⟩
  · rw [List.getElem?_append_right (by omega)] at hi
    have : i - ts.length = 0 := by
      by_cases e2 : i - ts.length = 0
      · exact e2
      · rw [List.getElem?_eq_none (by simp; omega)] at hi; cases hi
    rw [this] at hi
    simp at hi
    obtain ⟨rfl, rfl, rfl⟩ := hi
    refine ⟨.slice none 0 0, ?_, Sl.nil _ _ _ _, fun _ => rfl⟩
    rw [List.getElem?_append_right (by rw [h.1]; omega), h.1, this]; rfl
theorem CasesAt.set {w : World} {S : Nat → Prop} {tsv : List Tk} {ts : List TkS} (h : CasesAt w S tsv ts) (i : Nat) (t : Nat → Int) (d : Bool) : CasesAt w S (tsv.set i (t, d, .slice none 0 0)) (ts.set i (t, d, [])) := by
  refine ⟨by rw [List.length_set, List.length_set, h.1], fun j t' d' cs hj => ?_⟩
  rw [List.getElem?_set] at hj
  split at hj
  · next e =>
    subst e
    split at hj
    · next hl =>
      simp at hj
      obtain ⟨rfl, rfl, rfl⟩ := hj
      exact ⟨.slice none 0 0, by rw [List.getElem?_set, if_pos rfl, if_pos (by rw [h.1]; exact hl)], Sl.nil _ _ _ _, fun _ => rfl⟩
    · cases hj
  · next e =>
    obtain ⟨cv, a, b⟩ := h.2 j t' d' cs hj
    exact ⟨cv, by rw [List.getElem?_set, if_neg e]; exact a, b⟩
/-- The table has turned. -/
theorem WP.fillTab {w w0 : World} {F : Nat → Nat → Prop} {c : Cfg} {P : Pg} {st : WS} {nd nm : Nat} (h : WP (fun q => q = 2) w F c P st nd nm) {T : Nat → Prop} {tsv : List Tk} {ts : List TkS} {line : List Int} (ht : TableAt w T c.tb tsv line) (hlt : ∀ k, T k → k < w.heap.size) (hT : ∀ p k, p ≠ 2 → F p k → T k → False) (hc : CasesAt w (F 10) tsv ts) :
    WP H0 w (Go.Proofs.YtcffplgimbbflaaGreat.upd F 2 T) { c with tsv := tsv } P { st with ts := ts, line := line } nd nm := by
  have key : ∀ p k, Go.Proofs.YtcffplgimbbflaaGreat.upd F 2 T p k → (p ≠ 2 ∧ F p k) ∨ (p = 2 ∧ T k) := fun p k q => by
    by_cases e : p = 2
    · subst e; rw [upd_same] at q; exact .inr ⟨rfl, q⟩
    · rw [upd_ne _ _ e] at q; exact .inl ⟨e, q⟩
  exact ⟨fun p k q => by
    rcases key p k q with q | q
    · exact h.lt p k q.2
    · exact hlt k q.2, fun p r k a b => by
    rcases key p k a with a | a
    · rcases key r k b with b | b
      · exact h.dis _ _ _ a.2 b.2
      · exact (hT p k a.1 a.2 b.2).elim
    · rcases key r k b with b | b
      · exact (hT r k b.1 b.2 a.2).elim
      · omega, h.own0, h.own1, fun _ => h.blk (by decide), fun _ => h.clk (by decide), fun _ => ht, fun _ => h.chs (by decide), fun _ => h.tim (by decide), fun _ => h.ctx (by decide), fun _ => h.dls (by decide), fun _ => h.lks (by decide), fun _ => h.prg (by decide), fun _ => h.evs (by decide), fun _ => hc, fun _ => h.pool (by decide), h.chn, h.tml, h.cxl, h.pad⟩
/-- A turn of the table alone: the world behind it. -/
theorem WAt.tabled {w w' : World} {S : Nat → Prop} {F : Nat → Nat → Prop} {c : Cfg} {P : Pg} {st : WS} {nd nm : Nat} (hS : ∀ k, S k ↔ Un F k) (h : WP H0 w F c P st nd nm) (hf : Fr (F 2) w w') {T : Nat → Prop} {tsv : List Tk} {ts : List TkS} {line : List Int} (ht : TableAt w' T c.tb tsv line) (hT : ∀ k, T k → F 2 k ∨ w.heap.size ≤ k) (hc : CasesAt w' (F 10) tsv ts) : Nx w S c.wb P { st with ts := ts, line := line } nd nm w' := by
  have hlt : ∀ k, T k → k < w'.heap.size := by obtain ⟨ab, lb, SA, SL, q⟩ := ht; exact q.lt
  refine WAt.of hS (hf.mono fun k _ q => ⟨2, q⟩) ((h.part 2 hf).fillTab (w0 := w) ht hlt (fun p k n a b => ?_) hc) rfl (fam_un (fun p k q => ⟨p, q⟩) hT)
  rcases hT k b with b | b
  · exact n (h.dis _ _ _ a b)
  · have := h.lt p k a; omega
section
variable {w : World} {S : Nat → Prop} {wb : Nat} {P : Pg} {st : WS} {nd nm : Nat} (h : WAt w S wb P st nd nm)
include h
set_option maxHeartbeats 1000000 in
theorem world_start (p : Int) (r : Nat → Int) {s : WS} (hs : st.start p r = some s) : Calls Tryz.prog 76 #[ptV wb, inV p, .agg (regR r)] w fun e w' => e = .returned (.tuple #[inV (st.ts.length : Int), inV 0]) ∧ Nx w S wb P s nd nm w' := by
  unfold WS.start at hs
  split at hs
  · cases hs
  · next hg =>
    obtain ⟨hev, rfl⟩ := tellO_some hs
    clear hs
    simp only [not_or, Int.not_lt, Nat.not_le] at hg
    obtain ⟨F, c, h, rfl, hS⟩ := h
    have hcas := h.cas id
    have hline : ((st.ts.length : Nat) : Int) ∉ st.line := by have := hg.2.2.1; simpa using this
    have Htab := Lib.hid (fun W (hW : Fr Nob w W) => task_start ((h.fr0 hW).tab id) p hg.1 r st.ts.length hcas.1 hg.2.1 hline hg.2.2.2)
    have hb := h.blk id
    have c2 := blk_cell hb 2 rfl
    have h20 : ¬ F 2 c.wb := fun q => absurd (h.dis _ _ _ q h.own0) (by decide)
    have H := Lib.hid h; have HS := Lib.hid hS; have Hg := Lib.hid hg
    have C2 := Lib.hid c2
    generalize hn : st.ts.length = n at *
    have Hn := Lib.hid hn
    clear h hS hb hg hcas hline c2 hn
    go_enter Tryz.func76, Tryz.ntmps76
    go_wp2_with fail
    obtain ⟨w1, hw1⟩ : ∃ w1, w1 = w.alloc (.cells (regR r) 74) := ⟨_, rfl⟩
    rw [← hw1]
    obtain ⟨gb, hgb⟩ : ∃ gb, gb = w.heap.size := ⟨_, rfl⟩
    rw [← hgb]
    have hfw1 : Fr Nob w w1 := by rw [hw1]; exact (Fr.refl Nob w).alloc _
    have hbw1 : w1.heap[gb]? = some (.cells (regR r) 74 (0, 0)) := by rw [hw1, hgb]; exact heap_alloc_new _ _
    have Hfw1 := Lib.hid hfw1; have Hbw1 := Lib.hid hbw1; have Hzw1 : Hid (w.heap.size = gb ∧ gb < w1.heap.size) := ⟨hgb.symm, lt_of_block hbw1⟩
    clear hw1 hgb hfw1 hbw1
    have key : ∀ W, Fr (F 2) w1 W → W.cell? ⟨c.wb, 2, none⟩ = some (ptV c.tb) ∧ W.cell? ⟨gb, 0, none⟩ = some (.int .i64 (r 0)) ∧ W.cell? ⟨gb, 1, none⟩ = some (.int .i64 (r 1)) ∧ W.cell? ⟨gb, 2, none⟩ = some (.int .i64 (r 2)) ∧ W.cell? ⟨gb, 3, none⟩ = some (.int .i64 (r 3)) ∧ W.cell? ⟨gb, 4, none⟩ = some (.int .i64 (r 4)) ∧ W.cell? ⟨gb, 5, none⟩ = some (.int .i64 (r 5)) ∧ W.cell? ⟨gb, 6, none⟩ = some (.int .i64 (r 6)) ∧ W.cell? ⟨gb, 7, none⟩ = some (.int .i64 (r 7)) := fun W hW => by
      have q := hW.blk (k := gb) (fun q => by have := H.out.lt _ _ q; have := Hzw1.out; omega) Hbw1.out
      exact ⟨hW.cell h20 (Hfw1.out.cell id C2.out), blk_cell q 0 rfl, blk_cell q 1 rfl, blk_cell q 2 rfl, blk_cell q 3 rfl, blk_cell q 4 rfl, blk_cell q 5 rfl, blk_cell q 6 rfl, blk_cell q 7 rfl⟩
    have Key := Lib.hid key
    clear key
    have hf0 : Fr (F 2) w1 w1 := Fr.refl _ _
    go_region_held3 (fun W => W.cell? ⟨c.wb, 2, none⟩ = some (ptV c.tb) ∧ W.cell? ⟨gb, 0, none⟩ = some (.int .i64 (r 0)) ∧ W.cell? ⟨gb, 1, none⟩ = some (.int .i64 (r 1)) ∧ W.cell? ⟨gb, 2, none⟩ = some (.int .i64 (r 2)) ∧ W.cell? ⟨gb, 3, none⟩ = some (.int .i64 (r 3)) ∧ W.cell? ⟨gb, 4, none⟩ = some (.int .i64 (r 4)) ∧ W.cell? ⟨gb, 5, none⟩ = some (.int .i64 (r 5)) ∧ W.cell? ⟨gb, 6, none⟩ = some (.int .i64 (r 6)) ∧ W.cell? ⟨gb, 7, none⟩ = some (.int .i64 (r 7)))
      ((refine Key.out _ ?_; first | with_reducible exact hf2 | with_reducible exact hf0 | exact hf0.drew))
      ((go_at_call 26; refine (Htab.out w1.drew (Hfw1.out.drew)).mono ?_; rintro e w2 ⟨T2, rfl, hf2', ht2, hs2⟩; have hf2 : Fr (F 2) w1 w2 := (hf0.drew).trans0 hf2'; have Ht2 := Lib.hid ht2; have Hs2 := Lib.hid hs2; clear ht2 hs2 hf2'))
    have hf02 : Fr (F 2) w w2 := Hfw1.out.none.trans0 hf2
    have hsub : ∀ k, T2 k → F 2 k ∨ w.heap.size ≤ k := fun k q => (Hs2.out k q).imp id fun q => by have := Hzw1.out; have q' : w1.heap.size ≤ k := q; omega
    have hc2 : CasesAt w2 (F 10) (c.tsv ++ [(newT p r, false, .slice none 0 0)]) (st.ts ++ [(newT p r, false, [])]) := ((H.out.cas id).fr hf02 fun k a b => absurd (H.out.dis _ _ _ a b) (by decide)).snoc _ _
    have hnx := WAt.tabled HS.out H.out hf02 Ht2.out hsub hc2
    obtain ⟨S2, f2, a2, s2⟩ := hnx
    have Ht := Lib.hid (world_tell a2 5 (n : Int) p 0 0 (by show st.ev.length < 1000000; omega))
    have Hf2 := Lib.hid f2; have Hs2' := Lib.hid s2
    clear hf0 hf2 hf02 hsub hc2 f2 a2 s2
    go_wp2_with fail
    refine Ht.out.mono ?_
    rintro e w3 ⟨rfl, hn3⟩
    have Hn3 := Lib.hid hn3
    clear hn3
    go_wp2_with fail
    go_ret2
    exact ⟨rfl, Nx.step Hf2.out Hs2'.out Hn3.out⟩
end
end Go.Proofs.YtcffplgimbbflaaGreat
