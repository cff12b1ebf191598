/- Who waits on a channel, from outside; what two laws need. -/
import Derived.Test.YtcffplgimbbflaaGreatSlQ11
set_option linter.unusedVariables false
set_option linter.unusedSimpArgs false
namespace Go.Proofs.YtcffplgimbbflaaGreat
open Go.RowKit
set_option maxRecDepth 100000
theorem Tryz.info_one : (Tryz.prog.info? 179).map (fun i => (i.zero, i.size, i.bytes)) = some (some (.agg #[.int .i64 0, .int .i64 0, .pointer none, .int .i64 0]), 4, 32) := by kernel_rfl
/-- One more stands at the end of the row. -/
theorem TmP.grown {w W X w3 : World} {S : Nat → Prop} {b eb : Nat} {SL SE : Nat → Prop} {A : Option Addr} {cp : Nat} {l : List Tr} {n named : Nat} {hp : List Hi} {seq : Nat} {per : Int → Option Int} {nm : Nat} (h : TmP w S b eb SL SE (.slice A n cp) l n named hp seq per nm) (m : Nat)
    (hfW : Fr (fun k => k = b) w W) (hsW : Sl W SL 179 4 (.slice A n cp) n (trs l)) (heW : ExpAt W SE eb hp seq per nm) (x : Tr) (hX : Fr Nob W X) (hXs : X.heap.size = W.heap.size + 1) (hf3 : Fr SL X w3) {X3 : Option Addr} {c3 : Nat}
    (hb3 : w3.heap[b]? = some (.cells #[.slice A n cp, .pointer (some ⟨eb, 0, none⟩), .int .i64 (m : Int)] 107 (0, 0)))
    (hs3 : Sl w3 (fun k => SL k ∨ X.heap.size ≤ k) 179 4 (.slice X3 (n + 1) c3) (n + 1) (trs l ++ trEn x)) :
    TmP (w3.setCell ⟨b, 0, none⟩ (.slice X3 (n + 1) c3)) (And' S w (w3.setCell ⟨b, 0, none⟩ (.slice X3 (n + 1) c3))) b eb (And' SL w (w3.setCell ⟨b, 0, none⟩ (.slice X3 (n + 1) c3))) SE (.slice X3 (n + 1) c3) (l ++ [x]) (n + 1) m hp seq per nm ∧ Fr S w (w3.setCell ⟨b, 0, none⟩ (.slice X3 (n + 1) c3)) := by
  obtain ⟨W3, hW3⟩ : ∃ W3, W3 = w3.setCell ⟨b, 0, none⟩ (.slice X3 (n + 1) c3) := ⟨_, rfl⟩
  have hf34 : Fr (fun k => k = b) w3 W3 := by rw [hW3]; exact (Fr.refl (fun k => k = b) w3).setCell (p := ⟨b, 0, none⟩) (.inl rfl) _
  have hb4 := blk_set hb3 0 (.slice X3 (n + 1) c3)
  rw [← hW3] at hb4 ⊢
  have hbl := h.lt b h.own
  have hz1 := hfW.size; have hz2 := hf3.size; have hz3 := hf34.size
  refine ⟨⟨.inl h.own, fun k q => ?_, fun k q => ?_, fun k q => ⟨.inl (h.subE k q).1, (h.subE k q).2.1, fun q' => ?_⟩, hb4, by rw [List.length_append, h.len]; rfl, ?_, ?_⟩, ?_⟩
  · rcases q with q | q
    · have := h.lt k q; omega
    · exact q.2
  · rcases q with q | q
    · exact ⟨.inl (h.subL k q).1, (h.subL k q).2⟩
    · exact ⟨.inr q, by omega⟩
  · rcases q' with q' | q'
    · exact (h.subE k q).2.2 q'
    · have := h.lt k (h.subE k q).1; omega
  · have e1 : trs (l ++ [x]) = trs l ++ trEn x := by simp [trs]
    rw [e1]
    refine (hs3.fr hf34 fun k q e => ?_).mono fun k hk q => ?_
    · rcases q with q | q
      · exact (h.subL k q).2 e
      · omega
    · rcases q with q | q
      · exact .inl q
      · exact .inr ⟨by omega, hk⟩
  · exact ((heW.fr0 hX).fr hf3 fun k q q' => (h.subE k q).2.2 q').fr hf34 fun k q e => (h.subE k q).2.1 e
  · exact ((((hfW.mono fun k _ q => by subst q; exact h.own).trans hX.none fun k _ q => q).trans hf3 fun k _ q => (h.subL k q).1).trans hf34 fun k _ q => by subst q; exact h.own)
section
variable {w : World} {S : Nat → Prop} {b : Nat} {l : List Tr} {named : Nat} {hp : List Hi} {seq : Nat} {per : Int → Option Int} {nm : Nat} (h : TmAt w S b l named hp seq per nm)
include h
set_option maxHeartbeats 1000000 in
theorem tim_make (kind : Int) (hk : kind = 1 ∨ kind = 2) (cb : Nat) (n : Nat) (hl : l.length = n) (hn : n < 900) (hna : named < 64) (now d : Int) (h0 : 0 ≤ now) (h1 : now ≤ maxT) (hd : 1 ≤ d) (hnm : nm < 700000) {l' : List Hi} (hl' : heapAdd (heapDel hp n) ((n : Int), addT now d, ((seq + 1 : Nat) : Int)) = some l') :
    Calls Tryz.prog 180 #[.pointer (some ⟨b, 0, none⟩), .agg #[.int .i64 kind, .int .i64 0, .pointer (some ⟨cb, 0, none⟩), .int .i64 0], .int .i64 now, .int .i64 d] w fun e w' => ∃ S' : Nat → Prop, e = .returned (.tuple #[.int .i64 (n : Int), .int .i64 0]) ∧ Fr S w w' ∧ TmAt w' S' b (l ++ [(kind, 0, cb, 1)]) (named + 1) l' (seq + 1) (putP per n (perOf kind d)) (nm + 6) ∧ ∀ k, S' k → S k ∨ w.heap.size ≤ k := by
  obtain ⟨eb, SL, SE, v, n', h⟩ := h
  obtain rfl : n' = n := by rw [← h.len, hl]
  have Hbad := Lib.hid (fun W => tim_bad W now h0 h1)
  obtain ⟨A, cp, rfl, c0, c1, c2, f0, f2⟩ := h.cells
  have hk4 : (kind != 4) = true := by rcases hk with rfl | rfl <;> rfl
  have hge : ¬ (64 : Int) ≤ named := by omega
  have hws : IntKind.i64.wrap ((named : Int) + 1) = (named : Int) + 1 := by simp [IntKind.wrap, IntKind.bits, IntKind.signed]; omega
  have hd1 : decide (d < 1) = false := decide_eq_false (by omega)
  have hws2 : IntKind.i64.wrap ((n' : Int) + 1 - 1) = (n' : Int) := by rw [show (n' : Int) + 1 - 1 = n' by omega]; simp [IntKind.wrap, IntKind.bits, IntKind.signed]; omega
  have H := Lib.hid h; have Hl := Lib.hid hl'
  clear h hl'
  rcases hk with rfl | rfl
  · go_enter Tryz.func180, Tryz.ntmps180
    go_wp2_with fail
    obtain ⟨w1, hw1⟩ : ∃ w1, w1 = w.alloc (.cells #[.int .i64 1, .int .i64 0, .pointer (some ⟨cb, 0, none⟩), .int .i64 0] 179) := ⟨_, rfl⟩
    rw [← hw1]
    obtain ⟨xb, hxb⟩ : ∃ xb, xb = w.heap.size := ⟨_, rfl⟩
    rw [← hxb]
    have hfw1 : Fr Nob w w1 := by rw [hw1]; exact (Fr.refl Nob w).alloc _
    have hbw1 : w1.heap[xb]? = some (.cells #[.int .i64 1, .int .i64 0, .pointer (some ⟨cb, 0, none⟩), .int .i64 0] 179 (0, 0)) := by rw [hw1, hxb]; exact heap_alloc_new _ _
    have Hfw1 := Lib.hid hfw1; have Hbw1 := Lib.hid hbw1; have Hzw1 : Hid (w.heap.size = xb ∧ xb < w1.heap.size) := ⟨hxb.symm, lt_of_block hbw1⟩
    clear hw1 hxb hfw1 hbw1
    refine (Hbad.out _).mono ?_
    rintro e _ ⟨rfl, rfl⟩
    have d0 := Hfw1.out.cell id c0; have d1 := Hfw1.out.cell id c1; have d2 := Hfw1.out.cell id c2
    have g2 := (Hfw1.out.frozen (p := ⟨b, 2, none⟩) id (H.out.lt b H.out.own)).trans f2
    have x0 := blk_cell Hbw1.out 0 rfl; have x1 := blk_cell Hbw1.out 1 rfl
    clear c0 c1 c2 f0 f2
    go_wp2_with fail
    obtain ⟨W, hW⟩ : ∃ W, W = w1.setCell ⟨b, 2, none⟩ (.int .i64 ((named : Int) + 1)) := ⟨_, rfl⟩
    rw [← hW]
    have h1' := H.out.fr0 Hfw1.out
    have hfW1 : Fr (fun k => k = b) w1 W := by rw [hW]; exact (Fr.refl (fun k => k = b) w1).setCell (p := ⟨b, 2, none⟩) (.inl rfl) _
    have hbW : W.heap[b]? = some (.cells #[.slice A n' cp, .pointer (some ⟨eb, 0, none⟩), .int .i64 ((named + 1 : Nat) : Int)] 107 (0, 0)) := by rw [hW]; exact blk_set h1'.blk 2 _
    have hsW : Sl W SL 179 4 (.slice A n' cp) n' (trs l) := h1'.sl.fr hfW1 fun k q e => (h1'.subL k q).2 e
    have heW := h1'.exp.fr hfW1 fun k q e => (h1'.subE k q).2.1 e
    have hxb : xb ≠ b := fun e => by have := H.out.lt b H.out.own; have := Hzw1.out; omega
    have hxW := hfW1.blk hxb Hbw1.out
    have hfW : Fr (fun k => k = b) w W := Hfw1.out.none.trans0 hfW1
    have lbW := lt_of_block hbW
    clear d0 d1 d2 g2 x0 x1
    have b0 := blk_cell hbW 0 rfl; have b1 := blk_cell hbW 1 rfl; have z0 := blk_froz hbW 0
    have x0 := blk_cell hxW 0 rfl; have x1 := blk_cell hxW 1 rfl; have x2 := blk_cell hxW 2 rfl; have x3 := blk_cell hxW 3 rfl
    have HbW := Lib.hid hbW; have HsW := Lib.hid hsW; have HfW := Lib.hid hfW; have HeW := Lib.hid heW
    clear hbW hsW hfW heW hW hfW1 h1' hxW hxb
    go_region_law ((refine step_append_sl _ (by rfl) _ _ _ (by rfl) SL 179 _ 4 32 Tryz.underlying105 Tryz.info_one rfl (by omega) (.slice A n' cp) n' (trs l) (by rfl) ((HsW.out.alloc _).drew) ⟨W.heap.size, 0, none⟩ 1 1 [.int .i64 1, .int .i64 0, .pointer (some ⟨cb, 0, none⟩), .int .i64 0] (by rfl) (by rfl) (news_lit _ [.int .i64 1, .int .i64 0, .pointer (some ⟨cb, 0, none⟩), .int .i64 0] 179 (0, 0) _ (heap_alloc_new W _)) (by rfl) (by omega) (by omega) ?_; intro v3 w3 hs3 hf3; obtain ⟨X3, c3, rfl⟩ := hs3.slice; have hb3 := hf3.blk (fun q => (H.out.subL _ q).2 rfl) (show ((W.alloc (.cells #[.int .i64 1, .int .i64 0, .pointer (some ⟨cb, 0, none⟩), .int .i64 0] 179)).drew).heap[b]? = _ from (blk_alloc_ne _ lbW).trans HbW.out); have d0 := blk_cell hb3 0 rfl; have g0 := blk_froz hb3 0; have Hb3 := Lib.hid hb3; have Hs3 := Lib.hid hs3; have Hf3 := Lib.hid hf3; clear hb3 hs3 hf3))
    all_goals
      have hq3 := TmP.grown H.out (named + 1) HfW.out HsW.out HeW.out (1, 0, cb, 0) ((Fr.refl Nob W).alloc _).drew (by simp) Hf3.out Hb3.out Hs3.out
      obtain ⟨W3, hW3⟩ : ∃ W3, W3 = w3.setCell ⟨b, 0, none⟩ (.slice X3 (n' + 1) c3) := ⟨_, rfl⟩
      rw [← hW3] at hq3 ⊢
      obtain ⟨hq3, hf03⟩ := hq3
      have e0 := blk_cell hq3.blk 0 rfl
      have Hq3 := Lib.hid hq3; have Hf03 := Lib.hid hf03
      have hli : (l ++ [((1, 0, cb, 0) : Tr)])[n']? = some (1, 0, cb, 0) := by rw [← hl]; simp
      clear hq3 hf03 hW3 d0 g0 b0 b1 z0 x0 x1 x2 x3
      go_wp2_with fail
      refine (tim_arm (w := W3) ⟨eb, _, _, _, _, Hq3.out⟩ n' (by omega) (1, 0, cb, 0) hli rfl now d h0 hd hnm Hl.out).mono ?_
      rintro e w4 ⟨S4, rfl, hf4, ha4, hs4⟩
      obtain ⟨eb4, SL4, SE4, v4, n4, ha4⟩ := ha4
      have hn4 : n4 = n' + 1 := by rw [← ha4.len, List.length_set, List.length_append, hl]; rfl
      subst hn4
      obtain ⟨A4, cp4, rfl, k0, _⟩ := ha4.cells
      have Hf4 := Lib.hid hf4; have Ha4 := Lib.hid ha4; have Hs4 := Lib.hid hs4
      clear hf4 ha4 hs4 e0
      go_wp2_with fail
      go_ret2
      have hset : (l ++ [((1, 0, cb, 0) : Tr)]).set n' (1, 0, cb, 1) = l ++ [(1, 0, cb, 1)] := by rw [← hl]; simp
      have ha := Ha4.out
      rw [hset] at ha
      have hz := Hf03.out.size
      refine ⟨S4, by simp, Hf03.out.trans Hf4.out fun k hk q => ?_, ⟨eb4, SL4, SE4, _, _, ha⟩, fun k q => ?_⟩
      · rcases q with q | q
        · exact q
        · omega
      · rcases Hs4.out k q with q | q
        · rcases q with q | q
          · exact .inl q
          · exact .inr q.1
        · exact .inr (by omega)
  · go_enter Tryz.func180, Tryz.ntmps180
    go_wp2_with fail
    obtain ⟨w1, hw1⟩ : ∃ w1, w1 = w.alloc (.cells #[.int .i64 2, .int .i64 0, .pointer (some ⟨cb, 0, none⟩), .int .i64 0] 179) := ⟨_, rfl⟩
    rw [← hw1]
    obtain ⟨xb, hxb⟩ : ∃ xb, xb = w.heap.size := ⟨_, rfl⟩
    rw [← hxb]
    have hfw1 : Fr Nob w w1 := by rw [hw1]; exact (Fr.refl Nob w).alloc _
    have hbw1 : w1.heap[xb]? = some (.cells #[.int .i64 2, .int .i64 0, .pointer (some ⟨cb, 0, none⟩), .int .i64 0] 179 (0, 0)) := by rw [hw1, hxb]; exact heap_alloc_new _ _
    have Hfw1 := Lib.hid hfw1; have Hbw1 := Lib.hid hbw1; have Hzw1 : Hid (w.heap.size = xb ∧ xb < w1.heap.size) := ⟨hxb.symm, lt_of_block hbw1⟩
    clear hw1 hxb hfw1 hbw1
    refine (Hbad.out _).mono ?_
    rintro e _ ⟨rfl, rfl⟩
    have d0 := Hfw1.out.cell id c0; have d1 := Hfw1.out.cell id c1; have d2 := Hfw1.out.cell id c2
    have g2 := (Hfw1.out.frozen (p := ⟨b, 2, none⟩) id (H.out.lt b H.out.own)).trans f2
    have x0 := blk_cell Hbw1.out 0 rfl; have x1 := blk_cell Hbw1.out 1 rfl
    clear c0 c1 c2 f0 f2
    go_wp2_with fail
    obtain ⟨W, hW⟩ : ∃ W, W = w1.setCell ⟨b, 2, none⟩ (.int .i64 ((named : Int) + 1)) := ⟨_, rfl⟩
    rw [← hW]
    have h1' := H.out.fr0 Hfw1.out
    have hfW1 : Fr (fun k => k = b) w1 W := by rw [hW]; exact (Fr.refl (fun k => k = b) w1).setCell (p := ⟨b, 2, none⟩) (.inl rfl) _
    have hbW : W.heap[b]? = some (.cells #[.slice A n' cp, .pointer (some ⟨eb, 0, none⟩), .int .i64 ((named + 1 : Nat) : Int)] 107 (0, 0)) := by rw [hW]; exact blk_set h1'.blk 2 _
    have hsW : Sl W SL 179 4 (.slice A n' cp) n' (trs l) := h1'.sl.fr hfW1 fun k q e => (h1'.subL k q).2 e
    have heW := h1'.exp.fr hfW1 fun k q e => (h1'.subE k q).2.1 e
    have hxb : xb ≠ b := fun e => by have := H.out.lt b H.out.own; have := Hzw1.out; omega
    have hxW := hfW1.blk hxb Hbw1.out
    have hfW : Fr (fun k => k = b) w W := Hfw1.out.none.trans0 hfW1
    have lbW := lt_of_block hbW
    clear d0 d1 d2 g2 x0 x1
    have b0 := blk_cell hbW 0 rfl; have b1 := blk_cell hbW 1 rfl; have z0 := blk_froz hbW 0
    have x0 := blk_cell hxW 0 rfl; have x1 := blk_cell hxW 1 rfl; have x2 := blk_cell hxW 2 rfl; have x3 := blk_cell hxW 3 rfl
    have HbW := Lib.hid hbW; have HsW := Lib.hid hsW; have HfW := Lib.hid hfW; have HeW := Lib.hid heW
    clear hbW hsW hfW heW hW hfW1 h1' hxW hxb
    go_region_law ((refine step_append_sl _ (by rfl) _ _ _ (by rfl) SL 179 _ 4 32 Tryz.underlying105 Tryz.info_one rfl (by omega) (.slice A n' cp) n' (trs l) (by rfl) ((HsW.out.alloc _).drew) ⟨W.heap.size, 0, none⟩ 1 1 [.int .i64 2, .int .i64 0, .pointer (some ⟨cb, 0, none⟩), .int .i64 0] (by rfl) (by rfl) (news_lit _ [.int .i64 2, .int .i64 0, .pointer (some ⟨cb, 0, none⟩), .int .i64 0] 179 (0, 0) _ (heap_alloc_new W _)) (by rfl) (by omega) (by omega) ?_; intro v3 w3 hs3 hf3; obtain ⟨X3, c3, rfl⟩ := hs3.slice; have hb3 := hf3.blk (fun q => (H.out.subL _ q).2 rfl) (show ((W.alloc (.cells #[.int .i64 2, .int .i64 0, .pointer (some ⟨cb, 0, none⟩), .int .i64 0] 179)).drew).heap[b]? = _ from (blk_alloc_ne _ lbW).trans HbW.out); have d0 := blk_cell hb3 0 rfl; have g0 := blk_froz hb3 0; have Hb3 := Lib.hid hb3; have Hs3 := Lib.hid hs3; have Hf3 := Lib.hid hf3; clear hb3 hs3 hf3))
    all_goals
      have hq3 := TmP.grown H.out (named + 1) HfW.out HsW.out HeW.out (2, 0, cb, 0) ((Fr.refl Nob W).alloc _).drew (by simp) Hf3.out Hb3.out Hs3.out
      obtain ⟨W3, hW3⟩ : ∃ W3, W3 = w3.setCell ⟨b, 0, none⟩ (.slice X3 (n' + 1) c3) := ⟨_, rfl⟩
      rw [← hW3] at hq3 ⊢
      obtain ⟨hq3, hf03⟩ := hq3
      have e0 := blk_cell hq3.blk 0 rfl
      have Hq3 := Lib.hid hq3; have Hf03 := Lib.hid hf03
      have hli : (l ++ [((2, 0, cb, 0) : Tr)])[n']? = some (2, 0, cb, 0) := by rw [← hl]; simp
      clear hq3 hf03 hW3 d0 g0 b0 b1 z0 x0 x1 x2 x3
      go_wp2_with fail
      refine (tim_arm (w := W3) ⟨eb, _, _, _, _, Hq3.out⟩ n' (by omega) (2, 0, cb, 0) hli rfl now d h0 hd hnm Hl.out).mono ?_
      rintro e w4 ⟨S4, rfl, hf4, ha4, hs4⟩
      obtain ⟨eb4, SL4, SE4, v4, n4, ha4⟩ := ha4
      have hn4 : n4 = n' + 1 := by rw [← ha4.len, List.length_set, List.length_append, hl]; rfl
      subst hn4
      obtain ⟨A4, cp4, rfl, k0, _⟩ := ha4.cells
      have Hf4 := Lib.hid hf4; have Ha4 := Lib.hid ha4; have Hs4 := Lib.hid hs4
      clear hf4 ha4 hs4 e0
      go_wp2_with fail
      go_ret2
      have hset : (l ++ [((2, 0, cb, 0) : Tr)]).set n' (2, 0, cb, 1) = l ++ [(2, 0, cb, 1)] := by rw [← hl]; simp
      have ha := Ha4.out
      rw [hset] at ha
      have hz := Hf03.out.size
      refine ⟨S4, by simp, Hf03.out.trans Hf4.out fun k hk q => ?_, ⟨eb4, SL4, SE4, _, _, ha⟩, fun k q => ?_⟩
      · rcases q with q | q
        · exact q
        · omega
      · rcases Hs4.out k q with q | q
        · rcases q with q | q
          · exact .inl q
          · exact .inr q.1
        · exact .inr (by omega)
end
structure Mk (w0 w : World) (S T U : Nat → Prop) (B : Nat → Nat) (P : Nat → Option ChS) (vl : Value) (n : Nat) (l : List Cs) (vw : Value) (m : Nat) (r : List Int) : Prop where
  fr : Fr Nob w0 w
  s : ∀ k, S k → w0.heap.size ≤ k ∧ k < w.heap.size
  t : ∀ k, T k → w0.heap.size ≤ k ∧ k < w.heap.size
  u : ∀ k, U k → w0.heap.size ≤ k ∧ k < w.heap.size
  st : ∀ k, S k → T k → False
  su : ∀ k, S k → U k → False
  tu : ∀ k, T k → U k → False
  pool : Pool w S B P
  sl : Sl w T 242 3 vl n (css B l)
  sw : Sl w U 3 1 vw m (ints r)
section
variable {w0 w w' : World} {S T U : Nat → Prop} {B : Nat → Nat} {P : Nat → Option ChS} {vl vw : Value} {n m : Nat} {l : List Cs} {r : List Int}
theorem Mk.start (w0 : World) (B : Nat → Nat) : Mk w0 w0 Nob Nob Nob B (fun _ => none) (.slice none 0 0) 0 [] (.slice none 0 0) 0 [] :=
  ⟨Fr.refl _ _, fun _ q => q.elim, fun _ q => q.elim, fun _ q => q.elim, fun _ q _ => q, fun _ q _ => q, fun _ q _ => q, Pool.start _ _ _, Sl.nil _ _ _ _, Sl.nil _ _ _ _⟩
theorem grow {S : Nat → Prop} (h : ∀ k, S k → w0.heap.size ≤ k ∧ k < w.heap.size) (hz : w.heap.size ≤ w'.heap.size) : ∀ k, S k → w0.heap.size ≤ k ∧ k < w'.heap.size := fun k q => ⟨(h k q).1, by have := (h k q).2; omega⟩
theorem growA {S : Nat → Prop} (h0 : w0.heap.size ≤ w.heap.size) (h : ∀ k, S k → w0.heap.size ≤ k ∧ k < w.heap.size) (hz : w.heap.size ≤ w'.heap.size) : ∀ k, And' S w w' k → w0.heap.size ≤ k ∧ k < w'.heap.size := fun k q => by
  rcases q with q | q
  · exact grow h hz k q
  · exact ⟨by omega, q.2⟩
theorem apart {S T : Nat → Prop} (ht : ∀ k, T k → w0.heap.size ≤ k ∧ k < w.heap.size) (h : ∀ k, S k → T k → False) : ∀ k, And' S w w' k → T k → False := fun k q q' => by
  rcases q with q | q
  · exact h k q q'
  · have := (ht k q').2; omega
theorem Mk.fr0 (h : Mk w0 w S T U B P vl n l vw m r) (hf : Fr Nob w w') : Mk w0 w' S T U B P vl n l vw m r :=
  ⟨h.fr.trans0 hf, grow h.s hf.size, grow h.t hf.size, grow h.u hf.size, h.st, h.su, h.tu, h.pool.fr0 hf, h.sl.fr hf fun _ _ q => q, h.sw.fr hf fun _ _ q => q⟩
theorem Mk.turn (h : Mk w0 w S T U B P vl n l vw m r) {P' : Nat → Option ChS} (hf : Fr S w w') (hp : Pool w' S B P') : Mk w0 w' S T U B P' vl n l vw m r :=
  ⟨h.fr.trans hf fun k hk q => by have := (h.s k q).1; omega, grow h.s hf.size, grow h.t hf.size, grow h.u hf.size, h.st, h.su, h.tu, hp, h.sl.fr hf fun k q q' => h.st k q' q, h.sw.fr hf fun k q q' => h.su k q' q⟩
theorem Mk.wait (h : Mk w0 w S T U B P vl n l vw m r) {P' : Nat → Option ChS} (hf : Fr S w w') (hp : Pool w' (And' S w w') B P') : Mk w0 w' (And' S w w') T U B P' vl n l vw m r :=
  ⟨h.fr.trans hf fun k hk q => by have := (h.s k q).1; omega, growA h.fr.size h.s hf.size, grow h.t hf.size, grow h.u hf.size, apart h.t h.st, apart h.u h.su, h.tu, hp, h.sl.fr hf fun k q q' => h.st k q' q, h.sw.fr hf fun k q q' => h.su k q' q⟩
theorem Mk.add (h : Mk w0 w S T U B P vl n l vw m r) (j : Nat) {X : Nat → Prop} {b : Nat} {c : ChS} (hf : Fr Nob w w') (hc : ChanAt w' X b c) (hX : ∀ k, X k → w.heap.size ≤ k) (hj : ∀ x ∈ l, ∀ i, x.1 = some i → i ≠ j) : Mk w0 w' (And' S w w') T U (upd B j b) (upd P j (some c)) vl n l vw m r :=
  ⟨h.fr.trans0 hf, growA h.fr.size h.s hf.size, grow h.t hf.size, grow h.u hf.size, apart h.t h.st, apart h.u h.su, h.tu, h.pool.add j hf hc hX, by
    rw [css_same (B := B) l fun x hx i hi => upd_ne _ _ (hj x hx i hi)]
    exact h.sl.fr hf fun _ _ q => q, h.sw.fr hf fun _ _ q => q⟩
end
theorem cs_in {w : World} {B : Nat → Nat} {l : List Cs} {n : Nat} {v : Value} (hn : l.length = n) (h : Rd w 3 v n (css B l)) : ∃ A c, v = .slice A n c ∧ n ≤ c ∧ c ≤ maxLen ∧
    ∀ k, k < n → ∃ (x : Cs) (g o : Nat), l[k]? = some x ∧ A = some ⟨g, o, none⟩ ∧ w.cell? ⟨g, o + k * 3, none⟩ = some (.pointer (pa B x.1)) ∧ w.cell? ⟨g, o + k * 3 + 1, none⟩ = some (.bool x.2.1) ∧ w.cell? ⟨g, o + k * 3 + 2, none⟩ = some (.int .i64 x.2.2) := by
  obtain ⟨_, hl, A, c, rfl, hc1, hc2, hA⟩ := h
  refine ⟨A, c, rfl, hc1, hc2, fun k hk => ?_⟩
  obtain ⟨g, o, rfl, hg, hc⟩ := hA (by omega)
  have h0 : l[k]? = some (l[k]'(by omega)) := by simp
  obtain ⟨d0, d1, d2⟩ := css_get B l k _ h0
  exact ⟨_, g, o, h0, rfl, hc _ _ d0, by rw [Nat.add_assoc]; exact hc _ _ d1, by rw [Nat.add_assoc]; exact hc _ _ d2⟩
set_option maxHeartbeats 1000000 in
theorem choose_ready {w : World} {S : Nat → Prop} {B : Nat → Nat} {P : Nat → Option ChS} (h : Pool w S B P) (v : Value) (l : List Cs) (n : Nat) (hn : l.length = n) (hrd : Rd w 3 v n (css B l)) (hok : ∀ x ∈ l, CsOk P x)
    (f : Nat → Bool) (hf : ∀ k x, l[k]? = some x → canC P x = f k) (hn2 : n ≤ 1000) (m : Nat) (hm : (rdy f n).length = m) :
    Calls Tryz.prog 177 #[v] w fun e w' => ∃ (A : Option Addr) (cp : Nat), e = .returned (.slice A m cp) ∧ Fr Nob w w' ∧ Sl w' (From w.heap.size) 3 1 (.slice A m cp) m (ints (rdy f n)) := by
  obtain ⟨A, c, rfl, hc1, hc2, hA⟩ := cs_in hn hrd
  have hcan : ∀ W x k, Fr Nob w W → l[k]? = some x → Calls Tryz.prog 203 #[.pointer (pa B x.1), .bool x.2.1] W fun e w' => e = .returned (.bool (f k)) ∧ ∃ m, w' = W.drewN m := fun W x k hW hx =>
    pool_can (h.fr0 hW) x (hok x (List.mem_of_getElem? hx)) _ (hf k x hx)
  have HA := Lib.hid hA; have Hcan := Lib.hid hcan; have Hm := Lib.hid hm
  clear hrd hA hok hf hn h hcan hm
  unfold maxLen at hc2
  go_enter Tryz.func177, Tryz.ntmps177
  go_wp2_with fail
  go_loopw [2, 7] (fun out i wr => ∃ (k r : Nat) (A' : Option Addr) (c' : Nat), i = .int .i64 k ∧ k ≤ n ∧ out = .slice A' r c' ∧ Hid ((rdy f k).length = r) ∧ r ≤ k ∧ Hid (Fr Nob w wr) ∧ Hid (Sl wr (From w.heap.size) 3 1 (.slice A' r c') r (ints (rdy f k)))) (fun _ i _ => n - (intOf i).toNat)
  case atStart => exact ⟨0, 0, none, 0, rfl, Nat.zero_le _, rfl, rfl, Nat.zero_le _, Fr.refl _ _, Sl.nil _ _ _ _⟩
  case round =>
    obtain ⟨wo, rfl⟩ : ∃ wo : World, wo = wr := ⟨_, rfl⟩
    obtain ⟨k, r, A', c', rfl, hk, rfl, Hr, hrk, Hf, Hs⟩ := hrel
    by_cases hlt : k < n
    · obtain ⟨x, g, o, hx, rfl, x0, x1, x2⟩ := HA.out k hlt
      have e0 := Hf.out.cell (p := ⟨g, o + k * 3, none⟩) id x0
      have e1 := Hf.out.cell (p := ⟨g, o + k * 3 + 1, none⟩) id x1
      have e2 := Hf.out.cell (p := ⟨g, o + k * 3 + 2, none⟩) id x2
      have hki : (k : Int) < n := by omega
      have Hc := Lib.hid (fun W hW => Hcan.out W x k hW hx)
      clear x0 x1 x2 hx
      obtain ⟨p, s, y⟩ := x
      dsimp only at e0 e1 e2 Hc
      generalize pa B p = pp at *
      go_wp2_with fail
      obtain ⟨wa, hwa⟩ : ∃ wa, wa = wo.alloc (.cells #[.pointer pp, .bool s, .int .i64 y] 242) := ⟨_, rfl⟩
      rw [← hwa]
      have hb : wa.heap[wo.heap.size]? = some (.cells #[.pointer pp, .bool s, .int .i64 y] 242 (0, 0)) := by rw [hwa]; exact heap_alloc_new _ _
      have c0 := blk_cell hb 0 rfl
      have c1 := blk_cell hb 1 rfl
      have hfa : Fr Nob wo wa := by rw [hwa]; exact (Fr.refl Nob wo).alloc _
      have Hfa := Lib.hid (Hf.out.trans0 hfa)
      have Hsa := Lib.hid (Hs.out.fr hfa fun _ _ q => q)
      clear hwa hb hfa Hf Hs e0 e1 e2
      refine (Hc.out wa Hfa.out).mono ?_
      rintro e w2 ⟨rfl, hq2⟩
      have hf2 := Fr.ofDrew hq2
      have Hf2 := Lib.hid (Hfa.out.trans0 hf2)
      have Hs2 := Lib.hid (Hsa.out.fr hf2 fun _ _ q => q)
      clear hf2 hq2 c0 c1
      cases hfk : f k with
      | true =>
        have Hrs := Lib.hid (rdy_yes hfk)
        go_wp2_with (at_builtin; (refine wpList_append1 _ rfl _ _ _ rfl (From w.heap.size) 3 _ 1 8 Tryz.underlying39 Tryz.info_int' rfl (by omega) (.slice A' r c') r (ints (rdy f k)) [.int .i64 (k : Int)] rfl Hs2.out rfl rfl rfl (by omega) (by omega) ?_; intro v5 w5 hs5 hf5 hz5))
        obtain ⟨A5, c5, rfl⟩ := hs5.slice
        have Hs5 : Hid (Sl w5 (From w.heap.size) 3 1 (.slice A5 (r + 1) c5) (r + 1) (ints (rdy f (k + 1)))) := by
          rw [Hrs.out, show ints (rdy f k ++ [(k : Int)]) = ints (rdy f k) ++ [.int .i64 (k : Int)] by simp [ints]]
          refine hs5.mono fun j hj q => ?_
          rcases q with q | q
          · exact q
          · have := Hf2.out.size; unfold From; omega
        have Hf5 : Hid (Fr Nob w w5) := Hf2.out.trans hf5 fun j hj q => by unfold From at q; omega
        have Hr5 : Hid ((rdy f (k + 1)).length = r + 1) := by rw [Hrs.out, List.length_append, Hr.out]; exact rfl
        clear hs5 hf5 hz5 Hrs hfk
        go_wp2_with fail
        go_roundw
        case rel => exact ⟨k + 1, r + 1, A5, c5, by go_num, by omega, rfl, Hr5, by omega, Hf5, Hs5⟩
        case measure => simp [intOf]; omega
      | false =>
        have Hrs := Lib.hid (rdy_no hfk)
        have Hs5 : Hid (Sl w2 (From w.heap.size) 3 1 (.slice A' r c') r (ints (rdy f (k + 1)))) := by rw [Hrs.out]; exact Hs2.out
        have Hr5 : Hid ((rdy f (k + 1)).length = r) := by rw [Hrs.out]; exact Hr.out
        clear Hrs hfk
        go_wp2_with fail
        go_roundw
        case rel => exact ⟨k + 1, r, A', c', by go_num, by omega, rfl, Hr5, by omega, Hf2, Hs5⟩
        case measure => simp [intOf]; omega
    · obtain rfl : k = n := by omega
      have hrm : r = m := by rw [← Hr.out, Hm.out]
      subst hrm
      go_wp2_with fail
      go_ret
      exact ⟨A', c', rfl, Hf.out, Hs.out⟩
set_option maxHeartbeats 1000000 in
theorem choose_leave {w : World} {S : Nat → Prop} {B : Nat → Nat} {P : Nat → Option ChS} (h : Pool w S B P) (v : Value) (l : List Cs) (n : Nat) (hn : l.length = n) (T : Nat → Prop) (hsl : Sl w T 242 3 v n (css B l)) (hst : ∀ k, S k → T k → False) (hok : ∀ x ∈ l, CsOk P x)
    (hn2 : n ≤ 1000) (hfew : Few P 1000) (t : Int) (r : Nat) (hr : leaveN t l P = r) :
    Calls Tryz.prog 123 #[v, .int .i64 t] w fun e w' => e = .returned (.int .i64 (r : Int)) ∧ Fr S w w' ∧ Pool w' S B (leaveF t l P) := by
  have hrd := hsl.rd
  obtain ⟨A, c, rfl, hc1, hc2, hA⟩ := cs_in hn hrd
  have hT : ∀ W, Fr S w W → Sl W T 242 3 (.slice A n c) n (css B l) := fun W hW => hsl.fr hW fun k q q' => hst k q' q
  have hA2 := fun W hW => cs_in hn (hT W hW).rd
  have hend : l.take n = l := by rw [← hn, List.take_length]
  have hrem : ∀ W k x, Pool W S B (leaveF t (l.take k) P) → l[k]? = some x → k < n → ∃ q : Nat, leaveN t (l.take (k + 1)) P = leaveN t (l.take k) P + q ∧ q ≤ 2000 ∧ leaveN t (l.take k) P ≤ 1000 * 2000 ∧
      Calls Tryz.prog 165 #[.pointer (pa B x.1), .int .i64 t] W fun e w' => e = .returned (.int .i64 (q : Int)) ∧ Fr S W w' ∧ Pool w' S B (leaveF t (l.take (k + 1)) P) := fun W k x hW hx hk => by
    have hs := take_snocC l k x hx
    have hlf := Few.leave t 1000 (l.take k) P hfew
    have hq := leaveC_le (t := t) hlf x.1
    have hle := leaveN_le (t := t) (l.take k) P hfew
    have hlt : (l.take k).length ≤ 1000 := by rw [List.length_take]; omega
    have hle2 := Nat.mul_le_mul_right (1000 + 1000) hlt
    refine ⟨leaveC t (leaveF t (l.take k) P) x.1, by rw [hs, leaveN_snoc], by omega, by omega, ?_⟩
    rw [hs, leaveF_snoc]
    have hox := CsOk.leave t (l.take k) P (hok x (List.mem_of_getElem? hx))
    obtain ⟨o, s, y⟩ := x
    cases o with
    | none =>
      exact (remove_nil W t).mono fun e w' ⟨h1, h2⟩ => ⟨h1, h2.none, hW.fr0 h2⟩
    | some i =>
      obtain ⟨d, hd⟩ := hox i rfl
      have := pool_remove hW i hd t _ _ rfl rfl
      simp only [leaveC, stepF, hd]
      exact this
  have HA := Lib.hid hA2; have Hrem := Lib.hid hrem; have Hr := Lib.hid hr; have Hend := Lib.hid hend; have Hp := Lib.hid h
  clear hrd hA hok hfew hn h hrem hr hsl hst hT hA2 hend
  unfold maxLen at hc2
  go_enter Tryz.func123, Tryz.ntmps123
  go_wp2_with fail
  go_loopw [4, 9] (fun c i wr => ∃ (k r : Nat), i = .int .i64 k ∧ k ≤ n ∧ c = .int .i64 r ∧ Hid (leaveN t (l.take k) P = r) ∧ r ≤ 3000000 ∧ Hid (Fr S w wr) ∧ Hid (Pool wr S B (leaveF t (l.take k) P))) (fun _ i _ => n - (intOf i).toNat)
  case atStart => exact ⟨0, 0, rfl, Nat.zero_le _, rfl, rfl, Nat.zero_le _, Fr.refl _ _, Hp⟩
  case round =>
    obtain ⟨wo, rfl⟩ : ∃ wo : World, wo = wr := ⟨_, rfl⟩
    obtain ⟨k, r', rfl, hk, rfl, Hr', hr3, Hf, Hpl⟩ := hrel
    by_cases hlt : k < n
    · obtain ⟨A1, c1, hv, _, _, hA1⟩ := HA.out wo Hf.out
      cases hv
      obtain ⟨x, g, o, hx, rfl, e0, e1, e2⟩ := hA1 k hlt
      have hki : (k : Int) < n := by omega
      have Hx := Lib.hid hx
      have Hc := Lib.hid (fun W hW => Hrem.out W k x hW Hx.out hlt)
      clear hx hA1
      obtain ⟨p, s, y⟩ := x
      dsimp only at e0 e1 e2 Hc
      generalize pa B p = pp at *
      go_wp2_with fail
      obtain ⟨wa, hwa⟩ : ∃ wa, wa = wo.alloc (.cells #[.pointer pp, .bool s, .int .i64 y] 242) := ⟨_, rfl⟩
      rw [← hwa]
      have hb : wa.heap[wo.heap.size]? = some (.cells #[.pointer pp, .bool s, .int .i64 y] 242 (0, 0)) := by rw [hwa]; exact heap_alloc_new _ _
      have c0 := blk_cell hb 0 rfl
      have hfa : Fr Nob wo wa := by rw [hwa]; exact (Fr.refl Nob wo).alloc _
      have Hfa := Lib.hid (Hf.out.trans0 hfa.none)
      have Hpa := Lib.hid (Hpl.out.fr0 hfa)
      clear hwa hb hfa Hf Hpl e0 e1 e2
      obtain ⟨q, hq1, hq2, hq3, hcall⟩ := Hc.out wa Hpa.out
      rw [Hr'.out] at hq1 hq3
      have Hq1 := Lib.hid hq1
      have Hcall := Lib.hid hcall
      have hsum : IntKind.i64.wrap ((r' : Int) + q) = (r' : Int) + q := IntWalk.i64_in _ (by omega)
      clear hq1 hcall Hc
      refine Hcall.out.mono ?_
      rintro e w2 ⟨rfl, hf2, hp2⟩
      have Hf2 := Lib.hid (Hfa.out.trans0 hf2)
      have Hp2 := Lib.hid hp2
      clear hf2 hp2
      go_wp2_with fail
      go_roundw
      case rel => exact ⟨k + 1, r' + q, by go_num, by omega, by first | rfl | (simp; done) | (congr 1; omega), Hq1, by omega, Hf2, Hp2⟩
      case measure => simp [intOf]; omega
    · obtain rfl : k = n := by omega
      have hfin := Hr'.out
      have hpl := Hpl.out
      rw [Hend.out] at hfin hpl
      have Hpl2 := Lib.hid hpl
      have hrr : r' = r := by rw [← hfin, Hr.out]
      subst hrr
      clear hfin hpl
      go_wp2_with fail
      go_ret
      exact ⟨rfl, Hf.out, Hpl2.out⟩
/-- What came of it. -/
abbrev resV (i v : Int) (ok pn pk kd : Bool) : Value := .agg #[.int .i64 i, .int .i64 v, .bool ok, .bool pn, .bool pk, .bool kd]
abbrev resA (i v : Int) (ok pn pk kd : Bool) : Array Value := #[.int .i64 i, .int .i64 v, .bool ok, .bool pn, .bool pk, .bool kd]
def OneP (w : World) (S : Nat → Prop) (B : Nat → Nat) (P : Nat → Option ChS) (i v : Int) (ok pn : Bool) (l : List Wk) (n : Nat) (e : Ending) (w' : World) : Prop := ∃ (A : Option Addr) (cp : Nat), e = .returned (.tuple #[resV i v ok pn false false, .slice A n cp]) ∧ Fr S w w' ∧ Pool w' S B P ∧ Sl w' (From w.heap.size) 225 5 (.slice A n cp) n (wks l)
theorem Fr.setB {b : Nat} {w w' : World} (h : Fr (fun k => k = b) w w') (o : Nat) (v : Value) : Fr (fun k => k = b) w (w'.setCell ⟨b, o, Option.none⟩ v) := h.setCell (p := ⟨b, o, Option.none⟩) (.inl rfl) v
section
variable {w : World} {b : Nat} {x0 x1 x2 x3 x4 x5 : Value} {T : TypeId} (h : w.heap[b]? = some (.cells #[x0, x1, x2, x3, x4, x5] T (0, 0))) (y : Value)
include h
theorem six0 : (w.setCell ⟨b, 0, none⟩ y).heap[b]? = some (.cells #[y, x1, x2, x3, x4, x5] T (0, 0)) := blk_set h 0 y
theorem six1 : (w.setCell ⟨b, 1, none⟩ y).heap[b]? = some (.cells #[x0, y, x2, x3, x4, x5] T (0, 0)) := blk_set h 1 y
theorem six2 : (w.setCell ⟨b, 2, none⟩ y).heap[b]? = some (.cells #[x0, x1, y, x3, x4, x5] T (0, 0)) := blk_set h 2 y
theorem six3 : (w.setCell ⟨b, 3, none⟩ y).heap[b]? = some (.cells #[x0, x1, x2, y, x4, x5] T (0, 0)) := blk_set h 3 y
theorem six4 : (w.setCell ⟨b, 4, none⟩ y).heap[b]? = some (.cells #[x0, x1, x2, x3, y, x5] T (0, 0)) := blk_set h 4 y
theorem six5 : (w.setCell ⟨b, 5, none⟩ y).heap[b]? = some (.cells #[x0, x1, x2, x3, x4, y] T (0, 0)) := blk_set h 5 y
end
theorem six_fr (w : World) (b : Nat) (x0 x1 x2 x3 x4 x5 : Value) : Fr (fun k => k = b) w ((((((w.setCell ⟨b, 0, none⟩ x0).setCell ⟨b, 1, none⟩ x1).setCell ⟨b, 2, none⟩ x2).setCell ⟨b, 3, none⟩ x3).setCell ⟨b, 4, none⟩ x4).setCell ⟨b, 5, none⟩ x5) :=
  ((((((Fr.refl (fun k => k = b) w).setB 0 _).setB 1 _).setB 2 _).setB 3 _).setB 4 _).setB 5 _
theorem six_blk {w : World} {b : Nat} {y0 y1 y2 y3 y4 y5 : Value} {T : TypeId} (h : w.heap[b]? = some (.cells #[y0, y1, y2, y3, y4, y5] T (0, 0))) (x0 x1 x2 x3 x4 x5 : Value) : ((((((w.setCell ⟨b, 0, none⟩ x0).setCell ⟨b, 1, none⟩ x1).setCell ⟨b, 2, none⟩ x2).setCell ⟨b, 3, none⟩ x3).setCell ⟨b, 4, none⟩ x4).setCell ⟨b, 5, none⟩ x5).heap[b]? = some (.cells #[x0, x1, x2, x3, x4, x5] T (0, 0)) :=
  six5 (six4 (six3 (six2 (six1 (six0 h _) _) _) _) _) _
/-- A row of wakes that lies off a block stays when that block is written. -/
theorem Rd.off {w w' : World} {b sz : Nat} {v : Value} {n : Nat} {cs : List Value} (T : Nat → Prop) (E : TypeId) (h : Sl w T E sz v n cs) (hf : Fr (fun k => k = b) w w') (hb : ¬ T b) : Rd w' sz v n cs :=
  (h.fr hf fun k q e => by subst e; exact hb q).rd
set_option maxHeartbeats 2000000 in
theorem one_recv {w : World} {S : Nat → Prop} {B : Nat → Nat} {P : Nat → Option ChS} (h : Pool w S B P) (hS : ∀ k, S k → k < w.heap.size) (i : Nat) {c c' : ChS} (hi : P i = some c) (at' y : Int) (v : Int) (ok d : Bool) (l : List Wk) (n : Nat) (hr : c.recvR = (v, ok, d, l)) (hs : c.recvS = c') (hn : l.length = n) :
    Calls Tryz.prog 178 #[.agg #[.pointer (some ⟨B i, 0, none⟩), .bool false, .int .i64 y], .int .i64 at'] w (OneP w S B (upd P i (some c')) at' v ok false l n) := by
  have Hc := Lib.hid (fun W (hW : Pool W S B P) => pool_recv hW i hi v ok d l n hr hs hn)
  have Hp := Lib.hid h
  have HS := Lib.hid hS
  clear h hr hs hn hi hS
  generalize upd P i (some c') = P' at *
  generalize hbi : B i = bi at *
  clear hbi
  go_enter Tryz.func178, Tryz.ntmps178
  go_wp2_with fail
  obtain ⟨w1, hw1⟩ : ∃ w1, w1 = (w.alloc (.cells #[.pointer (some ⟨bi, 0, none⟩), .bool false, .int .i64 y] 242)).alloc (.cells (resA at' 0 false false false false) 238) := ⟨_, rfl⟩
  rw [← hw1]
  obtain ⟨rb, hrb⟩ : ∃ rb, rb = w.heap.size + 1 := ⟨_, rfl⟩
  rw [← hrb]
  have hf1 : Fr Nob w w1 := by rw [hw1]; exact ((Fr.refl Nob w).alloc _).alloc _
  have hb1 : w1.heap[rb]? = some (.cells #[.int .i64 at', .int .i64 0, .bool false, .bool false, .bool false, .bool false] 238 (0, 0)) := by rw [hw1, hrb]; exact blk_alloc_eq _ (by simp)
  have Hz1 : Hid (w.heap.size < rb ∧ rb < w1.heap.size) := ⟨by omega, lt_of_block hb1⟩
  have Hp1 := Lib.hid (Hp.out.fr0 hf1)
  have Hf1 := Lib.hid hf1
  have Hb1 := Lib.hid hb1
  clear hw1 hf1 hb1 hrb
  refine (Hc.out w1 Hp1.out).mono ?_
  rintro e w2 ⟨A, cp, rfl, hf2, hp2, hs2⟩
  have hns : ¬ S rb := fun q => by have := HS.out _ q; have := Hz1.out; omega
  have hb2 := hf2.blk hns Hb1.out
  have c0 := blk_cell hb2 0 rfl
  have c1 := blk_cell hb2 1 rfl
  have c2 := blk_cell hb2 2 rfl
  have c3 := blk_cell hb2 3 rfl
  have c4 := blk_cell hb2 4 rfl
  have c5 := blk_cell hb2 5 rfl
  have f0 := blk_froz hb2 0
  have f1 := blk_froz hb2 1
  have f2 := blk_froz hb2 2
  have f3 := blk_froz hb2 3
  have f4 := blk_froz hb2 4
  have f5 := blk_froz hb2 5
  have Hf2 := Lib.hid hf2; have Hp2 := Lib.hid hp2; have Hs2 := Lib.hid hs2; have Hb2 := Lib.hid hb2; have Hns := Lib.hid hns
  clear hf2 hp2 hs2 hb2 hns
  go_wp2_with fail
  obtain ⟨w3, hw3⟩ : ∃ w3, w3 = ((((((((w2.setCell ⟨rb, 1, none⟩ (.int .i64 v)).setCell ⟨rb, 2, none⟩ (.bool ok)).setCell ⟨rb, 0, none⟩ (.int .i64 at')).setCell ⟨rb, 1, none⟩ (.int .i64 v)).setCell ⟨rb, 2, none⟩ (.bool ok)).setCell ⟨rb, 3, none⟩ (.bool false)).setCell ⟨rb, 4, none⟩ (.bool false)).setCell ⟨rb, 5, none⟩ (.bool false)) := ⟨_, rfl⟩
  rw [← hw3]
  have hf3 : Fr (fun k => k = rb) w2 w3 := by rw [hw3]; exact (((((((((Fr.refl (fun k => k = rb) w2).setB 1 _).setB 2 _).setB 0 _).setB 1 _).setB 2 _).setB 3 _).setB 4 _).setB 5 _)
  have hb3 : w3.heap[rb]? = some (.cells #[.int .i64 at', .int .i64 v, .bool ok, .bool false, .bool false, .bool false] 238 (0, 0)) := by rw [hw3]; exact (six5 (six4 (six3 (six2 (six1 (six0 (six2 (six1 Hb2.out _) _) _) _) _) _) _) _)
  have t0 := blk_cell hb3 0 rfl
  have t1 := blk_cell hb3 1 rfl
  have t2 := blk_cell hb3 2 rfl
  have t3 := blk_cell hb3 3 rfl
  have t4 := blk_cell hb3 4 rfl
  have t5 := blk_cell hb3 5 rfl
  refine bodyPost_ret (v := .tuple #[resV at' v ok false false false, .slice A n cp]) (by simp [results, Tryz.results178, go_sem, t0, t1, t2, t3, t4, t5]) rfl ⟨A, cp, rfl, ?_, ?_, ?_⟩
  · exact (Hf1.out.none.trans0 Hf2.out).trans hf3 fun k hk e => by have := Hz1.out; omega
  · exact Hp2.out.fr hf3 fun k q e => by subst e; exact Hns.out q
  · exact (Hs2.out.fr hf3 fun k q e => by have := Hz1.out; unfold From at q; omega).mono fun k _ q => by have := Hf1.out.size; unfold From at q ⊢; omega
set_option maxHeartbeats 2000000 in
theorem one_send {w : World} {S : Nat → Prop} {B : Nat → Nat} {P : Nat → Option ChS} (h : Pool w S B P) (hS : ∀ k, S k → k < w.heap.size) (i : Nat) {c c' : ChS} (hi : P i = some c) (at' y : Int) (d : Bool) (l : List Wk) (n : Nat) (er : Int) (hr : c.sendR y = (d, l, er)) (hs : c.sendS y = c') (hn : l.length = n) :
    Calls Tryz.prog 178 #[.agg #[.pointer (some ⟨B i, 0, none⟩), .bool true, .int .i64 y], .int .i64 at'] w (OneP w S B (upd P i (some c')) at' 0 (er == 0) (er == 5) l n) := by
  have Hc := Lib.hid (fun W (hW : Pool W S B P) => pool_send hW i hi y d l n er hr hs hn)
  have Hp := Lib.hid h
  have HS := Lib.hid hS
  clear h hr hs hn hi hS
  generalize hok : (er == 0) = ok at *
  generalize hpn : (er == 5) = pn at *
  generalize upd P i (some c') = P' at *
  generalize hbi : B i = bi at *
  clear hbi
  go_enter Tryz.func178, Tryz.ntmps178
  go_wp2_with fail
  obtain ⟨w1, hw1⟩ : ∃ w1, w1 = (w.alloc (.cells #[.pointer (some ⟨bi, 0, none⟩), .bool true, .int .i64 y] 242)).alloc (.cells (resA at' 0 false false false false) 238) := ⟨_, rfl⟩
  rw [← hw1]
  obtain ⟨rb, hrb⟩ : ∃ rb, rb = w.heap.size + 1 := ⟨_, rfl⟩
  rw [← hrb]
  have hf1 : Fr Nob w w1 := by rw [hw1]; exact ((Fr.refl Nob w).alloc _).alloc _
  have hb1 : w1.heap[rb]? = some (.cells #[.int .i64 at', .int .i64 0, .bool false, .bool false, .bool false, .bool false] 238 (0, 0)) := by rw [hw1, hrb]; exact blk_alloc_eq _ (by simp)
  have Hz1 : Hid (w.heap.size < rb ∧ rb < w1.heap.size) := ⟨by omega, lt_of_block hb1⟩
  have Hp1 := Lib.hid (Hp.out.fr0 hf1)
  have Hf1 := Lib.hid hf1
  have Hb1 := Lib.hid hb1
  clear hw1 hf1 hb1 hrb
  refine (Hc.out w1 Hp1.out).mono ?_
  rintro e w2 ⟨A, cp, rfl, hf2, hp2, hs2⟩
  have hns : ¬ S rb := fun q => by have := HS.out _ q; have := Hz1.out; omega
  have hb2 := hf2.blk hns Hb1.out
  have c0 := blk_cell hb2 0 rfl
  have c1 := blk_cell hb2 1 rfl
  have c2 := blk_cell hb2 2 rfl
  have c3 := blk_cell hb2 3 rfl
  have c4 := blk_cell hb2 4 rfl
  have c5 := blk_cell hb2 5 rfl
  have f0 := blk_froz hb2 0
  have f1 := blk_froz hb2 1
  have f2 := blk_froz hb2 2
  have f3 := blk_froz hb2 3
  have f4 := blk_froz hb2 4
  have f5 := blk_froz hb2 5
  have Hf2 := Lib.hid hf2; have Hp2 := Lib.hid hp2; have Hs2 := Lib.hid hs2; have Hb2 := Lib.hid hb2; have Hns := Lib.hid hns
  clear hf2 hp2 hs2 hb2 hns
  go_wp2_with fail
  obtain ⟨w3, hw3⟩ : ∃ w3, w3 = ((((((((w2.setCell ⟨rb, 2, none⟩ (.bool ok)).setCell ⟨rb, 3, none⟩ (.bool pn)).setCell ⟨rb, 0, none⟩ (.int .i64 at')).setCell ⟨rb, 1, none⟩ (.int .i64 0)).setCell ⟨rb, 2, none⟩ (.bool ok)).setCell ⟨rb, 3, none⟩ (.bool pn)).setCell ⟨rb, 4, none⟩ (.bool false)).setCell ⟨rb, 5, none⟩ (.bool false)) := ⟨_, rfl⟩
  rw [← hw3]
  have hf3 : Fr (fun k => k = rb) w2 w3 := by rw [hw3]; exact (((((((((Fr.refl (fun k => k = rb) w2).setB 2 _).setB 3 _).setB 0 _).setB 1 _).setB 2 _).setB 3 _).setB 4 _).setB 5 _)
  have hb3 : w3.heap[rb]? = some (.cells #[.int .i64 at', .int .i64 0, .bool ok, .bool pn, .bool false, .bool false] 238 (0, 0)) := by rw [hw3]; exact (six5 (six4 (six3 (six2 (six1 (six0 (six3 (six2 Hb2.out _) _) _) _) _) _) _) _)
  have t0 := blk_cell hb3 0 rfl
  have t1 := blk_cell hb3 1 rfl
  have t2 := blk_cell hb3 2 rfl
  have t3 := blk_cell hb3 3 rfl
  have t4 := blk_cell hb3 4 rfl
  have t5 := blk_cell hb3 5 rfl
  refine bodyPost_ret (v := .tuple #[resV at' 0 ok pn false false, .slice A n cp]) (by simp [results, Tryz.results178, go_sem, t0, t1, t2, t3, t4, t5]) rfl ⟨A, cp, rfl, ?_, ?_, ?_⟩
  · exact (Hf1.out.none.trans0 Hf2.out).trans hf3 fun k hk e => by have := Hz1.out; omega
  · exact Hp2.out.fr hf3 fun k q e => by subst e; exact Hns.out q
  · exact (Hs2.out.fr hf3 fun k q e => by have := Hz1.out; unfold From at q; omega).mono fun k _ q => by have := Hf1.out.size; unfold From at q ⊢; omega
theorem choose_one {w : World} {S : Nat → Prop} {B : Nat → Nat} {P : Nat → Option ChS} (h : Pool w S B P) (hS : ∀ k, S k → k < w.heap.size) (x : Cs) (i : Nat) (hx : x.1 = some i) {c c' : ChS} (hi : P i = some c) (at' : Int) (v : Int) (ok pn : Bool) (l : List Wk) (n : Nat) (hr : oneR c x = (v, ok, pn, l)) (hs : oneS c x = c') (hn : l.length = n) :
    Calls Tryz.prog 178 #[.agg #[.pointer (pa B x.1), .bool x.2.1, .int .i64 x.2.2], .int .i64 at'] w (OneP w S B (upd P i (some c')) at' v ok pn l n) := by
  obtain ⟨o, s, y⟩ := x
  dsimp only at hx
  subst hx
  unfold oneR at hr
  unfold oneS at hs
  cases s with
  | false =>
    simp only [Bool.false_eq_true, if_false] at hr hs
    cases hr
    exact one_recv h hS i hi at' y _ _ c.recvR.2.2.1 _ n rfl hs hn
  | true =>
    simp only [if_true] at hr hs
    cases hr
    exact one_send h hS i hi at' y (c.sendR y).1 _ n (c.sendR y).2.2 rfl hs hn
/-- The closure of Do. -/
theorem do_test {w : World} {S : Nat → Prop} {B : Nat → Nat} {P : Nat → Option ChS} (h : Pool w S B P) (x : Cs) (hx : CsOk P x) (r : Bool) (hr : (x.2.1 && muteC P x) = r) :
    Calls Tryz.prog 175 #[.agg #[.pointer (pa B x.1), .bool x.2.1, .int .i64 x.2.2]] w fun e w' => e = .returned (.bool r) ∧ Fr Nob w w' := by
  have Hm := Lib.hid (fun W (hf : Fr Nob w W) => pool_mute (h.fr0 hf) x hx _ rfl)
  generalize muteC P x = mu at *
  subst hr
  clear h hx
  obtain ⟨o, s, y⟩ := x
  dsimp only at Hm ⊢
  generalize pa B o = pp at *
  cases s with
  | false =>
    go_enter Tryz.func175, Tryz.ntmps175
    go_wp2_with fail
    go_ret
    exact ⟨by first | rfl | simp, (Fr.refl _ _).alloc _⟩
  | true =>
    go_enter Tryz.func175, Tryz.ntmps175
    go_wp2_with fail
    refine (Hm.out _ ((Fr.refl _ _).alloc _)).mono ?_
    rintro e _ ⟨rfl, rfl⟩
    go_wp2_with fail
    go_ret
    exact ⟨by first | rfl | simp, (Fr.refl _ _).alloc _⟩
def IdxP (f : Nat → Bool) (n : Nat) (w : World) (e : Ending) (w' : World) : Prop := ∃ r : Int, e = .returned (.int .i64 r) ∧ Fr Nob w w' ∧ ((r = -1 ∧ ∀ j, j < n → f j = false) ∨ ∃ k : Nat, r = k ∧ k < n ∧ f k = true ∧ ∀ j, j < k → f j = false)
set_option maxHeartbeats 1000000 in
theorem do_index {w : World} {S : Nat → Prop} {B : Nat → Nat} {P : Nat → Option ChS} (h : Pool w S B P) (v : Value) (l : List Cs) (n : Nat) (hn : l.length = n) (hrd : Rd w 3 v n (css B l)) (hok : ∀ x ∈ l, CsOk P x)
    (f : Nat → Bool) (hf : ∀ k x, l[k]? = some x → (x.2.1 && muteC P x) = f k) (hn2 : n ≤ 1000) :
    Calls Tryz.prog 174 #[v, .func (.func 175) #[] #[]] w (IdxP f n w) := by
  obtain ⟨A, c, rfl, hc1, hc2, hA⟩ := cs_in hn hrd
  have ht : ∀ W x k, Fr Nob w W → l[k]? = some x → Calls Tryz.prog 175 #[.agg #[.pointer (pa B x.1), .bool x.2.1, .int .i64 x.2.2]] W fun e w' => e = .returned (.bool (f k)) ∧ Fr Nob W w' := fun W x k hW hx =>
    do_test (h.fr0 hW) x (hok x (List.mem_of_getElem? hx)) _ (hf k x hx)
  have HA := Lib.hid hA; have Ht := Lib.hid ht
  clear hrd hA hok hf hn h ht
  unfold maxLen at hc2
  go_enter Tryz.func174, Tryz.ntmps174
  go_wp2_with fail
  go_loopw [8] (fun i wr => ∃ k : Nat, k ≤ n ∧ i = .int .i64 k ∧ Hid (Fr Nob w wr) ∧ Hid (∀ j, j < k → f j = false)) (fun i _ => n - (intOf i).toNat)
  case atStart => exact ⟨0, Nat.zero_le _, rfl, Lib.hid (Fr.refl _ _), Lib.hid fun j hj => by omega⟩
  case round =>
    obtain ⟨k, hk, rfl, Hfr, Hall⟩ := hrel
    by_cases hlt : k < n
    · obtain ⟨x, g, o, hx, rfl, x0, x1, x2⟩ := HA.out k hlt
      have e0 := Hfr.out.cell (p := ⟨g, o + k * 3, none⟩) id x0
      have e1 := Hfr.out.cell (p := ⟨g, o + k * 3 + 1, none⟩) id x1
      have e2 := Hfr.out.cell (p := ⟨g, o + k * 3 + 2, none⟩) id x2
      have hki : (k : Int) < n := by omega
      have Hc := Lib.hid (fun W hW => Ht.out W x k hW hx)
      clear x0 x1 x2 hx
      obtain ⟨p, s, y⟩ := x
      dsimp only at e0 e1 e2 Hc
      generalize pa B p = pp at *
      cases hfk : f k with
      | false =>
        rw [hfk] at Hc
        have Hn2 : Hid (∀ j, j < k + 1 → f j = false) := fun j hj => by
          by_cases e : j = k
          · subst e; exact hfk
          · exact Hall.out j (by omega)
        clear hfk
        go_wp2_with fail
        refine (Hc.out _ (by first | exact Hfr.out | exact Hfr.out.alloc _)).mono ?_
        rintro e w2 ⟨rfl, hf2⟩
        have Hf2 := Lib.hid (Hfr.out.trans0 hf2)
        clear hf2
        go_wp2_with fail
        go_roundw
        case rel => exact ⟨k + 1, by omega, by go_num, Hf2, Hn2⟩
        case measure => simp [intOf]; omega
      | true =>
        rw [hfk] at Hc
        have Hfk := Lib.hid hfk
        clear hfk
        go_wp2_with fail
        refine (Hc.out _ (by first | exact Hfr.out | exact Hfr.out.alloc _)).mono ?_
        rintro e w2 ⟨rfl, hf2⟩
        have Hf2 := Lib.hid (Hfr.out.trans0 hf2)
        clear hf2
        go_wp2_with fail
        go_ret
        exact ⟨k, rfl, Hf2.out, .inr ⟨k, rfl, hlt, Hfk.out, Hall.out⟩⟩
    · obtain rfl : k = n := by omega
      go_wp2_with fail
      go_ret
      exact ⟨-1, rfl, Hfr.out, .inl ⟨rfl, Hall.out⟩⟩
def DoP (w : World) (S S' : World → Nat → Prop) (B : Nat → Nat) (P : Nat → Option ChS) (i v : Int) (ok pn pk kd : Bool) (l : List Wk) (n : Nat) (er : Int) (e : Ending) (w' : World) : Prop := ∃ (A : Option Addr) (cp : Nat), e = .returned (.tuple #[resV i v ok pn pk kd, .slice A n cp, .int .i64 er]) ∧ Fr (S w') w w' ∧ Pool w' (S' w') B P ∧ Sl w' (From w.heap.size) 225 5 (.slice A n cp) n (wks l)
set_option maxHeartbeats 2000000 in
theorem do_ready {w : World} {S : Nat → Prop} {B : Nat → Nat} {P : Nat → Option ChS} (h : Pool w S B P) (hS : ∀ k, S k → k < w.heap.size) (v : Value) (l : List Cs) (n : Nat) (hn : l.length = n) (hrd : Rd w 3 v n (css B l)) (hok : ∀ x ∈ l, CsOk P x) (hmu : ∀ x ∈ l, (x.2.1 && muteC P x) = false)
    (f : Nat → Bool) (hf : ∀ k x, l[k]? = some x → canC P x = f k) (hn2 : n ≤ 16) (d : Bool) (dr t : Int) (ht : 0 ≤ t) (m j k i : Nat) (x : Cs) {c c' : ChS} (hm : (rdy f n).length = m) (hm0 : 0 < m) (hj : dr % (m : Int) = (j : Int)) (hjm : j < m) (hk : (rdy f n)[j]? = some (k : Int)) (hkn : k < n) (hx : l[k]? = some x) (hxi : x.1 = some i) (hi : P i = some c)
    (y : Int) (ok pn : Bool) (lw : List Wk) (nw : Nat) (hr : oneR c x = (y, ok, pn, lw)) (hs : oneS c x = c') (hnw : lw.length = nw) :
    Calls Tryz.prog 135 #[v, .bool d, .int .i64 dr, .int .i64 t] w (DoP w (fun _ => S) (fun _ => S) B (upd P i (some c')) k y ok pn false false lw nw 0) := by
  have hidx := fun W (hW : Fr Nob w W) => do_index (h.fr0 hW) v l n hn (hrd.fr hW) hok (fun _ => false) (fun k x hx => hmu x (List.mem_of_getElem? hx)) (by omega)
  have hrdy := fun W (hW : Fr Nob w W) => choose_ready (h.fr0 hW) v l n hn (hrd.fr hW) hok f hf (by omega) m hm
  have hpick : ∀ W, Calls Tryz.prog 128 #[.int .i64 dr, .int .i64 (m : Int)] W fun e w' => e = .returned (.int .i64 (j : Int)) ∧ W = w' := fun W => by
    have hle : (rdy f n).length ≤ n := rdy_le f n
    have := script_pick W dr m (by omega) (by omega)
    rwa [hj] at this
  have hone := fun W (hW : Fr Nob w W) => choose_one (h.fr0 hW) (fun k q => Nat.lt_of_lt_of_le (hS k q) hW.size) x i hxi hi (k : Int) y ok pn lw nw hr hs hnw
  have hin := fun W (hW : Fr Nob w W) => cs_in hn (hrd.fr hW)
  obtain ⟨A, c0, rfl, hc1, hc2, _⟩ := cs_in hn hrd
  have hcell : ∀ W, Fr Nob w W → ∃ g o, A = some ⟨g, o, none⟩ ∧ W.cell? ⟨g, o + k * 3, none⟩ = some (.pointer (pa B x.1)) ∧ W.cell? ⟨g, o + k * 3 + 1, none⟩ = some (.bool x.2.1) ∧ W.cell? ⟨g, o + k * 3 + 2, none⟩ = some (.int .i64 x.2.2) := fun W hW => by
    obtain ⟨A', c', hv, _, _, hA⟩ := hin W hW
    cases hv
    obtain ⟨x', g, o, hx', rfl, e0, e1, e2⟩ := hA k hkn
    rw [hx] at hx'
    cases hx'
    exact ⟨g, o, rfl, e0, e1, e2⟩
  have hget : ∀ (W : World) (T : Nat → Prop) A' cp, Sl W T 3 1 (.slice A' m cp) m (ints (rdy f n)) → ∃ g o, A' = some ⟨g, o, none⟩ ∧ W.cell? ⟨g, o + j, none⟩ = some (.int .i64 (k : Int)) := fun W T A' cp hsl => by
    obtain ⟨g, o, cap, hv, _, _, _, _, hc, _⟩ := hsl.form hm0
    cases hv
    refine ⟨g, o, rfl, hc j _ ?_⟩
    rw [List.getElem?_map, hk]; rfl
  have hmn : (rdy f n).length ≤ n := rdy_le f n
  rw [hm] at hmn
  have Hidx := Lib.hid hidx; have Hrdy := Lib.hid hrdy; have Hpick := Lib.hid hpick; have Hone := Lib.hid hone; have Hcell := Lib.hid hcell; have Hget := Lib.hid hget; have HS := Lib.hid hS
  have hji : (j : Int) < m := by omega
  have hki : (k : Int) < n := by omega
  have hm0i : decide ((0 : Int) < m) = true := decide_eq_true (by omega)
  have hn16 : decide ((16 : Int) < n) = false := decide_eq_false (by omega)
  have ht0 : decide (t < 0) = false := decide_eq_false (by omega)
  have hn16' : ¬ (16 : Int) < n := by omega
  have ht0' : ¬ t < 0 := by omega
  have hm0' : (0 : Int) < m := by omega
  clear hidx hrdy hpick hone hcell hget hS hin hrd hok hmu hf h hn hm hj hk hx hxi hi hr hs hnw
  obtain ⟨p, s, yy⟩ := x
  dsimp only at Hone Hcell
  generalize pa B p = pp at *
  generalize upd P i (some c') = P' at *
  generalize rdy f n = rl at *
  unfold maxLen at hc2
  go_enter Tryz.func135, Tryz.ntmps135
  go_wp2_with fail
  obtain ⟨w1, hw1⟩ : ∃ w1, w1 = w.alloc (.cells (resA 0 0 false false false false) 238) := ⟨_, rfl⟩
  rw [← hw1]
  obtain ⟨rb, hrb⟩ : ∃ rb, rb = w.heap.size := ⟨_, rfl⟩
  rw [← hrb]
  have hf1 : Fr Nob w w1 := by rw [hw1]; exact (Fr.refl Nob w).alloc _
  have hb1 : w1.heap[rb]? = some (.cells #[.int .i64 0, .int .i64 0, .bool false, .bool false, .bool false, .bool false] 238 (0, 0)) := by rw [hw1, hrb]; exact blk_alloc_eq _ rfl
  have Hz1 : Hid (w.heap.size = rb ∧ rb < w1.heap.size) := ⟨hrb.symm, lt_of_block hb1⟩
  have Hf1 := Lib.hid hf1; have Hb1 := Lib.hid hb1
  clear hw1 hf1 hb1 hrb
  refine (Hidx.out w1 Hf1.out).mono ?_
  rintro e w2 ⟨r, rfl, hf2, hr1⟩
  obtain rfl : r = -1 := by rcases hr1 with ⟨h, _⟩ | ⟨_, _, _, hno, _⟩; exact h; cases hno
  clear hr1
  have Hb2 := Lib.hid (hf2.blk id Hb1.out)
  have Hf2 := Lib.hid (Hf1.out.trans0 hf2)
  have Hz2 := Lib.hid hf2.size
  clear hf2
  go_wp2_with fail
  refine (Hrdy.out w2 Hf2.out).mono ?_
  rintro e w3 ⟨A3, cp3, rfl, hf3, hs3⟩
  obtain ⟨g3, o3, rfl, k3⟩ := Hget.out _ _ _ _ hs3
  obtain ⟨g, o, rfl, e0, e1, e2⟩ := Hcell.out w3 (Hf2.out.trans0 hf3)
  have Hb3 := Lib.hid (hf3.blk id Hb2.out)
  have Hf3 := Lib.hid (Hf2.out.trans0 hf3)
  have Hz3 := Lib.hid hf3.size
  have hcm3 : m ≤ cp3 := by
    obtain ⟨g', o', cap', hv, _, _, h1, _, _, _⟩ := hs3.form hm0
    cases hv; exact h1
  clear hf3 hs3
  go_wp2_with fail
  refine (Hpick.out w3).mono ?_
  rintro e _ ⟨rfl, rfl⟩
  go_wp2_with fail
  refine (Hone.out w3 Hf3.out).mono ?_
  rintro e w4 ⟨A4, cp4, rfl, hf4, hp4, hs4⟩
  have hns : ¬ S rb := fun q => by have := HS.out _ q; have := Hz1.out; omega
  have hb4 := hf4.blk hns Hb3.out
  have hb5 : (w4.alloc (.cells #[.int .i64 (k : Int), .int .i64 y, .bool ok, .bool pn, .bool false, .bool false] 238)).heap[rb]? = _ := ((Fr.refl Nob w4).alloc _).blk id hb4
  have f0 := blk_froz hb5 0
  have c00 := blk_cell hb5 0 rfl
  have f1 := blk_froz hb5 1
  have c01 := blk_cell hb5 1 rfl
  have f2 := blk_froz hb5 2
  have c02 := blk_cell hb5 2 rfl
  have f3 := blk_froz hb5 3
  have c03 := blk_cell hb5 3 rfl
  have f4 := blk_froz hb5 4
  have c04 := blk_cell hb5 4 rfl
  have f5 := blk_froz hb5 5
  have c05 := blk_cell hb5 5 rfl
  have Hf4 := Lib.hid (Hf3.out.none.trans0 hf4); have Hp4 := Lib.hid hp4; have Hs4 := Lib.hid hs4; have Hb4 := Lib.hid hb4; have Hns := Lib.hid hns
  have Hz4 : Hid (rb < w3.heap.size) := by have := Hz1.out; have := Hz2.out; have := Hz3.out; exact Lib.hid (by omega)
  clear hf4 hp4 hs4 hb4 hns hb5
  go_wp2_with fail
  have hfa : Fr Nob w4 (w4.alloc (.cells #[.int .i64 (k : Int), .int .i64 y, .bool ok, .bool pn, .bool false, .bool false] 238)) := (Fr.refl Nob w4).alloc _
  have hba := hfa.blk id Hb4.out
  obtain ⟨wx, hwx⟩ : ∃ wx, wx = (((((((w4.alloc (.cells #[.int .i64 (k : Int), .int .i64 y, .bool ok, .bool pn, .bool false, .bool false] 238)).setCell ⟨rb, 0, none⟩ (.int .i64 (k : Int))).setCell ⟨rb, 1, none⟩ (.int .i64 y)).setCell ⟨rb, 2, none⟩ (.bool ok)).setCell ⟨rb, 3, none⟩ (.bool pn)).setCell ⟨rb, 4, none⟩ (.bool false)).setCell ⟨rb, 5, none⟩ (.bool false)) := ⟨_, rfl⟩
  rw [← hwx]
  have hfx : Fr (fun k => k = rb) ((w4.alloc (.cells #[.int .i64 (k : Int), .int .i64 y, .bool ok, .bool pn, .bool false, .bool false] 238))) wx := by rw [hwx]; exact six_fr _ _ _ _ _ _ _ _
  have hbx : wx.heap[rb]? = some (.cells #[.int .i64 (k : Int), .int .i64 y, .bool ok, .bool pn, .bool false, .bool false] 238 (0, 0)) := by rw [hwx]; exact six_blk hba _ _ _ _ _ _
  clear hwx
  have t0 := blk_cell hbx 0 rfl
  have t1 := blk_cell hbx 1 rfl
  have t2 := blk_cell hbx 2 rfl
  have t3 := blk_cell hbx 3 rfl
  have t4 := blk_cell hbx 4 rfl
  have t5 := blk_cell hbx 5 rfl
  refine bodyPost_ret (v := .tuple #[.agg #[.int .i64 (k : Int), .int .i64 y, .bool ok, .bool pn, .bool false, .bool false], .slice A4 nw cp4, .int .i64 0]) (by simp [results, Tryz.results135, go_sem, t0, t1, t2, t3, t4, t5]) rfl ⟨A4, cp4, rfl, ?_, ?_, ?_⟩
  · exact (Hf4.out.trans0 hfa.none).trans hfx fun q hk e => by have := Hz1.out; omega
  · exact (Hp4.out.fr0 hfa).fr hfx fun q a e => by subst e; exact Hns.out a
  · exact ((Hs4.out.fr hfa fun _ _ q => q).fr hfx fun q a e => by have := Hz4.out; unfold From at a; omega).mono fun q _ a => by have := Hf3.out.size; unfold From at a ⊢; omega
set_option maxHeartbeats 2000000 in
theorem do_default {w : World} {S : Nat → Prop} {B : Nat → Nat} {P : Nat → Option ChS} (h : Pool w S B P) (hS : ∀ k, S k → k < w.heap.size) (v : Value) (l : List Cs) (n : Nat) (hn : l.length = n) (hrd : Rd w 3 v n (css B l)) (hok : ∀ x ∈ l, CsOk P x) (hmu : ∀ x ∈ l, (x.2.1 && muteC P x) = false)
    (hno : ∀ x ∈ l, canC P x = false) (hn2 : n ≤ 16) (dr t : Int) (ht : 0 ≤ t) :
    Calls Tryz.prog 135 #[v, .bool true, .int .i64 dr, .int .i64 t] w (DoP w (fun _ => S) (fun _ => S) B P (-1) 0 false false false false [] 0 0) := by
  have hrdy := fun W (hW : Fr Nob w W) => choose_ready (h.fr0 hW) v l n hn (hrd.fr hW) hok (fun _ => false) (fun k x hx => hno x (List.mem_of_getElem? hx)) (by omega) 0 (by rw [rdy_none (fun _ _ => rfl)]; rfl)
  have hidx := fun W (hW : Fr Nob w W) => do_index (h.fr0 hW) v l n hn (hrd.fr hW) hok (fun _ => false) (fun k x hx => hmu x (List.mem_of_getElem? hx)) (by omega)
  have Hidx := Lib.hid hidx; have Hp := Lib.hid h; have HS := Lib.hid hS
  have Hrdy := Lib.hid hrdy
  obtain ⟨A, c0, rfl, hc1, hc2, _⟩ := cs_in hn hrd
  have hn16 : decide ((16 : Int) < n) = false := decide_eq_false (by omega)
  have ht0 : decide (t < 0) = false := decide_eq_false (by omega)
  have hn16' : ¬ (16 : Int) < n := by omega
  have ht0' : ¬ t < 0 := by omega
  clear hidx hrdy hS hrd hok hmu hno h hn
  unfold maxLen at hc2
  go_enter Tryz.func135, Tryz.ntmps135
  go_wp2_with fail
  obtain ⟨w1, hw1⟩ : ∃ w1, w1 = w.alloc (.cells (resA 0 0 false false false false) 238) := ⟨_, rfl⟩
  rw [← hw1]
  obtain ⟨rb, hrb⟩ : ∃ rb, rb = w.heap.size := ⟨_, rfl⟩
  rw [← hrb]
  have hf1 : Fr Nob w w1 := by rw [hw1]; exact (Fr.refl Nob w).alloc _
  have hb1 : w1.heap[rb]? = some (.cells #[.int .i64 0, .int .i64 0, .bool false, .bool false, .bool false, .bool false] 238 (0, 0)) := by rw [hw1, hrb]; exact blk_alloc_eq _ rfl
  have Hz1 : Hid (w.heap.size = rb ∧ rb < w1.heap.size) := ⟨hrb.symm, lt_of_block hb1⟩
  have Hf1 := Lib.hid hf1; have Hb1 := Lib.hid hb1
  clear hw1 hf1 hb1 hrb
  refine (Hidx.out w1 Hf1.out).mono ?_
  rintro e w2 ⟨r, rfl, hf2, hr1⟩
  obtain rfl : r = -1 := by rcases hr1 with ⟨h, _⟩ | ⟨_, _, _, hno, _⟩; exact h; cases hno
  clear hr1
  have Hb2 := Lib.hid (hf2.blk id Hb1.out)
  have Hf2 := Lib.hid (Hf1.out.trans0 hf2)
  have Hz2 := Lib.hid hf2.size
  clear hf2
  go_wp2_with fail
  refine (Hrdy.out w2 Hf2.out).mono ?_
  rintro e w3 ⟨A3, cp3, rfl, hf3, hs3⟩
  have hb3 := hf3.blk id Hb2.out
  have Hb3 := Lib.hid hb3
  have Hf3 := Lib.hid (Hf2.out.trans0 hf3)
  have Hz3 := Lib.hid hf3.size
  clear hf3 hs3
  have f0 := blk_froz hb3 0
  have c00 := blk_cell hb3 0 rfl
  have f1 := blk_froz hb3 1
  have c01 := blk_cell hb3 1 rfl
  have f2 := blk_froz hb3 2
  have c02 := blk_cell hb3 2 rfl
  have f3 := blk_froz hb3 3
  have c03 := blk_cell hb3 3 rfl
  have f4 := blk_froz hb3 4
  have c04 := blk_cell hb3 4 rfl
  have f5 := blk_froz hb3 5
  have c05 := blk_cell hb3 5 rfl
  clear hb3
  go_wp2_with fail
  obtain ⟨wx, hwx⟩ : ∃ wx, wx = ((((((w3.setCell ⟨rb, 0, none⟩ (.int .i64 (-1))).setCell ⟨rb, 1, none⟩ (.int .i64 0)).setCell ⟨rb, 2, none⟩ (.bool false)).setCell ⟨rb, 3, none⟩ (.bool false)).setCell ⟨rb, 4, none⟩ (.bool false)).setCell ⟨rb, 5, none⟩ (.bool false)) := ⟨_, rfl⟩
  rw [← hwx]
  have hfx : Fr (fun k => k = rb) (w3) wx := by rw [hwx]; exact six_fr _ _ _ _ _ _ _ _
  have hbx : wx.heap[rb]? = some (.cells #[.int .i64 (-1), .int .i64 0, .bool false, .bool false, .bool false, .bool false] 238 (0, 0)) := by rw [hwx]; exact six_blk Hb3.out _ _ _ _ _ _
  clear hwx
  have t0 := blk_cell hbx 0 rfl
  have t1 := blk_cell hbx 1 rfl
  have t2 := blk_cell hbx 2 rfl
  have t3 := blk_cell hbx 3 rfl
  have t4 := blk_cell hbx 4 rfl
  have t5 := blk_cell hbx 5 rfl
  refine bodyPost_ret (v := .tuple #[.agg #[.int .i64 (-1), .int .i64 0, .bool false, .bool false, .bool false, .bool false], .slice none 0 0, .int .i64 0]) (by simp [results, Tryz.results135, go_sem, t0, t1, t2, t3, t4, t5]) rfl ⟨none, 0, rfl, ?_, ?_, Sl.nil _ _ _ _⟩
  · exact Hf3.out.none.trans hfx fun q hk e => by have := Hz1.out; omega
  · exact (Hp.out.fr0 Hf3.out).fr hfx fun q a e => by subst e; have := HS.out _ a; have := Hz1.out; omega
end Go.Proofs.YtcffplgimbbflaaGreat
