/- TopTickers answers true whatever its inputs are: no condition. -/
import Derived.Test.YtcffplgimbbflaaGreatTkQ16
set_option linter.unusedVariables false
set_option linter.unusedSimpArgs false
namespace Go.Proofs.YtcffplgimbbflaaGreat
open Go.RowKit
set_option maxRecDepth 100000
theorem world_bit (w : World) (b : Bool) : Calls Tryz.prog 125 #[.bool b] w fun e w' => e = .returned (inV (bitI b)) ∧ w = w' := by
  cases b with
  | true =>
    go_enter Tryz.func125, Tryz.ntmps125
    go_wp2_with fail
    go_ret
    exact ⟨rfl, rfl⟩
  | false =>
    go_enter Tryz.func125, Tryz.ntmps125
    go_wp2_with fail
    go_ret
    exact ⟨rfl, rfl⟩
theorem tellO_some {st s : WS} {k w a b c : Int} (h : st.tellO k w a b c = some s) : st.ev.length < 1000 ∧ s = st.tell k w a b c := by
  unfold WS.tellO at h
  split at h
  · cases h
  · cases h; exact ⟨by omega, rfl⟩
theorem CasesAt.snoc {w : World} {S : Nat → Prop} {tsv : List Tk} {ts : List TkS} (h : CasesAt w S tsv ts) (t : Nat → Int) (d : Bool) : CasesAt w S (tsv ++ [(t, d, .slice none 0 0)]) (ts ++ [(t, d, [])]) := by
  refine ⟨by rw [List.length_append, List.length_append, h.1]; rfl, fun i t' d' cs hi => ?_⟩
  by_cases e : i < ts.length
  · rw [List.getElem?_append_left e] at hi
    obtain ⟨cv, a, b⟩ := h.2 i t' d' cs hi
    exact ⟨cv, by rw [List.getElem?_append_left (by rw [h.1]; exact e)]; exact a, b⟩
  · rw [List.getElem?_append_right (by omega)] at hi
    have : i - ts.length = 0 := by
      by_cases e2 : i - ts.length = 0
      · exact e2
      · rw [List.getElem?_eq_none (by simp; omega)] at hi; cases hi
    rw [this] at hi
    simp at hi
    obtain ⟨rfl, rfl, rfl⟩ := hi
    refine ⟨.slice none 0 0, ?_, Sl.nil _ _ _ _, fun _ => rfl⟩
    rw [List.getElem?_append_right (by rw [h.1]; omega), h.1, this]; rfl
theorem CasesAt.set {w : World} {S : Nat → Prop} {tsv : List Tk} {ts : List TkS} (h : CasesAt w S tsv ts) (i : Nat) (t : Nat → Int) (d : Bool) : CasesAt w S (tsv.set i (t, d, .slice none 0 0)) (ts.set i (t, d, [])) := by
  refine ⟨by rw [List.length_set, List.length_set, h.1], fun j t' d' cs hj => ?_⟩
  rw [List.getElem?_set] at hj
  split at hj
  · next e =>
    subst e
    split at hj
    · next hl =>
      simp at hj
      obtain ⟨rfl, rfl, rfl⟩ := hj
      exact ⟨.slice none 0 0, by rw [List.getElem?_set, if_pos rfl, if_pos (by rw [h.1]; exact hl)], Sl.nil _ _ _ _, fun _ => rfl⟩
    · cases hj
  · next e =>
    obtain ⟨cv, a, b⟩ := h.2 j t' d' cs hj
    exact ⟨cv, by rw [List.getElem?_set, if_neg e]; exact a, b⟩
/-- The table has turned. -/
theorem WP.fillTab {w w0 : World} {F : Nat → Nat → Prop} {c : Cfg} {P : Pg} {st : WS} {nd nm : Nat} (h : WP (fun q => q = 2) w F c P st nd nm) {T : Nat → Prop} {tsv : List Tk} {ts : List TkS} {line : List Int} (ht : TableAt w T c.tb tsv line) (hlt : ∀ k, T k → k < w.heap.size) (hT : ∀ p k, p ≠ 2 → F p k → T k → False) (hc : CasesAt w (F 10) tsv ts) :
    WP H0 w (Go.Proofs.YtcffplgimbbflaaGreat.upd F 2 T) { c with tsv := tsv } P { st with ts := ts, line := line } nd nm := by
  have key : ∀ p k, Go.Proofs.YtcffplgimbbflaaGreat.upd F 2 T p k → (p ≠ 2 ∧ F p k) ∨ (p = 2 ∧ T k) := fun p k q => by
    by_cases e : p = 2
    · subst e; rw [upd_same] at q; exact .inr ⟨rfl, q⟩
    · rw [upd_ne _ _ e] at q; exact .inl ⟨e, q⟩
  exact ⟨fun p k q => by
    rcases key p k q with q | q
    · exact h.lt p k q.2
    · exact hlt k q.2, fun p r k a b => by
    rcases key p k a with a | a
    · rcases key r k b with b | b
      · exact h.dis _ _ _ a.2 b.2
      · exact (hT p k a.1 a.2 b.2).elim
    · rcases key r k b with b | b
      · exact (hT r k b.1 b.2 a.2).elim
      · omega, h.own0, h.own1, fun _ => h.blk (by decide), fun _ => h.clk (by decide), fun _ => ht, fun _ => h.chs (by decide), fun _ => h.tim (by decide), fun _ => h.ctx (by decide), fun _ => h.dls (by decide), fun _ => h.lks (by decide), fun _ => h.prg (by decide), fun _ => h.evs (by decide), fun _ => hc, fun _ => h.pool (by decide), h.chn, h.tml, h.cxl, h.pad⟩
/-- A turn of the table alone: the world behind it. -/
theorem WAt.tabled {w w' : World} {S : Nat → Prop} {F : Nat → Nat → Prop} {c : Cfg} {P : Pg} {st : WS} {nd nm : Nat} (hS : ∀ k, S k ↔ Un F k) (h : WP H0 w F c P st nd nm) (hf : Fr (F 2) w w') {T : Nat → Prop} {tsv : List Tk} {ts : List TkS} {line : List Int} (ht : TableAt w' T c.tb tsv line) (hT : ∀ k, T k → F 2 k ∨ w.heap.size ≤ k) (hc : CasesAt w' (F 10) tsv ts) : Nx w S c.wb P { st with ts := ts, line := line } nd nm w' := by
  have hlt : ∀ k, T k → k < w'.heap.size := by obtain ⟨ab, lb, SA, SL, q⟩ := ht; exact q.lt
  refine WAt.of hS (hf.mono fun k _ q => ⟨2, q⟩) ((h.part 2 hf).fillTab (w0 := w) ht hlt (fun p k n a b => ?_) hc) rfl (fam_un (fun p k q => ⟨p, q⟩) hT)
  rcases hT k b with b | b
  · exact n (h.dis _ _ _ a b)
  · have := h.lt p k a; omega
section
variable {w : World} {S : Nat → Prop} {wb : Nat} {P : Pg} {st : WS} {nd nm : Nat} (h : WAt w S wb P st nd nm)
include h
set_option maxHeartbeats 1000000 in
theorem world_start (p : Int) (r : Nat → Int) {s : WS} (hs : st.start p r = some s) : Calls Tryz.prog 76 #[ptV wb, inV p, .agg (regR r)] w fun e w' => e = .returned (.tuple #[inV (st.ts.length : Int), inV 0]) ∧ Nx w S wb P s nd nm w' := by
  unfold WS.start at hs
  split at hs
  · cases hs
  · next hg =>
    obtain ⟨hev, rfl⟩ := tellO_some hs
    clear hs
    simp only [not_or, Int.not_lt, Nat.not_le] at hg
    obtain ⟨F, c, h, rfl, hS⟩ := h
    have hcas := h.cas id
    have hline : ((st.ts.length : Nat) : Int) ∉ st.line := by have := hg.2.2.1; simpa using this
    have Htab := Lib.hid (fun W (hW : Fr Nob w W) => task_start ((h.fr0 hW).tab id) p hg.1 r st.ts.length hcas.1 hg.2.1 hline hg.2.2.2)
    have hb := h.blk id
    have c2 := blk_cell hb 2 rfl
    have h20 : ¬ F 2 c.wb := fun q => absurd (h.dis _ _ _ q h.own0) (by decide)
    have H := Lib.hid h; have HS := Lib.hid hS; have Hg := Lib.hid hg
    have C2 := Lib.hid c2
    generalize hn : st.ts.length = n at *
    have Hn := Lib.hid hn
    clear h hS hb hg hcas hline c2 hn
    go_enter Tryz.func76, Tryz.ntmps76
    go_wp2_with fail
    obtain ⟨w1, hw1⟩ : ∃ w1, w1 = w.alloc (.cells (regR r) 74) := ⟨_, rfl⟩
    rw [← hw1]
    obtain ⟨gb, hgb⟩ : ∃ gb, gb = w.heap.size := ⟨_, rfl⟩
    rw [← hgb]
    have hfw1 : Fr Nob w w1 := by rw [hw1]; exact (Fr.refl Nob w).alloc _
    have hbw1 : w1.heap[gb]? = some (.cells (regR r) 74 (0, 0)) := by rw [hw1, hgb]; exact heap_alloc_new _ _
    have Hfw1 := Lib.hid hfw1; have Hbw1 := Lib.hid hbw1; have Hzw1 : Hid (w.heap.size = gb ∧ gb < w1.heap.size) := ⟨hgb.symm, lt_of_block hbw1⟩
    clear hw1 hgb hfw1 hbw1
    have key : ∀ W, Fr (F 2) w1 W → W.cell? ⟨c.wb, 2, none⟩ = some (ptV c.tb) ∧ W.cell? ⟨gb, 0, none⟩ = some (.int .i64 (r 0)) ∧ W.cell? ⟨gb, 1, none⟩ = some (.int .i64 (r 1)) ∧ W.cell? ⟨gb, 2, none⟩ = some (.int .i64 (r 2)) ∧ W.cell? ⟨gb, 3, none⟩ = some (.int .i64 (r 3)) ∧ W.cell? ⟨gb, 4, none⟩ = some (.int .i64 (r 4)) ∧ W.cell? ⟨gb, 5, none⟩ = some (.int .i64 (r 5)) ∧ W.cell? ⟨gb, 6, none⟩ = some (.int .i64 (r 6)) ∧ W.cell? ⟨gb, 7, none⟩ = some (.int .i64 (r 7)) := fun W hW => by
      have q := hW.blk (k := gb) (fun q => by have := H.out.lt _ _ q; have := Hzw1.out; omega) Hbw1.out
      exact ⟨hW.cell h20 (Hfw1.out.cell id C2.out), blk_cell q 0 rfl, blk_cell q 1 rfl, blk_cell q 2 rfl, blk_cell q 3 rfl, blk_cell q 4 rfl, blk_cell q 5 rfl, blk_cell q 6 rfl, blk_cell q 7 rfl⟩
    have Key := Lib.hid key
    clear key
    have hf0 : Fr (F 2) w1 w1 := Fr.refl _ _
    go_region_held3 (fun W => W.cell? ⟨c.wb, 2, none⟩ = some (ptV c.tb) ∧ W.cell? ⟨gb, 0, none⟩ = some (.int .i64 (r 0)) ∧ W.cell? ⟨gb, 1, none⟩ = some (.int .i64 (r 1)) ∧ W.cell? ⟨gb, 2, none⟩ = some (.int .i64 (r 2)) ∧ W.cell? ⟨gb, 3, none⟩ = some (.int .i64 (r 3)) ∧ W.cell? ⟨gb, 4, none⟩ = some (.int .i64 (r 4)) ∧ W.cell? ⟨gb, 5, none⟩ = some (.int .i64 (r 5)) ∧ W.cell? ⟨gb, 6, none⟩ = some (.int .i64 (r 6)) ∧ W.cell? ⟨gb, 7, none⟩ = some (.int .i64 (r 7)))
      ((refine Key.out _ ?_; first | with_reducible exact hf2 | with_reducible exact hf0 | exact hf0.drew))
      ((go_at_call 26; refine (Htab.out w1.drew (Hfw1.out.drew)).mono ?_; rintro e w2 ⟨T2, rfl, hf2', ht2, hs2⟩; have hf2 : Fr (F 2) w1 w2 := (hf0.drew).trans0 hf2'; have Ht2 := Lib.hid ht2; have Hs2 := Lib.hid hs2; clear ht2 hs2 hf2'))
    have hf02 : Fr (F 2) w w2 := Hfw1.out.none.trans0 hf2
    have hsub : ∀ k, T2 k → F 2 k ∨ w.heap.size ≤ k := fun k q => (Hs2.out k q).imp id fun q => by have := Hzw1.out; have q' : w1.heap.size ≤ k := q; omega
    have hc2 : CasesAt w2 (F 10) (c.tsv ++ [(newT p r, false, .slice none 0 0)]) (st.ts ++ [(newT p r, false, [])]) := ((H.out.cas id).fr hf02 fun k a b => absurd (H.out.dis _ _ _ a b) (by decide)).snoc _ _
    have hnx := WAt.tabled HS.out H.out hf02 Ht2.out hsub hc2
    obtain ⟨S2, f2, a2, s2⟩ := hnx
    have Ht := Lib.hid (world_tell a2 5 (n : Int) p 0 0 (by show st.ev.length < 1000000; omega))
    have Hf2 := Lib.hid f2; have Hs2' := Lib.hid s2
    clear hf0 hf2 hf02 hsub hc2 f2 a2 s2
    go_wp2_with fail
    refine Ht.out.mono ?_
    rintro e w3 ⟨rfl, hn3⟩
    have Hn3 := Lib.hid hn3
    clear hn3
    go_wp2_with fail
    go_ret2
    exact ⟨rfl, Nx.step Hf2.out Hs2'.out Hn3.out⟩
end
section
variable {w : World} {S : Nat → Prop} {wb : Nat} {P : Pg} {st : WS} {nd nm : Nat} (h : WAt w S wb P st nd nm)
include h
set_option maxHeartbeats 2000000 in
theorem passed_send (t : Nat → Int) (d : Bool) (h12 : t 12 = 10) (A B : Nat) (hA : A < 8) (hB : B < 8) (h13 : t 13 = A) (h14 : t 14 = B) (id k v : Int) (hid : 0 ≤ id) (ok : Bool) (hnd : nd ≤ 1000000000000) : Calls Tryz.prog 121 #[ptV wb, .agg (tkD t d).toArray, .agg #[inV id, inV k, inV v, .bool ok, .bool false]] w fun e w' => e = .returned (.tuple #[]) ∧ Nx w S wb P st (nd + 1) nm w' := by
  have Hw := Lib.hid (fun W (hW : Fr Nob w W) => world_went (h.fr0 hW) (t (4 + A)) id (t (4 + B)) false (by omega) hnd)
  have H := Lib.hid h
  obtain ⟨W2, hW2⟩ : ∃ W2, W2 = (w.alloc (.cells (tkD t d).toArray 98)).alloc (.cells #[inV id, inV k, inV v, .bool ok, .bool false] 225) := ⟨_, rfl⟩
  have hf2 : Fr Nob w W2 := by rw [hW2]; exact ((Fr.refl Nob w).alloc _).alloc _
  have ht2 : W2.heap[w.heap.size]? = some (.cells (tkD t d).toArray 98 (0, 0)) := by rw [hW2]; exact ((Fr.refl Nob _).alloc _).blk (fun q => q) (heap_alloc_new _ _)
  have hk2 : W2.heap[w.heap.size + 1]? = some (.cells #[inV id, inV k, inV v, .bool ok, .bool false] 225 (0, 0)) := by rw [hW2]; exact blk_alloc_eq _ (by simp)
  have hz2 : W2.heap.size = w.heap.size + 2 := by rw [hW2]; simp
  have c12 := tkc12 ht2; have c13 := tkc13 ht2; have c14 := tkc14 ht2; have c15 := tkc15 ht2; have c16 := tkc16 ht2; have c17 := tkc17 ht2
  rw [h12] at c12; rw [h13] at c13; rw [h14] at c14
  have k3 := blk_cell hk2 3 rfl; have k4 := blk_cell hk2 4 rfl
  have Ht2 := Lib.hid ht2; have Hk2 := Lib.hid hk2; have Hf2 := Lib.hid hf2; have Hz2 := Lib.hid hz2
  generalize t 15 = t15 at *
  
  rw [hW2] at c12 c13 c14 c15 c16 c17 k3 k4
  have HW2 := Lib.hid hW2
  clear h ht2 hk2 hf2 hz2 hW2 h12 h13 h14
  go_enter Tryz.func121, Tryz.ntmps121
  go_wp2_with fail
  rw [← HW2.out]
  clear c12 c13 c14 c15 c16 c17 k3 k4
  obtain ⟨W3, hW3⟩ : ∃ W3, W3 = W2.alloc (.cells #[.int .i64 10, .int .i64 (A : Int), .int .i64 (B : Int), .int .i64 t15, .slice none 0 0, .bool d] 25) := ⟨_, rfl⟩
  rw [← hW3]
  have hf3 : Fr Nob W2 W3 := by rw [hW3]; exact (Fr.refl Nob W2).alloc _
  have hi3 : W3.heap[W2.heap.size]? = some (.cells #[.int .i64 10, .int .i64 (A : Int), .int .i64 (B : Int), .int .i64 t15, .slice none 0 0, .bool d] 25 (0, 0)) := by rw [hW3]; exact heap_alloc_new _ _
  rw [Hz2.out] at hi3
  obtain ⟨tb, htb⟩ : ∃ tb, tb = w.heap.size := ⟨_, rfl⟩
  obtain ⟨kb, hkb⟩ : ∃ kb, kb = w.heap.size + 1 := ⟨_, rfl⟩
  obtain ⟨ib, hib⟩ : ∃ ib, ib = w.heap.size + 2 := ⟨_, rfl⟩
  have ht3 := hf3.blk (fun q => q) Ht2.out
  have hk3 := hf3.blk (fun q => q) Hk2.out
  rw [← htb] at ht3; rw [← hkb] at hk3; rw [← hib] at hi3
  have hS : ∀ k, S k → k < w.heap.size := H.out.lt
  have key : ∀ W, Fr S W3 W → W.cell? ⟨ib, 1, none⟩ = some (.int .i64 (A : Int)) ∧ W.cell? ⟨tb, 4 + A, none⟩ = some (.int .i64 (t (4 + A))) ∧ W.cell? ⟨kb, 0, none⟩ = some (inV id) ∧ W.cell? ⟨ib, 2, none⟩ = some (.int .i64 (B : Int)) ∧ W.cell? ⟨tb, 4 + B, none⟩ = some (.int .i64 (t (4 + B))) := fun W hW => by
    have q1 := hW.blk (fun q => by have := hS _ q; omega) ht3
    have q2 := hW.blk (fun q => by have := hS _ q; omega) hk3
    have q3 := hW.blk (fun q => by have := hS _ q; omega) hi3
    exact ⟨blk_cell q3 1 rfl, tkcR q1 A hA, blk_cell q2 0 rfl, blk_cell q3 2 rfl, tkcR q1 B hB⟩
  try rw [Hz2.out]
  try rw [← hib]
  try rw [← hkb]
  try rw [← htb]
  have Key := Lib.hid key
  have Hf3 := Lib.hid (Hf2.out.trans0 hf3)
  have hAi : (A : Int) < 8 := by omega
  have hBi : (B : Int) < 8 := by omega
  clear key hW3 hf3 hi3 ht3 hk3 htb hkb hib
  have hf0 : Fr S W3 W3 := Fr.refl _ _
  go_region_held3 (fun W => W.cell? ⟨ib, 1, none⟩ = some (.int .i64 (A : Int)) ∧ W.cell? ⟨tb, 4 + A, none⟩ = some (.int .i64 (t (4 + A))) ∧ W.cell? ⟨kb, 0, none⟩ = some (inV id) ∧ W.cell? ⟨ib, 2, none⟩ = some (.int .i64 (B : Int)) ∧ W.cell? ⟨tb, 4 + B, none⟩ = some (.int .i64 (t (4 + B))))
    ((refine Key.out _ ?_; first | with_reducible exact hf4 | with_reducible exact hf0 | exact hf0.drew))
    ((go_at_call 77; refine (Hw.out W3.drew (Hf3.out.drew)).mono ?_; rintro e w4 ⟨rfl, hn4⟩; obtain ⟨S4, hf4', ha4, hs4⟩ := hn4; have hf4 : Fr S W3 w4 := (hf0.drew).trans0 hf4'; have Hn4 : Hid (Nx W3.drew S wb P st (nd + 1) nm w4) := Lib.hid ⟨S4, hf4', ha4, hs4⟩; clear hf4' ha4 hs4))
  go_wp2_with fail
  all_goals
    go_end0
    exact ⟨rfl, Nx.from0 Hf3.out.drew Hn4.out⟩
set_option maxHeartbeats 2000000 in
theorem passed_recv (t : Nat → Int) (d : Bool) (h12 : t 12 = 11) (A : Nat) (hA : A < 8) (h13 : t 13 = A) (id k v : Int) (hid : 0 ≤ id) (hnd : nd ≤ 1000000000000) : Calls Tryz.prog 121 #[ptV wb, .agg (tkD t d).toArray, .agg #[inV id, inV k, inV v, .bool true, .bool false]] w fun e w' => e = .returned (.tuple #[]) ∧ Nx w S wb P st (nd + 1) nm w' := by
  have Hw := Lib.hid (fun W (hW : Fr Nob w W) => world_went (h.fr0 hW) (t (4 + A)) id v true (by omega) hnd)
  have H := Lib.hid h
  obtain ⟨W2, hW2⟩ : ∃ W2, W2 = (w.alloc (.cells (tkD t d).toArray 98)).alloc (.cells #[inV id, inV k, inV v, .bool true, .bool false] 225) := ⟨_, rfl⟩
  have hf2 : Fr Nob w W2 := by rw [hW2]; exact ((Fr.refl Nob w).alloc _).alloc _
  have ht2 : W2.heap[w.heap.size]? = some (.cells (tkD t d).toArray 98 (0, 0)) := by rw [hW2]; exact ((Fr.refl Nob _).alloc _).blk (fun q => q) (heap_alloc_new _ _)
  have hk2 : W2.heap[w.heap.size + 1]? = some (.cells #[inV id, inV k, inV v, .bool true, .bool false] 225 (0, 0)) := by rw [hW2]; exact blk_alloc_eq _ (by simp)
  have hz2 : W2.heap.size = w.heap.size + 2 := by rw [hW2]; simp
  have c12 := tkc12 ht2; have c13 := tkc13 ht2; have c14 := tkc14 ht2; have c15 := tkc15 ht2; have c16 := tkc16 ht2; have c17 := tkc17 ht2
  rw [h12] at c12; rw [h13] at c13
  have k3 := blk_cell hk2 3 rfl; have k4 := blk_cell hk2 4 rfl
  have Ht2 := Lib.hid ht2; have Hk2 := Lib.hid hk2; have Hf2 := Lib.hid hf2; have Hz2 := Lib.hid hz2
  generalize t 15 = t15 at *
  generalize t 14 = t14 at *
  rw [hW2] at c12 c13 c14 c15 c16 c17 k3 k4
  have HW2 := Lib.hid hW2
  clear h ht2 hk2 hf2 hz2 hW2 h12 h13
  go_enter Tryz.func121, Tryz.ntmps121
  go_wp2_with fail
  rw [← HW2.out]
  clear c12 c13 c14 c15 c16 c17 k3 k4
  obtain ⟨W3, hW3⟩ : ∃ W3, W3 = W2.alloc (.cells #[.int .i64 11, .int .i64 (A : Int), .int .i64 t14, .int .i64 t15, .slice none 0 0, .bool d] 25) := ⟨_, rfl⟩
  rw [← hW3]
  have hf3 : Fr Nob W2 W3 := by rw [hW3]; exact (Fr.refl Nob W2).alloc _
  have hi3 : W3.heap[W2.heap.size]? = some (.cells #[.int .i64 11, .int .i64 (A : Int), .int .i64 t14, .int .i64 t15, .slice none 0 0, .bool d] 25 (0, 0)) := by rw [hW3]; exact heap_alloc_new _ _
  rw [Hz2.out] at hi3
  obtain ⟨tb, htb⟩ : ∃ tb, tb = w.heap.size := ⟨_, rfl⟩
  obtain ⟨kb, hkb⟩ : ∃ kb, kb = w.heap.size + 1 := ⟨_, rfl⟩
  obtain ⟨ib, hib⟩ : ∃ ib, ib = w.heap.size + 2 := ⟨_, rfl⟩
  have ht3 := hf3.blk (fun q => q) Ht2.out
  have hk3 := hf3.blk (fun q => q) Hk2.out
  rw [← htb] at ht3; rw [← hkb] at hk3; rw [← hib] at hi3
  have hS : ∀ k, S k → k < w.heap.size := H.out.lt
  have key : ∀ W, Fr S W3 W → W.cell? ⟨ib, 1, none⟩ = some (.int .i64 (A : Int)) ∧ W.cell? ⟨tb, 4 + A, none⟩ = some (.int .i64 (t (4 + A))) ∧ W.cell? ⟨kb, 0, none⟩ = some (inV id) ∧ W.cell? ⟨kb, 2, none⟩ = some (inV v) := fun W hW => by
    have q1 := hW.blk (fun q => by have := hS _ q; omega) ht3
    have q2 := hW.blk (fun q => by have := hS _ q; omega) hk3
    have q3 := hW.blk (fun q => by have := hS _ q; omega) hi3
    exact ⟨blk_cell q3 1 rfl, tkcR q1 A hA, blk_cell q2 0 rfl, blk_cell q2 2 rfl⟩
  try rw [Hz2.out]
  try rw [← hib]
  try rw [← hkb]
  try rw [← htb]
  have Key := Lib.hid key
  have Hf3 := Lib.hid (Hf2.out.trans0 hf3)
  have hAi : (A : Int) < 8 := by omega
  
  clear key hW3 hf3 hi3 ht3 hk3 htb hkb hib
  have hf0 : Fr S W3 W3 := Fr.refl _ _
  go_region_held3 (fun W => W.cell? ⟨ib, 1, none⟩ = some (.int .i64 (A : Int)) ∧ W.cell? ⟨tb, 4 + A, none⟩ = some (.int .i64 (t (4 + A))) ∧ W.cell? ⟨kb, 0, none⟩ = some (inV id) ∧ W.cell? ⟨kb, 2, none⟩ = some (inV v))
    ((refine Key.out _ ?_; first | with_reducible exact hf4 | with_reducible exact hf0 | exact hf0.drew))
    ((go_at_call 77; refine (Hw.out W3.drew (Hf3.out.drew)).mono ?_; rintro e w4 ⟨rfl, hn4⟩; obtain ⟨S4, hf4', ha4, hs4⟩ := hn4; have hf4 : Fr S W3 w4 := (hf0.drew).trans0 hf4'; have Hn4 : Hid (Nx W3.drew S wb P st (nd + 1) nm w4) := Lib.hid ⟨S4, hf4', ha4, hs4⟩; clear hf4' ha4 hs4))
  go_wp2_with fail
  all_goals
    go_end0
    exact ⟨rfl, Nx.from0 Hf3.out.drew Hn4.out⟩
end
theorem cases_nil (w : World) (wb : Nat) (o a b c : Int) (d : Bool) (r : Nat → Int) : Calls Tryz.prog 122 #[ptV wb, .agg #[inV o, inV a, inV b, inV c, .slice none 0 0, .bool d], .agg (regR r)] w fun e w' => e = .returned (.tuple #[.slice none 0 0, .bool true]) ∧ Fr Nob w w' := by
  go_enter Tryz.func122, Tryz.ntmps122
  go_wp2_with fail
  obtain ⟨w1, hw1⟩ : ∃ w1, w1 = (w.alloc (.cells #[inV o, inV a, inV b, inV c, .slice none 0 0, .bool d] 25)).alloc (.cells (regR r) 74) := ⟨_, rfl⟩
  rw [← hw1]
  have Hf1 : Hid (Fr Nob w w1) := Lib.hid (by rw [hw1]; exact ((Fr.refl Nob w).alloc _).alloc _)
  clear hw1
  go_loopw [6, 15] (fun o i wr => o = .slice none 0 0 ∧ i = .int .i64 0 ∧ wr = w1) (fun _ _ _ => 0)
  case atStart => exact ⟨rfl, rfl, rfl⟩
  case round =>
    obtain ⟨rfl, rfl, rfl⟩ := hrel
    go_wp2_with fail
    go_ret2
    exact ⟨rfl, Hf1.out⟩
theorem leave_nil (w : World) (id : Int) : Calls Tryz.prog 123 #[.slice none 0 0, inV id] w fun e w' => e = .returned (inV 0) ∧ Fr Nob w w' := by
  go_enter Tryz.func123, Tryz.ntmps123
  go_wp2_with fail
  go_loopw [4, 9] (fun o i wr => o = .int .i64 0 ∧ i = .int .i64 0 ∧ wr = w) (fun _ _ _ => 0)
  case atStart => exact ⟨rfl, rfl, rfl⟩
  case round =>
    obtain ⟨rfl, rfl, rfl⟩ := hrel
    go_wp2_with fail
    go_ret
    exact ⟨rfl, Fr.refl _ _⟩
/-- A store of a whole row as one step of a region that draws. -/
theorem step_store_row {P : Program} {ops : Array Oper} {o : Oper} {a : Act} {K : Act → World → Prop} {Q : Exit → Act → World → Prop} {E : Prop} (w : World) (hgd : o.guard = none) (ty : TypeId) (x y : Operand) (ho : o.op = .store ty x y)
    (b : Nat) (cells old : Array Value) (T : TypeId) (hx : a.eval x = .pointer (some ⟨b, 0, none⟩)) (hy : a.eval y = .agg cells) (hb : w.heap[b]? = some (.cells old T (0, 0))) (hsz : old.size = cells.size)
    (hi : (P.info? ty).map (·.size) = some cells.size) (h1 : cells.all (·.oneCell') = true)
    (h : ∀ w', w'.heap[b]? = some (.cells cells T (0, 0)) → Fr (fun k => k = b) w w' → K (a.put o.dst undef) w') : if Region.wanted o (yielded ops a.tmps) = true then Oper.wp P o a w K Q else E := by
  have hw : Region.wanted o (yielded ops a.tmps) = true := by simp [Region.wanted, hgd]
  rw [if_pos hw]
  refine wp_store_mid ty x y ho b 0 cells hx hy (fun j hj => ?_) hi h1 (h _ ?_ ?_)
  · rw [Nat.zero_add]
    have hj' : j < old.size := by omega
    exact ⟨by rw [blk_cell hb j (Array.getElem?_eq_getElem hj')]; rfl, blk_froz hb j⟩
  · obtain ⟨blk', q1, q2, q3, q4⟩ := setCells_blk b T (0, 0) cells.toList 0 w old hb (by simp; omega)
    have : blk' = cells := by
      apply Array.ext_getElem?
      intro i
      by_cases hi : i < cells.size
      · have := q4 i cells[i] (by simp [hi])
        rw [Nat.zero_add] at this
        rw [this]; simp [hi]
      · rw [Array.getElem?_eq_none (by omega), Array.getElem?_eq_none (by omega)]
    rw [q1, this]
  · exact setCells_fr b _ 0 w
theorem wks_get (l : List Wk) (i j : Nat) (x : Wk) (h : l[i]? = some x) (hj : j < 5) : (wks l)[i * 5 + j]? = (wkEn x)[j]? := rowsGet wkEn (fun _ => rfl) l i j x h hj
/-- What a wake of one that the machine goes through asks. -/
theorem wake1_some {st s : WS} {x0 k v : Int} {ok pn : Bool} (h : st.wake1 (x0, k, v, ok, pn) = some s) : ∃ i : Nat, x0 = (i : Int) ∧ ∃ (t : Nat → Int) (d : Bool), st.ts[i]? = some (t, d, []) ∧
    ((t 2 ≠ 1 ∧ s = st) ∨ (t 2 = 1 ∧ pn = false ∧ (∃ A B C : Nat, A < 8 ∧ B < 8 ∧ C < 8 ∧ t 13 = A ∧ t 14 = B ∧ t 15 = C) ∧ (t 12 = 10 ∨ (t 12 = 11 ∧ ok = true)) ∧ (i : Int) ∉ st.line ∧ st.line.length < 100000 ∧ 0 ≤ t 1 ∧ t 1 ≤ 1000 ∧ st.ev.length < 1000 ∧
      s = ({ st with ts := st.ts.set i (wakeT (toldT t [] k v ok), false, []), line := st.line ++ [(i : Int)] } : WS).tell 3 i k v (bitI ok))) := by
  unfold WS.wake1 at h
  dsimp only at h
  split at h
  · cases h
  · next h0 =>
    refine ⟨x0.toNat, by omega, ?_⟩
    have hx : x0 = (x0.toNat : Int) := by omega
    split at h
    · cases h
    · next t d cs hts =>
      split at h
      · cases h
      · next hcs =>
        have hcs : cs = [] := by simpa using hcs
        subst hcs
        refine ⟨t, d, hts, ?_⟩
        split at h
        · next h2 => cases h; exact .inl ⟨h2, rfl⟩
        · next h2 =>
          split at h
          · cases h
          · next hpn =>
            split at h
            · cases h
            · next hr3 =>
              split at h
              · cases h
              · next hop =>
                split at h
                · cases h
                · next hl =>
                  split at h
                  · cases h
                  · next hpc =>
                    simp only [WS.cases] at h
                    obtain ⟨hev, hs⟩ := tellO_some h
                    have hr3' : regs3 t = true := by simpa using hr3
                    unfold regs3 at hr3'
                    simp only [Bool.and_eq_true] at hr3'
                    obtain ⟨⟨ha, hb⟩, hc⟩ := hr3'
                    obtain ⟨A, hA, hA8⟩ := reg_of ha
                    obtain ⟨B, hB, hB8⟩ := reg_of hb
                    obtain ⟨C, hC, hC8⟩ := reg_of hc
                    refine .inr ⟨by omega, by simpa using hpn, ⟨A, B, C, hA8, hB8, hC8, hA, hB, hC⟩, ?_, ?_, ?_, by omega, by omega, hev, ?_⟩
                    · simp at hop
                      by_cases e : t 12 = 10
                      · exact .inl e
                      · exact .inr (hop e)
                    · rw [← hx]
                      intro q
                      exact hl (.inl (by simpa using q))
                    · have : ¬ 100000 ≤ st.line.length := fun q => hl (.inr q)
                      omega
                    · rw [← hx]; exact hs
theorem told1 {t : Nat → Int} {k v : Int} {ok : Bool} (h : t 12 = 10 ∨ (t 12 = 11 ∧ ok = true)) : (toldT t [] k v ok) 1 = t 1 := by
  unfold toldT
  rcases h with h | ⟨h, rfl⟩
  · rw [if_neg (by omega), if_neg (by omega)]
  · rw [if_neg (by omega), if_pos h]
    have e : ∀ q : Nat, ¬ 1 = 4 + q := fun q => by omega
    simp [gotT, updT, e]
/-- How far a wake is. -/
structure WkSt (w wr : World) (S T : Nat → Prop) (wb : Nat) (P : Pg) (nd nm : Nat) (l : List Wk) (n : Nat) (v : Value) (s : WS) (k : Nat) (sk : WS) : Prop where
  rest : sk.wake (l.drop k) = some s
  nx : Nx w S wb P sk (nd + k) nm wr
  sl : Sl wr T 225 5 v n (wks l)
theorem wake_step {sk s : WS} {l : List Wk} {k : Nat} {x : Wk} (hx : l[k]? = some x) (h : sk.wake (l.drop k) = some s) : ∃ s1, sk.wake1 x = some s1 ∧ s1.wake (l.drop (k + 1)) = some s := by
  have : l.drop k = x :: l.drop (k + 1) := by
    have hk := (List.getElem?_eq_some_iff.1 hx)
    obtain ⟨hlt, e⟩ := hk
    rw [List.drop_eq_getElem_cons hlt, e]
  rw [this] at h
  simp only [WS.wake] at h
  split at h
  · cases h
  · next s1 h1 => exact ⟨s1, h1, h⟩
set_option maxHeartbeats 4000000 in
theorem world_wake {w : World} {S : Nat → Prop} {wb : Nat} {P : Pg} {st : WS} {nd nm : Nat} (h : WAt w S wb P st nd nm) (l : List Wk) (n : Nat) (hn : l.length = n) {s : WS} (hs : st.wake l = some s) (v : Value) {T : Nat → Prop} (hsl : Sl w T 225 5 v n (wks l)) (hd : ∀ k, S k → T k → False) (hT : ∀ k, T k → k < w.heap.size) (hnd : nd + n ≤ 1000000000000) :
    Calls Tryz.prog 80 #[ptV wb, v] w fun e w' => e = .returned (.tuple #[]) ∧ Nx w S wb P s (nd + n) nm w' := by
  obtain ⟨A, cp, rfl⟩ := hsl.slice
  have hl := hsl.len_le
  unfold maxLen at hl
  have hst : WkSt w w S T wb P nd nm l n (.slice A n cp) s 0 st := ⟨hs, Nx.refl h, hsl⟩
  have Hst := Lib.hid hst; have Hn := Lib.hid hn; have HT := Lib.hid hT; have Hd := Lib.hid hd
  clear h hs hsl hst hn hT hd
  go_enter Tryz.func80, Tryz.ntmps80
  go_wp2_with fail
  go_loopw [12] (fun i wr => ∃ (k : Nat) (sk : WS), k ≤ n ∧ i = .int .i64 k ∧ Hid (WkSt w wr S T wb P nd nm l n (.slice A n cp) s k sk)) (fun i _ => n - (intOf i).toNat)
  case atStart => exact ⟨0, st, Nat.zero_le _, rfl, Hst⟩
  case round =>
    obtain ⟨k, sk, hk, rfl, hr⟩ := hrel
    by_cases hlt : k < n
    · have hkl : k < l.length := by rw [Hn.out]; exact hlt
      obtain ⟨x, hx⟩ : ∃ x, l[k]? = some x := ⟨l[k], by simp⟩
      obtain ⟨s1, hs1, hrest⟩ := wake_step hx hr.out.rest
      obtain ⟨x0, kase, val, ok, pn⟩ := x
      obtain ⟨i, rfl, t, d, hi, hcase⟩ := wake1_some hs1
      obtain ⟨g, off, cp', hv', hg, hgl, hc1, hc2, hc, hfz⟩ := hr.out.sl.form (by omega)
      injection hv' with hA hn' hcp
      subst hA; subst hcp
      have q0 := hc _ _ ((wks_get l k 0 ((i : Int), kase, val, ok, pn) hx (by omega)).trans rfl)
      have q1 := hc _ _ ((wks_get l k 1 ((i : Int), kase, val, ok, pn) hx (by omega)).trans rfl)
      have q2 := hc _ _ ((wks_get l k 2 ((i : Int), kase, val, ok, pn) hx (by omega)).trans rfl)
      have q3 := hc _ _ ((wks_get l k 3 ((i : Int), kase, val, ok, pn) hx (by omega)).trans rfl)
      have q4 := hc _ _ ((wks_get l k 4 ((i : Int), kase, val, ok, pn) hx (by omega)).trans rfl)
      rw [Nat.add_zero] at q0
      rw [← Nat.add_assoc] at q1 q2 q3 q4
      have hint : (k : Int) < n := by omega
      obtain ⟨S1, hf1, ha1, hss1⟩ := hr.out.nx
      have Hr := hr
      have Hs1 := Lib.hid hs1; have Hrest := Lib.hid hrest; have Hf1 := Lib.hid hf1; have Ha1 := Lib.hid ha1; have Hss1 := Lib.hid hss1
      clear hc hfz hn' hs1 hrest hf1 ha1 hss1 hr hx hkl
      go_wp2_with fail
      obtain ⟨w1, hw1⟩ : ∃ w1, w1 = wr.alloc (.cells #[inV (i : Int), inV kase, inV val, .bool ok, .bool pn] 225) := ⟨_, rfl⟩
      rw [← hw1]
      obtain ⟨xb, hxb⟩ : ∃ xb, xb = wr.heap.size := ⟨_, rfl⟩
      rw [← hxb]
      have hfw1 : Fr Nob wr w1 := by rw [hw1]; exact (Fr.refl Nob wr).alloc _
      have hbw1 : w1.heap[xb]? = some (.cells #[inV (i : Int), inV kase, inV val, .bool ok, .bool pn] 225 (0, 0)) := by rw [hw1, hxb]; exact heap_alloc_new _ _
      have Hfw1 := Lib.hid hfw1; have Hbw1 := Lib.hid hbw1; have Hzw1 : Hid (wr.heap.size = xb ∧ xb < w1.heap.size) := ⟨hxb.symm, lt_of_block hbw1⟩
      clear hw1 hxb hfw1 hbw1
      obtain ⟨F, c, h1, hwb, hS1⟩ := Ha1.out
      have hcas := (h1.cas id).2 i t d [] hi
      obtain ⟨cv, htsv, _, hnil⟩ := hcas
      obtain rfl := hnil rfl
      have Hget := Lib.hid (fun W (hW : Fr Nob w1 W) => task_get ((h1.fr0 (Hfw1.out.trans0 hW)).tab id) i t d htsv)
      have c2 := blk_cell (h1.blk id) 2 rfl
      rw [hwb] at c2
      have key : ∀ W, Fr Nob w1 W → W.cell? ⟨wb, 2, none⟩ = some (ptV c.tb) ∧ W.cell? ⟨xb, 0, none⟩ = some (inV (i : Int)) := fun W hW => ⟨(Hfw1.out.trans0 hW).cell (fun q => q) c2, blk_cell (hW.blk (fun q => q) Hbw1.out) 0 rfl⟩
      have Key := Lib.hid key
      have H1 := Lib.hid h1; have HS1 := Lib.hid hS1; have Hwb := Lib.hid hwb; have Htsv := Lib.hid htsv; have Hi := Lib.hid hi; have Hcase := Lib.hid hcase
      clear key c2 h1 hS1 hwb htsv hi hcase hnil q0 q1 q2 q3 q4
      refine wp_region_held_drew (S := fun W => W.cell? ⟨wb, 2, none⟩ = some (ptV c.tb) ∧ W.cell? ⟨xb, 0, none⟩ = some (inV (i : Int))) (by kernel_rfl) (Key.out _ (Fr.refl Nob w1).drew) (fun hHeld => ?_)
      refine wpAnyH_take (i := 0) (v := ?_) rfl (by kernel_rfl) (by kernel_rfl) (by kernel_rfl) (fun _ _ _ h => h) (Or.inl ⟨by rfl, ?_⟩) (by assumption) ?_
      rotate_left
      · intro w hSw; (try dsimp only at hSw); go_simp; try with_reducible rfl
      try simp only [List.getElem_toArray, List.getElem_cons_zero, List.getElem_cons_succ, Act.put, List.setIfInBounds_toArray, List.set_cons_zero, List.set_cons_succ]
      refine wpAnyH_take (i := 1) (v := ?_) rfl (by kernel_rfl) (by kernel_rfl) (by kernel_rfl) (fun _ _ _ h => h) (Or.inl ⟨by rfl, ?_⟩) (by assumption) ?_
      rotate_left
      · intro w hSw; (try dsimp only at hSw); go_simp; try with_reducible rfl
      try simp only [List.getElem_toArray, List.getElem_cons_zero, List.getElem_cons_succ, Act.put, List.setIfInBounds_toArray, List.set_cons_zero, List.set_cons_succ]
      refine wpAnyH_take (i := 2) (v := ?_) rfl (by kernel_rfl) (by kernel_rfl) (by kernel_rfl) (fun _ _ _ h => h) (Or.inl ⟨by rfl, ?_⟩) (by assumption) ?_
      rotate_left
      · intro w hSw; (try dsimp only at hSw); go_simp; try with_reducible rfl
      try simp only [List.getElem_toArray, List.getElem_cons_zero, List.getElem_cons_succ, Act.put, List.setIfInBounds_toArray, List.set_cons_zero, List.set_cons_succ]
      refine wpAnyH_take (i := 3) (v := ?_) rfl (by kernel_rfl) (by kernel_rfl) (by kernel_rfl) (fun _ _ _ h => h) (Or.inl ⟨by rfl, ?_⟩) (by assumption) ?_
      rotate_left
      · intro w hSw; (try dsimp only at hSw); go_simp; try with_reducible rfl
      try simp only [List.getElem_toArray, List.getElem_cons_zero, List.getElem_cons_succ, Act.put, List.setIfInBounds_toArray, List.set_cons_zero, List.set_cons_succ]
      refine wpAnyH_take (i := 4) (v := ?_) rfl (by kernel_rfl) (by kernel_rfl) (by kernel_rfl) (fun _ _ _ h => h) (Or.inl ⟨by rfl, ?_⟩) (by assumption) ?_
      rotate_left
      · intro w hSw; (try dsimp only at hSw); go_simp; try with_reducible rfl
      try simp only [List.getElem_toArray, List.getElem_cons_zero, List.getElem_cons_succ, Act.put, List.setIfInBounds_toArray, List.set_cons_zero, List.set_cons_succ]
      refine wpAnyH_take (i := 5) (v := ?_) rfl (by kernel_rfl) (by kernel_rfl) (by kernel_rfl) (fun _ _ _ h => h) (Or.inl ⟨by rfl, ?_⟩) (by assumption) ?_
      rotate_left
      · intro w hSw; (try dsimp only at hSw); go_simp; try with_reducible rfl
      try simp only [List.getElem_toArray, List.getElem_cons_zero, List.getElem_cons_succ, Act.put, List.setIfInBounds_toArray, List.set_cons_zero, List.set_cons_succ]
      refine wpAnyH_ready (rs := [6, 10]) (by kernel_rfl) (by simp) ?_
      refine AllReadyH.cons rfl (fun K hK => ?_) (AllReadyH.cons rfl (fun K hK => ?_) AllReadyH.nil)
      focus
        simp only [List.getElem_toArray, List.getElem_cons_zero, List.getElem_cons_succ]
        go_simp
        refine (Hget.out _ (Fr.refl Nob w1).drew).mono ?_
        rintro e w2 ⟨rfl, hf2'⟩
        have hf2 : Fr Nob w1 w2 := ((Fr.refl Nob w1).drew).trans0 hf2'
        refine hK.out _ _ (Key.out _ hf2) (fun hHeld2 => ?_)
        clear hK K
        refine wpAnyH_take (i := 7) (v := ?_) rfl (by kernel_rfl) (by kernel_rfl) (by kernel_rfl) (fun _ _ _ h => h) (Or.inl ⟨by rfl, ?_⟩) (by assumption) ?_
        rotate_left
        · intro w hSw; (try dsimp only at hSw); go_simp; try with_reducible rfl
        try simp only [List.getElem_toArray, List.getElem_cons_zero, List.getElem_cons_succ, Act.put, List.setIfInBounds_toArray, List.set_cons_zero, List.set_cons_succ]
        refine wpAnyH_take (i := 8) (v := ?_) rfl (by kernel_rfl) (by kernel_rfl) (by kernel_rfl) (fun _ _ _ h => h) (Or.inl ⟨by rfl, ?_⟩) (by assumption) ?_
        rotate_left
        · intro w hSw; (try dsimp only at hSw); go_simp; try with_reducible rfl
        try simp only [List.getElem_toArray, List.getElem_cons_zero, List.getElem_cons_succ, Act.put, List.setIfInBounds_toArray, List.set_cons_zero, List.set_cons_succ]
        refine wpAnyH_take (i := 9) (v := ?_) rfl (by kernel_rfl) (by kernel_rfl) (by kernel_rfl) (fun _ _ _ h => h) (Or.inl ⟨by rfl, ?_⟩) (by assumption) ?_
        rotate_left
        · intro w hSw; (try dsimp only at hSw); go_simp; try with_reducible rfl
        try simp only [List.getElem_toArray, List.getElem_cons_zero, List.getElem_cons_succ, Act.put, List.setIfInBounds_toArray, List.set_cons_zero, List.set_cons_succ]
        refine wpAnyH_ready (rs := [10]) (by kernel_rfl) (by simp) ?_
        refine AllReadyH.cons rfl (fun K hK => ?_) AllReadyH.nil
        try simp only [List.getElem_toArray, List.getElem_cons_zero, List.getElem_cons_succ]
        go_simp
        refine hK.out _ _ (Key.out _ (hf2.alloc _)) (fun hHeld3 => ?_)
        clear hK K
        refine wpAnyH_ready (rs := [11]) (by kernel_rfl) (by simp) ?_
        refine AllReadyH.cons rfl (fun K hK => ?_) AllReadyH.nil
        refine step_store_row _ rfl 98 (.tmp 6) (.tmp 24) rfl w2.heap.size (tkD t d).toArray _ 98 rfl rfl (heap_alloc_new w2 _) rfl (info18 t d) (tkD_all t d) fun w3 hb3 hf3 => ?_
        have hf13 : Fr Nob w1 w3 := (hf2.alloc _).trans hf3 (fun k hk e => by have := hf2.size; omega)
        have htw : w1.heap.size ≤ w2.heap.size := hf2.size
        refine hK.out _ _ (Key.out _ hf13) (fun hHeld4 => ?_)
        clear hK K hf3 hf2 hf2' hHeld2 hHeld3 hHeld
        generalize w2.heap.size = tb at *
      rotate_left
      focus
        try simp only [List.getElem_toArray, List.getElem_cons_zero, List.getElem_cons_succ]
        go_simp
        refine hK.out _ _ (Key.out _ ((Fr.refl Nob w1).drew.alloc _)) (fun hHeld2 => ?_)
        clear hK K
        refine wpAnyH_ready (rs := [6]) (by kernel_rfl) (by simp) ?_
        refine AllReadyH.cons rfl (fun K hK => ?_) AllReadyH.nil
        simp only [List.getElem_toArray, List.getElem_cons_zero, List.getElem_cons_succ]
        go_simp
        refine (Hget.out _ ((Fr.refl Nob w1).drew.alloc _)).mono ?_
        rintro e w2 ⟨rfl, hf2'⟩
        have hf2 : Fr Nob w1 w2 := ((Fr.refl Nob w1).drew.alloc _).trans0 hf2'
        refine hK.out _ _ (Key.out _ hf2) (fun hHeld3 => ?_)
        clear hK K
        refine wpAnyH_take (i := 7) (v := ?_) rfl (by kernel_rfl) (by kernel_rfl) (by kernel_rfl) (fun _ _ _ h => h) (Or.inl ⟨by rfl, ?_⟩) (by assumption) ?_
        rotate_left
        · intro w hSw; (try dsimp only at hSw); go_simp; try with_reducible rfl
        try simp only [List.getElem_toArray, List.getElem_cons_zero, List.getElem_cons_succ, Act.put, List.setIfInBounds_toArray, List.set_cons_zero, List.set_cons_succ]
        refine wpAnyH_take (i := 8) (v := ?_) rfl (by kernel_rfl) (by kernel_rfl) (by kernel_rfl) (fun _ _ _ h => h) (Or.inl ⟨by rfl, ?_⟩) (by assumption) ?_
        rotate_left
        · intro w hSw; (try dsimp only at hSw); go_simp; try with_reducible rfl
        try simp only [List.getElem_toArray, List.getElem_cons_zero, List.getElem_cons_succ, Act.put, List.setIfInBounds_toArray, List.set_cons_zero, List.set_cons_succ]
        refine wpAnyH_take (i := 9) (v := ?_) rfl (by kernel_rfl) (by kernel_rfl) (by kernel_rfl) (fun _ _ _ h => h) (Or.inl ⟨by rfl, ?_⟩) (by assumption) ?_
        rotate_left
        · intro w hSw; (try dsimp only at hSw); go_simp; try with_reducible rfl
        try simp only [List.getElem_toArray, List.getElem_cons_zero, List.getElem_cons_succ, Act.put, List.setIfInBounds_toArray, List.set_cons_zero, List.set_cons_succ]
        refine wpAnyH_ready (rs := [11]) (by kernel_rfl) (by simp) ?_
        refine AllReadyH.cons rfl (fun K hK => ?_) AllReadyH.nil
        refine step_store_row _ rfl 98 (.tmp 6) (.tmp 24) rfl w1.heap.size (tkD t d).toArray _ 98 rfl rfl (hf2'.blk (fun q => q) (heap_alloc_new w1.drew _)) rfl (info18 t d) (tkD_all t d) fun w3 hb3 hf3 => ?_
        have hf13 : Fr Nob w1 w3 := hf2.trans hf3 (fun k hk e => by omega)
        have htw : w1.heap.size ≤ w1.heap.size := Nat.le_refl _
        refine hK.out _ _ (Key.out _ hf13) (fun hHeld4 => ?_)
        clear hK K hf3 hf2 hf2' hHeld2 hHeld3 hHeld
        obtain ⟨tb, htb⟩ : ∃ tb, tb = w1.heap.size := ⟨_, rfl⟩
        rw [← htb] at hb3
        try rw [← htb]
        replace htw : w1.heap.size ≤ tb := by omega
        clear htb
      all_goals
        refine wpAnyH_take (i := 12) (v := ?_) rfl (by kernel_rfl) (by kernel_rfl) (by kernel_rfl) (fun _ _ _ h => h) (Or.inl ⟨by rfl, ?_⟩) (by assumption) ?_
        rotate_left
        · intro w hSw; (try dsimp only at hSw); go_simp; try with_reducible rfl
        try simp only [List.getElem_toArray, List.getElem_cons_zero, List.getElem_cons_succ, Act.put, List.setIfInBounds_toArray, List.set_cons_zero, List.set_cons_succ]
        refine wpAnyH_done (by kernel_rfl) ?_ _
        try simp only [List.getElem_toArray, List.getElem_cons_zero, List.getElem_cons_succ, Act.put, List.setIfInBounds_toArray, List.set_cons_zero, List.set_cons_succ]
        have Hf13 := Lib.hid hf13; have Hb3 := Lib.hid hb3; have Htw := Lib.hid htw
        clear htw hf13 hb3
        have c2 := tkc2 Hb3.out
        rcases Hcase.out with ⟨h2, hs1⟩ | ⟨h2, hpn, ⟨A', B', C', hA, hB, hC, h13, h14, h15⟩, hop, hline, hll, hp1, hp2, hev, hs1⟩
        · subst hs1
          go_wp2_with fail
          go_roundw
          case rel =>
            have hf : Fr Nob wr w3 := Hfw1.out.trans0 Hf13.out
            exact ⟨k + 1, s1, by omega, rfl, Lib.hid ⟨Hrest.out, (Hr.out.nx.fr0 hf).mono (by omega) (Nat.le_refl _), Hr.out.sl.fr hf fun _ _ q => q⟩⟩
          case measure =>
            show n - ((k : Int) + 1).toNat < n - ((k : Int)).toNat
            omega
        · rw [h2] at c2
          subst hpn
          have hpass : ∀ W, Fr Nob w1 W → Calls Tryz.prog 121 #[ptV wb, .agg (tkD t d).toArray, .agg #[inV (i : Int), inV kase, inV val, .bool ok, .bool false]] W fun e w' => e = .returned (.tuple #[]) ∧ Nx W S1 wb P sk (nd + k + 1) nm w' := fun W hW => by
            have ha := Ha1.out.fr0 (Hfw1.out.trans0 hW)
            rcases hop with h12 | ⟨h12, rfl⟩
            · exact passed_send ha t d h12 A' B' hA hB h13 h14 i kase val (by omega) ok (by omega)
            · exact passed_recv ha t d h12 A' hA h13 i kase val (by omega) (by omega)
          have htold : ToldP t d i kase val ok (toldT t [] kase val ok) := by
            intro W tb' hb'
            unfold toldT
            rcases hop with h12 | ⟨h12, rfl⟩
            · rw [if_neg (by omega), if_neg (by omega)]
              exact told_sent W tb' t d hb' h12 _ _ _ _ _
            · rw [if_neg (by omega), if_pos h12, h14, h15]
              exact told_got W tb' t d hb' h12 B' C' hB hC h14 h15 _ _ _ _ _
          have Hpass := Lib.hid hpass; have Htold := Lib.hid htold
          clear hpass htold
          have HbW := Lib.hid (fun W (hW : Fr Nob w3 W) => hW.blk (fun q => q) Hb3.out)
          have HxW := Lib.hid (fun W (hW : Fr Nob w3 W) => (Hf13.out.trans0 hW).blk (fun q => q) Hbw1.out)
          have kx := HxW.out w3 (Fr.refl _ _)
          have kx0 := blk_cell kx 0 rfl; have kx1 := blk_cell kx 1 rfl; have kx2 := blk_cell kx 2 rfl; have kx3 := blk_cell kx 3 rfl; have kx4 := blk_cell kx 4 rfl
          go_wp2_with (refine wpList_load_row rfl 98 (.tmp 6) rfl tb rfl 98 (tkD t d).toArray (0, 0) _ Hb3.out rfl rfl (info18 t d) ?_)
          refine (Hpass.out w3 Hf13.out).mono ?_
          rintro e w4 ⟨rfl, S4, hf4, ha4, hs4⟩
          have hlt1 := Ha1.out.lt
          have hz1 := Hzw1.out
          have hn1 : ∀ q, S1 q → q < xb ∧ q < tb := fun q hq => by have := hlt1 q hq; have := Htw.out; omega
          have hb4 := hf4.blk (fun q => Nat.lt_irrefl _ (hn1 _ q).2) Hb3.out
          have hx4 := hf4.blk (fun q => Nat.lt_irrefl _ (hn1 _ q).1) (HxW.out w3 (Fr.refl _ _))
          have r4 := tkc4 hb4; have r5 := tkc5 hb4; have r6 := tkc6 hb4; have r7 := tkc7 hb4; have r8 := tkc8 hb4; have r9 := tkc9 hb4; have r10 := tkc10 hb4; have r11 := tkc11 hb4
          have r12 := tkc12 hb4; have r13 := tkc13 hb4; have r14 := tkc14 hb4; have r15 := tkc15 hb4; have r16 := tkc16 hb4; have r17 := tkc17 hb4
          have Hb4 := Lib.hid hb4; have Hx4 := Lib.hid hx4; have Ha4 := Lib.hid ha4; have Hf4 := Lib.hid hf4; have Hs4 := Lib.hid hs4; have Hop := Lib.hid hop; have Hs1 := Lib.hid hs1; have Hline := Lib.hid hline
          clear hb4 hx4 ha4 hf4 hs4 kx kx0 kx1 kx2 kx3 kx4 c2 hHeld4 hlt1 hop h13 h14 h15 hs1 hline
          go_wp2_with fail
          refine (cases_nil w4 wb (t 12) (t 13) (t 14) (t 15) d (regsOf t)).mono ?_
          rintro e w5 ⟨rfl, hf5⟩
          have hx5 := hf5.blk (fun q => q) Hx4.out
          have x50 := blk_cell hx5 0 rfl
          have Hf5 := Lib.hid hf5
          clear r4 r5 r6 r7 r8 r9 r10 r11 r12 r13 r14 r15 r16 r17 hx5 hf5
          go_wp2_with fail
          refine (leave_nil w5 (i : Int)).mono ?_
          rintro e w6 ⟨rfl, hf6⟩
          have hf46 := Hf5.out.trans0 hf6
          have ha6 := Ha4.out.fr0 hf46
          obtain ⟨F6, c6, h6, hwb6, hS6⟩ := ha6
          have hcas6 := (h6.cas id).2 i t d [] Hi.out
          obtain ⟨cv6, htsv6, _, hnil6⟩ := hcas6
          obtain rfl := hnil6 rfl
          have hS6lt : ∀ q, S4 q → q ≠ xb := fun q hq e => by
            rcases Hs4.out q hq with a | a
            · have := (hn1 q a).1; omega
            · have e1 := Hzw1.out; have e2 := Hf13.out.size; omega
          have ht1 : (toldT t [] kase val ok) 1 = t 1 := told1 Hop.out
          have Hwk := Lib.hid (fun W (hW : Fr Nob w6 W) => wake_ok ((h6.fr0 hW).tab id) i t d htsv6 kase val ok (by simp [h2]) (toldT t [] kase val ok) Htold.out (by rw [ht1]; rw [IntKind.wrap_i64]; omega) Hline.out hll)
          have hx6 := hf46.blk (fun q => q) Hx4.out
          have c62 := blk_cell (h6.blk id) 2 rfl
          rw [hwb6] at c62
          have h26 : ¬ F6 2 wb := fun q => by rw [← hwb6] at q; exact absurd (h6.dis _ _ _ q h6.own0) (by decide)
          have hx26 : ¬ F6 2 xb := fun q => hS6lt xb ((hS6 _).2 ⟨2, q⟩) rfl
          have key6 : ∀ W, Fr (F6 2) w6 W → W.cell? ⟨wb, 2, none⟩ = some (ptV c6.tb) ∧ W.cell? ⟨xb, 0, none⟩ = some (inV (i : Int)) ∧ W.cell? ⟨xb, 1, none⟩ = some (inV kase) ∧ W.cell? ⟨xb, 2, none⟩ = some (inV val) ∧ W.cell? ⟨xb, 3, none⟩ = some (.bool ok) ∧ W.cell? ⟨xb, 4, none⟩ = some (.bool false) := fun W hW => by
            have q := hW.blk hx26 hx6
            exact ⟨hW.cell h26 c62, blk_cell q 0 rfl, blk_cell q 1 rfl, blk_cell q 2 rfl, blk_cell q 3 rfl, blk_cell q 4 rfl⟩
          have Key6 := Lib.hid key6; have H6 := Lib.hid h6; have HS6 := Lib.hid hS6; have Hwb6 := Lib.hid hwb6; have Hf46 := Lib.hid hf46; have Hne := Lib.hid hS6lt; have Hx26 := Lib.hid hx26; have Hx6 := Lib.hid hx6
          clear key6 h6 hS6 hwb6 hf46 hf6 hx6 c62 htsv6 hnil6 h26 hx26 hS6lt x50 ht1 hz1
          go_wp2_with fail
          have hf0 : Fr (F6 2) w6 w6 := Fr.refl _ _
          go_region_held3 (fun W => W.cell? ⟨wb, 2, none⟩ = some (ptV c6.tb) ∧ W.cell? ⟨xb, 0, none⟩ = some (inV (i : Int)) ∧ W.cell? ⟨xb, 1, none⟩ = some (inV kase) ∧ W.cell? ⟨xb, 2, none⟩ = some (inV val) ∧ W.cell? ⟨xb, 3, none⟩ = some (.bool ok) ∧ W.cell? ⟨xb, 4, none⟩ = some (.bool false))
            ((refine Key6.out _ ?_; first | with_reducible exact hf7 | with_reducible exact hf0 | exact hf0.drew))
            ((go_at_call 124; refine (Hwk.out w6.drew ((Fr.refl Nob w6).drew)).mono ?_; rintro e w7 ⟨T7, rfl, hf7', ht7, hs7⟩; have hf7 : Fr (F6 2) w6 w7 := (hf0.drew).trans0 hf7'; have Ht7 := Lib.hid ht7; have Hs7 := Lib.hid hs7; clear ht7 hs7 hf7'))
          have hc7 : CasesAt w7 (F6 10) (c6.tsv.set i (wakeT (toldT t [] kase val ok), false, .slice none 0 0)) (sk.ts.set i (wakeT (toldT t [] kase val ok), false, [])) := ((H6.out.cas id).fr hf7 fun k a b => absurd (H6.out.dis _ _ _ a b) (by decide)).set _ _ _
          have hnx7 := WAt.tabled HS6.out H6.out hf7 Ht7.out (fun k q => Hs7.out k q) hc7
          rw [Hwb6.out] at hnx7
          obtain ⟨S7, f7, a7, s7⟩ := hnx7
          have hx7 := hf7.blk Hx26.out Hx6.out
          have x74 := blk_cell hx7 4 rfl
          have hne7 : ¬ S7 xb := fun q => by
            rcases s7 xb q with a | a
            · exact Hne.out xb a rfl
            · have e1 := Hzw1.out; have e2 := Hf13.out.size; have e3 := Hf4.out.size; have e4 := Hf46.out.size; omega
          have key7 : ∀ W, Fr S7 w7 W → W.cell? ⟨xb, 0, none⟩ = some (inV (i : Int)) ∧ W.cell? ⟨xb, 1, none⟩ = some (inV kase) ∧ W.cell? ⟨xb, 2, none⟩ = some (inV val) ∧ W.cell? ⟨xb, 3, none⟩ = some (.bool ok) := fun W hW => by
            have q := hW.blk hne7 hx7
            exact ⟨blk_cell q 0 rfl, blk_cell q 1 rfl, blk_cell q 2 rfl, blk_cell q 3 rfl⟩
          have Htell := Lib.hid (fun W (hW : Fr Nob w7 W) => world_tell (a7.fr0 hW) 3 (i : Int) kase val (bitI ok) (by show sk.ev.length < 1000000; omega))
          have Key7 := Lib.hid key7; have Hf7 := Lib.hid f7; have Hs7' := Lib.hid s7; have Hnx7 := Lib.hid hn1
          clear hf7 hf0 hc7 f7 a7 s7 hx7 hne7 key7 hn1
          go_wp2_with fail
          clear x74
          have hf0 : Fr S7 w7 w7 := Fr.refl _ _
          go_region_held3 (fun W => W.cell? ⟨xb, 0, none⟩ = some (inV (i : Int)) ∧ W.cell? ⟨xb, 1, none⟩ = some (inV kase) ∧ W.cell? ⟨xb, 2, none⟩ = some (inV val) ∧ W.cell? ⟨xb, 3, none⟩ = some (.bool ok))
            ((refine Key7.out _ ?_; first | with_reducible exact hf8 | with_reducible exact hf0 | exact hf0.drew))
            ((first | (go_at_call 125; refine (world_bit w7.drew ok).mono ?_; rintro e w8 ⟨rfl, rfl⟩) | (go_at_call 28; refine (Htell.out w7.drew ((Fr.refl Nob w7).drew)).mono ?_; rintro e w8 ⟨rfl, hn8⟩; obtain ⟨S8, f8, a8, s8⟩ := hn8; have hf8 : Fr S7 w7 w8 := (hf0.drew).trans0 f8; have Ha8 := Lib.hid a8; have Hs8 := Lib.hid s8; clear f8 a8 s8)))
          go_wp2_with fail
          all_goals
            have n8 : Nx w7 S7 wb P s1 (nd + k + 1) nm w8 := by rw [Hs1.out]; exact ⟨S8, hf8, Ha8.out, Hs8.out⟩
            have n3 : Nx wr S1 wb P s1 (nd + k + 1) nm w8 := Nx.from0 Hfw1.out (Nx.from0 Hf13.out (Nx.step Hf4.out Hs4.out (Nx.from0 Hf46.out (Nx.step Hf7.out Hs7'.out n8))))
            refine ⟨⟨k + 1, s1, by omega, rfl, Lib.hid ⟨Hrest.out, Nx.step Hf1.out Hss1.out n3, n3.beside Hr.out.sl fun q a b => ?_⟩⟩, ?_⟩
            · rcases Hss1.out q a with e | e
              · exact Hd.out q e b
              · have := HT.out q b; omega
            · show n - ((k : Int) + 1).toNat < n - ((k : Int)).toNat
              omega
    · have hint : ¬ (k : Int) < n := by omega
      have hkn : k = n := by omega
      go_wp2_with fail
      go_end0
      have := hr.out.rest
      rw [List.drop_of_length_le (by rw [Hn.out]; omega)] at this
      simp only [WS.wake, Option.some.injEq] at this
      subst this
      subst hkn
      exact ⟨rfl, hr.out.nx⟩
/-- What of an instruction on its way stays. -/
structure Ax where
  wb : Nat
  id : Int
  o : Int
  a : Int
  b : Int
  c : Int
  cv : Value
  d : Bool
  u : Nat → Int
  draw : Int
def actL (x : Ax) (r : Nat → Int) (how : Int) (pk : Bool) : List Value := [ptV x.wb, inV x.id, inV x.o, inV x.a, inV x.b, inV x.c, x.cv, .bool x.d, inV (x.u 0), inV (x.u 1), inV (x.u 2), inV (x.u 3), inV (x.u 4), inV (x.u 5), inV (x.u 6), inV (x.u 7), inV (r 0), inV (r 1), inV (r 2), inV (r 3), inV (r 4), inV (r 5), inV (r 6), inV (r 7), inV x.draw, inV how, .bool pk]
def ActAt (w : World) (ab : Nat) (x : Ax) (r : Nat → Int) (how : Int) (pk : Bool) : Prop := w.heap[ab]? = some (.cells (actL x r how pk).toArray 144 (0, 0))
section
variable {w : World} {ab : Nat} {x : Ax} {r : Nat → Int} {how : Int} {pk : Bool} (h : ActAt w ab x r how pk)
include h
theorem ActAt.lt : ab < w.heap.size := lt_of_block h
theorem ActAt.fr {w' : World} {T : Nat → Prop} (hf : Fr T w w') (hT : ¬ T ab) : ActAt w' ab x r how pk := hf.blk hT h
theorem xc0 : w.cell? ⟨ab, 0, none⟩ = some (ptV x.wb) := blk_cell h 0 rfl
theorem xc1 : w.cell? ⟨ab, 1, none⟩ = some (inV x.id) := blk_cell h 1 rfl
theorem xc2 : w.cell? ⟨ab, 2, none⟩ = some (inV x.o) := blk_cell h 2 rfl
theorem xc3 : w.cell? ⟨ab, 3, none⟩ = some (inV x.a) := blk_cell h 3 rfl
theorem xc4 : w.cell? ⟨ab, 4, none⟩ = some (inV x.b) := blk_cell h 4 rfl
theorem xc5 : w.cell? ⟨ab, 5, none⟩ = some (inV x.c) := blk_cell h 5 rfl
theorem xc6 : w.cell? ⟨ab, 6, none⟩ = some (x.cv) := blk_cell h 6 rfl
theorem xc7 : w.cell? ⟨ab, 7, none⟩ = some (.bool x.d) := blk_cell h 7 rfl
theorem xc8 : w.cell? ⟨ab, 8, none⟩ = some (inV (x.u 0)) := blk_cell h 8 rfl
theorem xc9 : w.cell? ⟨ab, 9, none⟩ = some (inV (x.u 1)) := blk_cell h 9 rfl
theorem xc10 : w.cell? ⟨ab, 10, none⟩ = some (inV (x.u 2)) := blk_cell h 10 rfl
theorem xc11 : w.cell? ⟨ab, 11, none⟩ = some (inV (x.u 3)) := blk_cell h 11 rfl
theorem xc12 : w.cell? ⟨ab, 12, none⟩ = some (inV (x.u 4)) := blk_cell h 12 rfl
theorem xc13 : w.cell? ⟨ab, 13, none⟩ = some (inV (x.u 5)) := blk_cell h 13 rfl
theorem xc14 : w.cell? ⟨ab, 14, none⟩ = some (inV (x.u 6)) := blk_cell h 14 rfl
theorem xc15 : w.cell? ⟨ab, 15, none⟩ = some (inV (x.u 7)) := blk_cell h 15 rfl
theorem xc16 : w.cell? ⟨ab, 16, none⟩ = some (inV (r 0)) := blk_cell h 16 rfl
theorem xc17 : w.cell? ⟨ab, 17, none⟩ = some (inV (r 1)) := blk_cell h 17 rfl
theorem xc18 : w.cell? ⟨ab, 18, none⟩ = some (inV (r 2)) := blk_cell h 18 rfl
theorem xc19 : w.cell? ⟨ab, 19, none⟩ = some (inV (r 3)) := blk_cell h 19 rfl
theorem xc20 : w.cell? ⟨ab, 20, none⟩ = some (inV (r 4)) := blk_cell h 20 rfl
theorem xc21 : w.cell? ⟨ab, 21, none⟩ = some (inV (r 5)) := blk_cell h 21 rfl
theorem xc22 : w.cell? ⟨ab, 22, none⟩ = some (inV (r 6)) := blk_cell h 22 rfl
theorem xc23 : w.cell? ⟨ab, 23, none⟩ = some (inV (r 7)) := blk_cell h 23 rfl
theorem xc25 : w.cell? ⟨ab, 25, none⟩ = some (inV how) := blk_cell h 25 rfl
theorem xc26 : w.cell? ⟨ab, 26, none⟩ = some (.bool pk) := blk_cell h 26 rfl
theorem xcU (y : Nat) (hy : y < 8) : w.cell? ⟨ab, 8 + y, none⟩ = some (inV (x.u y)) := by
  have : y = 0 ∨ y = 1 ∨ y = 2 ∨ y = 3 ∨ y = 4 ∨ y = 5 ∨ y = 6 ∨ y = 7 := by omega
  rcases this with rfl | rfl | rfl | rfl | rfl | rfl | rfl | rfl
  · exact xc8 h
  · exact xc9 h
  · exact xc10 h
  · exact xc11 h
  · exact xc12 h
  · exact xc13 h
  · exact xc14 h
  · exact xc15 h
theorem xp0 (v : Int) : ActAt (w.setCell ⟨ab, 16, none⟩ (inV v)) ab x (updR r 0 v) how pk := blk_set h 16 (inV v)
theorem xp1 (v : Int) : ActAt (w.setCell ⟨ab, 17, none⟩ (inV v)) ab x (updR r 1 v) how pk := blk_set h 17 (inV v)
theorem xp2 (v : Int) : ActAt (w.setCell ⟨ab, 18, none⟩ (inV v)) ab x (updR r 2 v) how pk := blk_set h 18 (inV v)
theorem xp3 (v : Int) : ActAt (w.setCell ⟨ab, 19, none⟩ (inV v)) ab x (updR r 3 v) how pk := blk_set h 19 (inV v)
theorem xp4 (v : Int) : ActAt (w.setCell ⟨ab, 20, none⟩ (inV v)) ab x (updR r 4 v) how pk := blk_set h 20 (inV v)
theorem xp5 (v : Int) : ActAt (w.setCell ⟨ab, 21, none⟩ (inV v)) ab x (updR r 5 v) how pk := blk_set h 21 (inV v)
theorem xp6 (v : Int) : ActAt (w.setCell ⟨ab, 22, none⟩ (inV v)) ab x (updR r 6 v) how pk := blk_set h 22 (inV v)
theorem xp7 (v : Int) : ActAt (w.setCell ⟨ab, 23, none⟩ (inV v)) ab x (updR r 7 v) how pk := blk_set h 23 (inV v)
theorem xpR (y : Nat) (hy : y < 8) (v : Int) : ActAt (w.setCell ⟨ab, 16 + y, none⟩ (inV v)) ab x (updR r y v) how pk := by
  have : y = 0 ∨ y = 1 ∨ y = 2 ∨ y = 3 ∨ y = 4 ∨ y = 5 ∨ y = 6 ∨ y = 7 := by omega
  rcases this with rfl | rfl | rfl | rfl | rfl | rfl | rfl | rfl
  · exact xp0 h v
  · exact xp1 h v
  · exact xp2 h v
  · exact xp3 h v
  · exact xp4 h v
  · exact xp5 h v
  · exact xp6 h v
  · exact xp7 h v
theorem xpP (v : Bool) : ActAt (w.setCell ⟨ab, 26, none⟩ (.bool v)) ab x r how v := blk_set h 26 (.bool v)
end
section
variable {w : World} {ab : Nat} {x : Ax} {r : Nat → Int} {how : Int} {pk : Bool} (h : ActAt w ab x r how pk)
include h
theorem act_a (A : Nat) (hA : A < 8) (e : x.a = (A : Int)) : Calls Tryz.prog 93 #[ptV ab] w fun e w' => e = .returned (inV (x.u A)) ∧ Fr Nob w w' := by
  have k0 := xc3 h
  rw [e] at k0
  have k1 := xcU h A hA
  have hAi : (A : Int) < 8 := by omega
  have H := Lib.hid h
  clear h
  go_enter Tryz.func93, Tryz.ntmps93
  go_wp2_with fail
  go_quiet (fail)
  go_wp2_with fail
  go_ret
  exact ⟨rfl, (Fr.refl _ _).drewN _⟩
theorem act_b (A : Nat) (hA : A < 8) (e : x.b = (A : Int)) : Calls Tryz.prog 94 #[ptV ab] w fun e w' => e = .returned (inV (x.u A)) ∧ Fr Nob w w' := by
  have k0 := xc4 h
  rw [e] at k0
  have k1 := xcU h A hA
  have hAi : (A : Int) < 8 := by omega
  have H := Lib.hid h
  clear h
  go_enter Tryz.func94, Tryz.ntmps94
  go_wp2_with fail
  go_quiet (fail)
  go_wp2_with fail
  go_ret
  exact ⟨rfl, (Fr.refl _ _).drewN _⟩
omit h in
theorem act_bad : Calls Tryz.prog 95 #[ptV ab, inV 0] w fun e w' => e = .returned (.bool false) ∧ w = w' := by
  go_enter Tryz.func95, Tryz.ntmps95
  go_wp2_with fail
  go_ret
  exact ⟨rfl, rfl⟩
end
end Go.Proofs.YtcffplgimbbflaaGreat
