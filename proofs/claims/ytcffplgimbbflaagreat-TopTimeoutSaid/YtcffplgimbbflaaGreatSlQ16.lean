/- Who waits on a channel, from outside; what two laws need. -/
import Derived.Test.YtcffplgimbbflaaGreatSlQ15
set_option linter.unusedVariables false
set_option linter.unusedSimpArgs false
namespace Go.Proofs.YtcffplgimbbflaaGreat
open Go.RowKit
set_option maxRecDepth 100000
def tkK (Z : Option Addr) (zn zc : Nat) (t : Nat → Int) (d : Bool) : List Value := tkC (.slice Z zn zc) t d
theorem tkK_len (Z : Option Addr) (zn zc : Nat) (t : Nat → Int) (d : Bool) : (tkK Z zn zc t d).length = 18 := rfl
theorem tkK_one (Z : Option Addr) (zn zc : Nat) (t : Nat → Int) (d : Bool) : ∀ v ∈ tkK Z zn zc t d, v.oneCell' = true := by
  intro v hv
  unfold tkK tkC at hv
  simp only [List.mem_cons, List.not_mem_nil, or_false] at hv
  rcases hv with rfl | rfl | rfl | rfl | rfl | rfl | rfl | rfl | rfl | rfl | rfl | rfl | rfl | rfl | rfl | rfl | rfl | rfl <;> rfl
theorem tkK_all (Z : Option Addr) (zn zc : Nat) (t : Nat → Int) (d : Bool) : (tkK Z zn zc t d).toArray.all (·.oneCell') = true := all_oneCell_toArray (tkK_one Z zn zc t d)
theorem tkK_size (Z : Option Addr) (zn zc : Nat) (t : Nat → Int) (d : Bool) : (tkK Z zn zc t d).toArray.size = 18 := rfl
theorem info18K (Z : Option Addr) (zn zc : Nat) (t : Nat → Int) (d : Bool) : (Tryz.prog.info? 98).map (fun i => i.size) = some (tkK Z zn zc t d).toArray.size := by rw [tkK_size]; exact info_task18
section
variable {w : World} {b : Nat} {Z : Option Addr} {zn zc : Nat} {t : Nat → Int} {d : Bool} (h : w.heap[b]? = some (.cells (tkK Z zn zc t d).toArray 98 (0, 0)))
include h
theorem kp1 (x : Int) : (w.setCell ⟨b, 1, none⟩ (.int .i64 x)).heap[b]? = some (.cells (tkK Z zn zc (updT t 1 x) d).toArray 98 (0, 0)) := blk_set h 1 _
theorem kp2 (x : Int) : (w.setCell ⟨b, 2, none⟩ (.int .i64 x)).heap[b]? = some (.cells (tkK Z zn zc (updT t 2 x) d).toArray 98 (0, 0)) := blk_set h 2 _
theorem kp4 (x : Int) : (w.setCell ⟨b, 4, none⟩ (.int .i64 x)).heap[b]? = some (.cells (tkK Z zn zc (updT t 4 x) d).toArray 98 (0, 0)) := blk_set h 4 _
theorem kp5 (x : Int) : (w.setCell ⟨b, 5, none⟩ (.int .i64 x)).heap[b]? = some (.cells (tkK Z zn zc (updT t 5 x) d).toArray 98 (0, 0)) := blk_set h 5 _
theorem kp6 (x : Int) : (w.setCell ⟨b, 6, none⟩ (.int .i64 x)).heap[b]? = some (.cells (tkK Z zn zc (updT t 6 x) d).toArray 98 (0, 0)) := blk_set h 6 _
theorem kp7 (x : Int) : (w.setCell ⟨b, 7, none⟩ (.int .i64 x)).heap[b]? = some (.cells (tkK Z zn zc (updT t 7 x) d).toArray 98 (0, 0)) := blk_set h 7 _
theorem kp8 (x : Int) : (w.setCell ⟨b, 8, none⟩ (.int .i64 x)).heap[b]? = some (.cells (tkK Z zn zc (updT t 8 x) d).toArray 98 (0, 0)) := blk_set h 8 _
theorem kp9 (x : Int) : (w.setCell ⟨b, 9, none⟩ (.int .i64 x)).heap[b]? = some (.cells (tkK Z zn zc (updT t 9 x) d).toArray 98 (0, 0)) := blk_set h 9 _
theorem kp10 (x : Int) : (w.setCell ⟨b, 10, none⟩ (.int .i64 x)).heap[b]? = some (.cells (tkK Z zn zc (updT t 10 x) d).toArray 98 (0, 0)) := blk_set h 10 _
theorem kp11 (x : Int) : (w.setCell ⟨b, 11, none⟩ (.int .i64 x)).heap[b]? = some (.cells (tkK Z zn zc (updT t 11 x) d).toArray 98 (0, 0)) := blk_set h 11 _
theorem kp12 (x : Int) : (w.setCell ⟨b, 12, none⟩ (.int .i64 x)).heap[b]? = some (.cells (tkK Z zn zc (updT t 12 x) d).toArray 98 (0, 0)) := blk_set h 12 _
theorem kp13 (x : Int) : (w.setCell ⟨b, 13, none⟩ (.int .i64 x)).heap[b]? = some (.cells (tkK Z zn zc (updT t 13 x) d).toArray 98 (0, 0)) := blk_set h 13 _
theorem kp14 (x : Int) : (w.setCell ⟨b, 14, none⟩ (.int .i64 x)).heap[b]? = some (.cells (tkK Z zn zc (updT t 14 x) d).toArray 98 (0, 0)) := blk_set h 14 _
theorem kp15 (x : Int) : (w.setCell ⟨b, 15, none⟩ (.int .i64 x)).heap[b]? = some (.cells (tkK Z zn zc (updT t 15 x) d).toArray 98 (0, 0)) := blk_set h 15 _
theorem kp16 : (w.setCell ⟨b, 16, none⟩ (.slice none 0 0)).heap[b]? = some (.cells (tkD t d).toArray 98 (0, 0)) := blk_set h 16 _
theorem kp16s (Y : Option Addr) (yn yc : Nat) : (w.setCell ⟨b, 16, none⟩ (.slice Y yn yc)).heap[b]? = some (.cells (tkK Y yn yc t d).toArray 98 (0, 0)) := blk_set h 16 _
theorem kp17 (x : Bool) : (w.setCell ⟨b, 17, none⟩ (.bool x)).heap[b]? = some (.cells (tkK Z zn zc t x).toArray 98 (0, 0)) := blk_set h 17 _
theorem kc1 : w.cell? ⟨b, 1, none⟩ = some (.int .i64 (t 1)) := blk_cell h 1 rfl
theorem kc2 : w.cell? ⟨b, 2, none⟩ = some (.int .i64 (t 2)) := blk_cell h 2 rfl
theorem kc4 : w.cell? ⟨b, 4, none⟩ = some (.int .i64 (t 4)) := blk_cell h 4 rfl
theorem kc5 : w.cell? ⟨b, 5, none⟩ = some (.int .i64 (t 5)) := blk_cell h 5 rfl
theorem kc6 : w.cell? ⟨b, 6, none⟩ = some (.int .i64 (t 6)) := blk_cell h 6 rfl
theorem kc7 : w.cell? ⟨b, 7, none⟩ = some (.int .i64 (t 7)) := blk_cell h 7 rfl
theorem kc8 : w.cell? ⟨b, 8, none⟩ = some (.int .i64 (t 8)) := blk_cell h 8 rfl
theorem kc9 : w.cell? ⟨b, 9, none⟩ = some (.int .i64 (t 9)) := blk_cell h 9 rfl
theorem kc10 : w.cell? ⟨b, 10, none⟩ = some (.int .i64 (t 10)) := blk_cell h 10 rfl
theorem kc11 : w.cell? ⟨b, 11, none⟩ = some (.int .i64 (t 11)) := blk_cell h 11 rfl
theorem kc12 : w.cell? ⟨b, 12, none⟩ = some (.int .i64 (t 12)) := blk_cell h 12 rfl
theorem kc13 : w.cell? ⟨b, 13, none⟩ = some (.int .i64 (t 13)) := blk_cell h 13 rfl
theorem kc14 : w.cell? ⟨b, 14, none⟩ = some (.int .i64 (t 14)) := blk_cell h 14 rfl
theorem kc15 : w.cell? ⟨b, 15, none⟩ = some (.int .i64 (t 15)) := blk_cell h 15 rfl
theorem kc16 : w.cell? ⟨b, 16, none⟩ = some (.slice Z zn zc) := blk_cell h 16 rfl
theorem kc17 : w.cell? ⟨b, 17, none⟩ = some (.bool d) := blk_cell h 17 rfl
theorem kf (o : Nat) : w.frozen? ⟨b, o, none⟩ = false := blk_froz h o
theorem kcR (y : Nat) (hy : y < 8) : w.cell? ⟨b, 4 + y, none⟩ = some (.int .i64 (t (4 + y))) := by
  have : y = 0 ∨ y = 1 ∨ y = 2 ∨ y = 3 ∨ y = 4 ∨ y = 5 ∨ y = 6 ∨ y = 7 := by omega
  rcases this with rfl | rfl | rfl | rfl | rfl | rfl | rfl | rfl
  · exact kc4 h
  · exact kc5 h
  · exact kc6 h
  · exact kc7 h
  · exact kc8 h
  · exact kc9 h
  · exact kc10 h
  · exact kc11 h
theorem kpR (y : Nat) (hy : y < 8) (x : Int) : (w.setCell ⟨b, 4 + y, none⟩ (.int .i64 x)).heap[b]? = some (.cells (tkK Z zn zc (updT t (4 + y) x) d).toArray 98 (0, 0)) := by
  have : y = 0 ∨ y = 1 ∨ y = 2 ∨ y = 3 ∨ y = 4 ∨ y = 5 ∨ y = 6 ∨ y = 7 := by omega
  rcases this with rfl | rfl | rfl | rfl | rfl | rfl | rfl | rfl
  · exact kp4 h x
  · exact kp5 h x
  · exact kp6 h x
  · exact kp7 h x
  · exact kp8 h x
  · exact kp9 h x
  · exact kp10 h x
  · exact kp11 h x
end
set_option maxHeartbeats 1000000 in
theorem arena_getL (w : World) (S : Nat → Prop) (b most n : Nat) (cs : List Value) (i : Nat) (L : List Value) (hL : L.length = 18) (hone : L.toArray.all (·.oneCell') = true) (h : ArenaAt 161 98 18 w S b most n cs) (hi : i < n) (hx : ∀ j, j < 18 → cs[i * 18 + j]? = L[j]?) :
    Calls Tryz.prog 83 #[.pointer (some ⟨b, 0, none⟩), .int .i64 (i : Int)] w fun e w' => e = .returned (.tuple #[.agg L.toArray, .bool true]) ∧ Fr Nob w w' := by
  have hl := fun w' (hf : Fr Nob w w') => arena_len w' S b most n cs (h.fr hf fun _ _ q => q)
  have Hl := Lib.hid hl
  obtain ⟨v, hS, hb, hs, hn, hm⟩ := h
  obtain ⟨g, off, c, rfl, _, hg, hc1, hc2, hc, _⟩ := hs.form (by omega)
  have hr : ∀ W, Fr Nob w W → W.rangeAt g (off + i * 18) L := fun W hW j u hj => by
    have hj18 : j < 18 := by have := (List.getElem?_eq_some_iff.1 hj).1; rwa [hL] at this
    rw [Nat.add_assoc]
    exact hW.cell (p := ⟨g, off + (i * 18 + j), none⟩) id (hc _ _ ((hx j hj18).trans hj))
  unfold maxLen at hc2
  have h0 : ¬ (i : Int) < 0 := by omega
  have h1 : ¬ (n : Int) ≤ i := by omega
  have Hb := Lib.hid hb; have Hr := Lib.hid hr
  have Hone := Lib.hid hone
  have Hlen := Lib.hid hL
  clear hl hb hs hc hx hr hL hone
  go_enter Tryz.func83, Tryz.ntmps83
  go_wp2_with fail
  obtain ⟨w1, hw1⟩ : ∃ w1, w1 = w.alloc (.cells tkZ.toArray 98) := ⟨_, rfl⟩
  have hw1' := hw1
  unfold tkZ at hw1'
  dsimp only [tkL] at hw1'
  rw [← hw1']
  clear hw1'
  obtain ⟨rb, hrb⟩ : ∃ rb, rb = w.heap.size := ⟨_, rfl⟩
  rw [← hrb]
  have hf1 : Fr Nob w w1 := by rw [hw1]; exact (Fr.refl Nob w).alloc _
  have hb1 : w1.heap[rb]? = some (.cells tkZ.toArray 98 (0, 0)) := by rw [hw1, hrb]; exact heap_alloc_new _ _
  have Hz1 : Hid (w.heap.size = rb) := hrb.symm
  clear hw1 hrb
  refine (Hl.out _ hf1).mono ?_
  rintro e wx ⟨rfl, hwx⟩
  obtain rfl : w1 = wx := hwx
  have c0 := blk_cell (hf1.blk id Hb.out) 0 rfl
  have Hf1 := Lib.hid hf1; have Hb1 := Lib.hid hb1
  clear hf1 hb1
  go_wp2_with (first | (refine wpList_load_mid rfl 98 (.tmp 21) rfl g (off + i * 18) rfl L _ (Hr.out w1 Hf1.out) Tryz.underlying98 rfl (by rw [info_task18, Hlen.out]) ?_) | (refine wpList_store_mid rfl 98 (.tmp 4) (.tmp 22) rfl rb 0 L.toArray rfl rfl (thereRow Hb1.out _ (by rw [List.size_toArray, Hlen.out]; exact Nat.le_refl _)) (by rw [info_task18, List.size_toArray, Hlen.out]) Hone.out ?_))
  have hb2 := setRow w1 rb L.toArray tkZ.toArray 98 Hb1.out (by rw [List.size_toArray, List.size_toArray, Hlen.out]; rfl)
  have hf2 : Fr (fun k => k = rb) w1 (w1.setCells rb 0 L) := setCells_fr rb L 0 w1
  refine bodyPost_ret (res_row2 Tryz.results83 _ _ rb 98 L.toArray (0, 0) _ (.bool true) rfl rfl hb2 Tryz.underlying98 rfl (by rw [info_task18, List.size_toArray, Hlen.out])) rfl ⟨rfl, Hf1.out.trans hf2 fun k hk e => by have := Hz1.out; omega⟩
set_option maxHeartbeats 2000000 in
theorem task_getC {w : World} {S : Nat → Prop} {b : Nat} {ts : List Tk} {line : List Int} (h : TableAt w S b ts line) (i : Nat) (t : Nat → Int) (d : Bool) {Z : Option Addr} {zc : Nat} (cs : List ICs) (zn : Nat) (hzn : cs.length = zn) (hz16 : zn ≤ 1000000) (hi : ts[i]? = some (t, d, .slice Z zn zc)) (hrd : Rd w 3 (.slice Z zn zc) zn (cs.flatMap icsEn)) :
    Calls Tryz.prog 56 #[.pointer (some ⟨b, 0, none⟩), .int .i64 (i : Int)] w fun e w' => ∃ (Y : Option Addr) (yc : Nat), e = .returned (.tuple #[.agg (tkK Y zn yc t d).toArray, .bool true]) ∧ Fr Nob w w' ∧ Sl w' (fun k => w.heap.size ≤ k ∧ k < w'.heap.size) 27 3 (.slice Y zn yc) zn (cs.flatMap icsEn) := by
  obtain ⟨ab, lb, SA, SL, h⟩ := h
  have hg := fun W (hW : Fr Nob w W) => arena_getL W SA ab 64 ts.length (rowsT ts) i (tkK Z zn zc t d) (tkK_len _ _ _ _ _) (tkK_all _ _ _ _ _) (h.fr0 hW).arena (List.getElem?_eq_some_iff.1 hi).1 (fun j hj => rowsT_get ts i (t, d, .slice Z zn zc) hi j hj)
  have hb := h.blk
  have Hg := Lib.hid hg; have Hb := Lib.hid hb; have Hcl := Lib.hid (fun W (hW : Fr Nob w W) => clone_ics W (.slice Z zn zc) (cs.flatMap icsEn) zn hz16 (hrd.fr hW) (ics_one cs))
  clear hg h hb hi hrd
  go_enter Tryz.func56, Tryz.ntmps56
  have c00 := ((Fr.refl Nob w).alloc (.cells tkZ.toArray 98)).cell id (blk_cell Hb.out 0 rfl)
  unfold tkZ at c00
  dsimp only [tkL] at c00
  go_wp2_with fail
  obtain ⟨w1, hw1⟩ : ∃ w1, w1 = w.alloc (.cells tkZ.toArray 98) := ⟨_, rfl⟩
  have hw1' := hw1
  unfold tkZ at hw1'
  dsimp only [tkL] at hw1'
  rw [← hw1']
  clear hw1' c00
  obtain ⟨rb, hrb⟩ : ∃ rb, rb = w.heap.size := ⟨_, rfl⟩
  rw [← hrb]
  have hf1 : Fr Nob w w1 := by rw [hw1]; exact (Fr.refl Nob w).alloc _
  have hb1 : w1.heap[rb]? = some (.cells tkZ.toArray 98 (0, 0)) := by rw [hw1, hrb]; exact heap_alloc_new _ _
  have Hz1 : Hid (w.heap.size = rb ∧ rb < w1.heap.size) := ⟨hrb.symm, lt_of_block hb1⟩
  have Hf1 := Lib.hid hf1; have Hb1 := Lib.hid hb1
  clear hw1 hrb hf1 hb1
  refine (Hg.out w1 Hf1.out).mono ?_
  rintro e w2 ⟨rfl, hf2⟩
  have Hb2 := Lib.hid (hf2.blk id Hb1.out); have Hf2 := Lib.hid (Hf1.out.trans0 hf2); have Hz2 := Lib.hid hf2.size
  clear hf2
  have hzn : (w2.alloc (.cells tkZ.toArray 98)).heap[w2.heap.size]? = some (.cells tkZ.toArray 98 (0, 0)) := heap_alloc_new _ _
  unfold tkZ at hzn
  dsimp only [tkL] at hzn
  go_wp2_with (refine wpList_store_row _ rfl 98 (.tmp 6) (.tmp 18) rfl w2.heap.size (tkK Z zn zc t d).toArray _ 98 rfl rfl hzn rfl (info18K Z zn zc t d) (tkK_all Z zn zc t d) ?_; intro w3 hb3 hf3; have c16 : w3.cell? ⟨w2.heap.size, 16, none⟩ = some (.slice Z zn zc) := blk_cell hb3 16 rfl; have f16 := blk_froz hb3 16; have Hb3 := Lib.hid hb3; have Hf3 := Lib.hid hf3; clear hb3 hf3)
  obtain ⟨tb, htb⟩ : ∃ tb, tb = w2.heap.size := ⟨_, rfl⟩
  rw [← htb] at Hb3 Hf3 c16 f16 ⊢
  have Htb : Hid (w2.heap.size = tb) := htb.symm
  have hf23 : Fr Nob w2 w3 := ((Fr.refl Nob w2).alloc _).trans Hf3.out fun k hk e => by have := Htb.out; omega
  have hrt : rb ≠ tb := by have := Htb.out; have := Hz1.out; have := Hz2.out; omega
  refine (Hcl.out w3 (Hf2.out.trans0 hf23)).mono ?_
  rintro e w4 ⟨v4, rfl, hf4, hs4⟩
  obtain ⟨Y, yc, rfl⟩ := hs4.slice
  have hb3' := hf4.blk (fun q => q) Hb3.out
  have c16' : w4.cell? ⟨tb, 16, none⟩ = some (.slice Z zn zc) := blk_cell hb3' 16 rfl
  have f16' := blk_froz hb3' 16
  have hb4 : (w4.setCell ⟨tb, 16, none⟩ (.slice Y zn yc)).heap[tb]? = some (.cells (tkK Y zn yc t d).toArray 98 (0, 0)) := kp16s hb3' _ _ _
  have hr4 : (w4.setCell ⟨tb, 16, none⟩ (.slice Y zn yc)).heap[rb]? = some (.cells tkZ.toArray 98 (0, 0)) := (blk_set_ne 16 _ hrt).trans (hf4.blk (fun q => q) (hf23.blk id Hb2.out))
  have hz4 := hf4.size
  have hz3 := hf23.size
  have Hs4 := Lib.hid (hs4.fr (((Fr.refl (fun k => k = tb) w4)).setT 16 (.slice Y zn yc)) fun k q e => by have := q.1; have := lt_of_block Hb3.out; omega)
  have Hb4 := Lib.hid hb4; have Hr4 := Lib.hid hr4; have Hf23 := Lib.hid (hf23.trans0 hf4); have Hrt := Lib.hid hrt
  have Hz4 : Hid (w2.heap.size ≤ w3.heap.size ∧ w3.heap.size ≤ w4.heap.size) := ⟨hz3, hz4⟩
  clear hb4 hr4 hf23 hrt htb hs4 hf4 hb3' c16 f16 hz4 hz3
  go_wp2_with (first | (refine wpList_load_row rfl 98 (.tmp 6) rfl tb rfl 98 (tkK Y zn yc t d).toArray (0, 0) _ Hb4.out Tryz.underlying98 rfl (info18K Y zn yc t d) ?_) | (refine wpList_store_row _ rfl 98 (.tmp 4) (.tmp 26) rfl rb (tkK Y zn yc t d).toArray _ 98 rfl rfl Hr4.out rfl (info18K Y zn yc t d) (tkK_all Y zn yc t d) ?_; intro w5 hb5 hf5; have Hb5 := Lib.hid hb5; have Hf5 := Lib.hid hf5; clear hb5 hf5))
  have e1 : Fr Nob w2 (w4.setCell ⟨tb, 16, none⟩ (.slice Y zn yc)) := Hf23.out.trans (((Fr.refl (fun k => k = tb) w4)).setT 16 _) fun k hk e => by have := Htb.out; omega
  have g1 := Hz1.out; have g2 := Hz2.out; have g3 := Hz4.out; have g5 := Hf5.out.size
  refine bodyPost_ret (res_row2 Tryz.results56 _ _ rb 98 (tkK Y zn yc t d).toArray (0, 0) _ (.bool true) rfl rfl Hb5.out Tryz.underlying98 rfl (info18K Y zn yc t d)) rfl ⟨Y, yc, rfl, ?_, ?_⟩
  · exact (Hf2.out.trans0 e1).trans Hf5.out fun k hk e => by have := Hz1.out; omega
  · refine (Hs4.out.fr Hf5.out fun k q e => by omega).mono fun k hk q => ⟨by omega, hk⟩
set_option maxHeartbeats 2000000 in
theorem is_wakesC {w : World} {S : Nat → Prop} {b : Nat} {ts : List Tk} {line : List Int} (h : TableAt w S b ts line) (i : Nat) (t : Nat → Int) (d : Bool) {Z : Option Addr} {zc : Nat} (cs : List ICs) (zn : Nat) (hzn : cs.length = zn) (hz16 : zn ≤ 1000000) (hi : ts[i]? = some (t, d, .slice Z zn zc)) (hrd : Rd w 3 (.slice Z zn zc) zn (cs.flatMap icsEn)) (hF : ∀ W, Calls Tryz.prog 166 #[.int .i64 (t 2)] W fun e w' => e = .returned (.bool true) ∧ W = w') :
    Calls Tryz.prog 98 #[.pointer (some ⟨b, 0, none⟩), .int .i64 (i : Int), .func (.func 166) #[] #[]] w fun e w' => ∃ (Y : Option Addr) (yc : Nat), e = .returned (.tuple #[.agg (tkK Y zn yc t d).toArray, .int .i64 0]) ∧ Fr Nob w w' ∧ Sl w' (fun k => w.heap.size ≤ k ∧ k < w'.heap.size) 27 3 (.slice Y zn yc) zn (cs.flatMap icsEn) := by
  have hg := fun W (hW : Fr Nob w W) => task_getC (w := W) (S := S) (b := b) (ts := ts) (line := line) (by obtain ⟨ab, lb, SA, SL, h⟩ := h; exact ⟨ab, lb, SA, SL, h.fr0 hW⟩) i t d cs zn hzn hz16 hi (hrd.fr hW)
  have Hg := Lib.hid hg; have HF := Lib.hid hF
  clear hg h hi hF hrd
  go_enter Tryz.func98, Tryz.ntmps98
  go_wp2_with fail
  obtain ⟨w1, hw1⟩ : ∃ w1, w1 = w.alloc (.cells tkZ.toArray 98) := ⟨_, rfl⟩
  have hw1' := hw1
  unfold tkZ at hw1'
  dsimp only [tkL] at hw1'
  rw [← hw1']
  clear hw1'
  obtain ⟨rb, hrb⟩ : ∃ rb, rb = w.heap.size := ⟨_, rfl⟩
  rw [← hrb]
  have hf1 : Fr Nob w w1 := by rw [hw1]; exact (Fr.refl Nob w).alloc _
  have hb1 : w1.heap[rb]? = some (.cells tkZ.toArray 98 (0, 0)) := by rw [hw1, hrb]; exact heap_alloc_new _ _
  have Hz1 : Hid (w.heap.size = rb ∧ rb < w1.heap.size) := ⟨hrb.symm, lt_of_block hb1⟩
  have Hf1 := Lib.hid hf1; have Hb1 := Lib.hid hb1
  clear hw1 hrb hf1 hb1
  refine (Hg.out w1 Hf1.out).mono ?_
  rintro e w2 ⟨Y, yc, rfl, hf2, hs2⟩
  have Hb2 := Lib.hid (hf2.blk id Hb1.out); have Hf2 := Lib.hid (Hf1.out.trans0 hf2); have Hz2 := Lib.hid hf2.size; have Hs2 := Lib.hid hs2
  clear hf2 hs2
  have hzn : (w2.alloc (.cells tkZ.toArray 98)).heap[w2.heap.size]? = some (.cells tkZ.toArray 98 (0, 0)) := heap_alloc_new _ _
  unfold tkZ at hzn
  dsimp only [tkL] at hzn
  go_wp2_with (refine wpList_store_row _ rfl 98 (.tmp 8) (.tmp 14) rfl w2.heap.size (tkK Y zn yc t d).toArray _ 98 rfl rfl hzn rfl (info18K Y zn yc t d) (tkK_all Y zn yc t d) ?_; intro w3 hb3 hf3; have c2 : w3.cell? ⟨w2.heap.size, 2, none⟩ = some (.int .i64 (t 2)) := blk_cell hb3 2 rfl; have Hb3 := Lib.hid hb3; have Hf3 := Lib.hid hf3; clear hb3 hf3)
  clear hzn
  obtain ⟨tb, htb⟩ : ∃ tb, tb = w2.heap.size := ⟨_, rfl⟩
  rw [← htb] at Hb3 Hf3 c2 ⊢
  have Htb : Hid (w2.heap.size = tb) := htb.symm
  have hf23 : Fr Nob w2 w3 := ((Fr.refl Nob w2).alloc _).trans Hf3.out fun k hk e => by have := Htb.out; omega
  have Hr3 := Lib.hid (hf23.blk id Hb2.out)
  have Hf23 := Lib.hid hf23
  clear hf23 htb
  refine (HF.out w3).mono ?_
  rintro e _ ⟨rfl, rfl⟩
  clear c2
  go_wp2_with (first | (refine wpList_load_row rfl 98 (.tmp 8) rfl tb rfl 98 (tkK Y zn yc t d).toArray (0, 0) _ Hb3.out Tryz.underlying98 rfl (info18K Y zn yc t d) ?_) | (refine wpList_store_row _ rfl 98 (.tmp 6) (.tmp 27) rfl rb (tkK Y zn yc t d).toArray _ 98 rfl rfl Hr3.out rfl (info18K Y zn yc t d) (tkK_all Y zn yc t d) ?_; intro w5 hb5 hf5; have Hb5 := Lib.hid hb5; have Hf5 := Lib.hid hf5; clear hb5 hf5))
  have g1 := Hz1.out; have g2 := Hz2.out; have g3 := Hf23.out.size; have g5 := Hf5.out.size; have g4 := Htb.out
  refine bodyPost_ret (res_row2 Tryz.results98 _ _ rb 98 (tkK Y zn yc t d).toArray (0, 0) _ (.int .i64 0) rfl rfl Hb5.out Tryz.underlying98 rfl (info18K Y zn yc t d)) rfl ⟨Y, yc, rfl, ?_, ?_⟩
  · exact (Hf2.out.trans0 Hf23.out).trans Hf5.out fun k hk e => by omega
  · exact ((Hs2.out.fr Hf23.out fun _ _ q => q).fr Hf5.out fun k q e => by have := q.1; omega).mono fun k hk q => ⟨by have := q.1; omega, hk⟩
set_option maxHeartbeats 2000000 in
theorem told_gotK (w : World) (Z : Option Addr) (zn zc : Nat) (tb : Nat) (t : Nat → Int) (d : Bool) (hb : w.heap[tb]? = some (.cells (tkK Z zn zc t d).toArray 98 (0, 0))) (h12 : t 12 = 11) (B C : Nat) (hB : B < 8) (hC : C < 8) (h14 : t 14 = B) (h15 : t 15 = C) (x k v : Int) (ok pn : Bool) :
    Calls Tryz.prog 167 #[.pointer (some ⟨tb, 0, none⟩), .agg #[.int .i64 x, .int .i64 k, .int .i64 v, .bool ok, .bool pn]] w fun e w' => e = .returned (.tuple #[]) ∧ Fr (fun q => q = tb) w w' ∧ w'.heap[tb]? = some (.cells (tkK Z zn zc (gotT t B C v ok) d).toArray 98 (0, 0)) := by
  have hbl := lt_of_block hb
  have c12 := kc12 hb; have c13 := kc13 hb; have c14 := kc14 hb; have c15 := kc15 hb; have c16 := kc16 hb; have c17 := kc17 hb
  rw [h12] at c12; rw [h14] at c14; rw [h15] at c15
  have Hb := Lib.hid hb
  generalize t 13 = t13 at *
  have key : ∀ W, Fr Nob w W → W.cell? ⟨tb, 12, none⟩ = some (.int .i64 11) ∧ W.cell? ⟨tb, 13, none⟩ = some (.int .i64 t13) ∧ W.cell? ⟨tb, 14, none⟩ = some (.int .i64 (B : Int)) ∧ W.cell? ⟨tb, 15, none⟩ = some (.int .i64 (C : Int)) ∧ W.cell? ⟨tb, 16, none⟩ = some (.slice Z zn zc) ∧ W.cell? ⟨tb, 17, none⟩ = some (.bool d) := fun W hW => ⟨hW.cell id c12, hW.cell id c13, hW.cell id c14, hW.cell id c15, hW.cell id c16, hW.cell id c17⟩
  obtain ⟨e12, e13, e14, e15, e16, e17⟩ := key _ ((Fr.refl Nob w).alloc (.cells #[.int .i64 x, .int .i64 k, .int .i64 v, .bool ok, .bool pn] 225))
  have hBi : (B : Int) < 8 := by omega
  have hCi : (C : Int) < 8 := by omega
  clear hb key c12 c13 c14 c15 c16 c17 h12 h14 h15
  go_enter Tryz.func167, Tryz.ntmps167
  go_wp2_with fail
  obtain ⟨w2, hw2⟩ : ∃ w2, w2 = (w.alloc (.cells #[.int .i64 x, .int .i64 k, .int .i64 v, .bool ok, .bool pn] 225)).alloc (.cells #[.int .i64 11, .int .i64 t13, .int .i64 (B : Int), .int .i64 (C : Int), .slice Z zn zc, .bool d] 25) := ⟨_, rfl⟩
  rw [← hw2]
  have hf2 : Fr Nob w w2 := by rw [hw2]; exact ((Fr.refl Nob w).alloc _).alloc _
  have hk2 : w2.heap[w.heap.size]? = some (.cells #[.int .i64 x, .int .i64 k, .int .i64 v, .bool ok, .bool pn] 225 (0, 0)) := by rw [hw2]; exact ((Fr.refl Nob _).alloc _).blk id (heap_alloc_new w _)
  have hi2 : w2.heap[w.heap.size + 1]? = some (.cells #[.int .i64 11, .int .i64 t13, .int .i64 (B : Int), .int .i64 (C : Int), .slice Z zn zc, .bool d] 25 (0, 0)) := by rw [hw2]; exact blk_alloc_eq _ (by simp)
  have Hf2 := Lib.hid hf2; have Hk2 := Lib.hid hk2; have Hi2 := Lib.hid hi2
  have hb2 := hf2.blk id Hb.out
  have Hb2 := Lib.hid hb2
  clear hw2 hf2 hk2 hi2 e12 e13 e14 e15 e16 e17
  have k2 := blk_cell Hk2.out 2 rfl
  have i2 := blk_cell Hi2.out 2 rfl
  have i3 := blk_cell Hi2.out 3 rfl
  have cB := kcR hb2 B hB
  have fB := kf hb2 (4 + B)
  have cC := kcR hb2 C hC
  have fC := kf hb2 (4 + C)
  have cC2 := kcR (kpR hb2 B hB v) C hC
  have fC2 := kf (kpR hb2 B hB v) (4 + C)
  have cB2 := kcR (kpR hb2 C hC 0) B hB
  have fB2 := kf (kpR hb2 C hC 0) (4 + B)
  clear hb2
  go_region
  all_goals (
    obtain ⟨w3, hw3⟩ : ∃ w3, w3 = ((w2.setCell ⟨tb, 4 + B, none⟩ (.int .i64 v)).setCell ⟨tb, 4 + C, none⟩ (.int .i64 0)).drew := ⟨_, rfl⟩
    rw [← hw3]
    have hf3 : Fr (fun q => q = tb) w2 w3 := by rw [hw3]; exact (((Fr.refl (fun q => q = tb) w2).setT (4 + B) _).setT (4 + C) _).drew
    have hb3 : w3.heap[tb]? = some (.cells (tkK Z zn zc (updT (updT t (4 + B) v) (4 + C) 0) d).toArray 98 (0, 0)) := by rw [hw3, blk_drew]; exact kpR (kpR Hb2.out B hB _) C hC _
    have hk3 := hf3.blk (k := w.heap.size) (by omega) Hk2.out
    have hi3 := hf3.blk (k := w.heap.size + 1) (by omega) Hi2.out
    have Hb3 := Lib.hid hb3
    have d6 := kcR hb3 C hC
    have g6 := kf hb3 (4 + C)
    have j3 := blk_cell hi3 3 rfl
    have m3 := blk_cell hk3 3 rfl
    have Hf3 := Lib.hid hf3
    clear hw3 hf3 hk3 hi3 k2 i2 i3 cB fB cC fC cC2 fC2 cB2 fB2 hb3
    cases ok with
    | true =>
      go_wp2_with fail
      try go_region
      all_goals (
        obtain ⟨w4, hw4⟩ : ∃ w4, w4 = (w3.setCell ⟨tb, 4 + C, none⟩ (.int .i64 1)).drew := ⟨_, rfl⟩
        rw [← hw4]
        have Hf4 : Hid (Fr (fun q => q = tb) w3 w4) := Lib.hid (by rw [hw4]; exact ((Fr.refl (fun q => q = tb) w3).setT (4 + C) _).drew)
        have Hb4 : Hid (w4.heap[tb]? = some (.cells (tkK Z zn zc (updT (updT (updT t (4 + B) v) (4 + C) 0) (4 + C) 1) d).toArray 98 (0, 0))) := Lib.hid (by rw [hw4, blk_drew]; exact kpR Hb3.out C hC _)
        clear hw4 d6 g6 j3 m3
        go_wp2_with fail
        go_end0
        exact ⟨rfl, (Hf2.out.none.trans0 Hf3.out).trans0 Hf4.out, Hb4.out⟩)
    | false =>
      clear d6 g6 j3
      go_wp2_with fail
      all_goals (
        go_end0
        exact ⟨rfl, Hf2.out.none.trans0 Hf3.out, Hb3.out⟩))
set_option maxHeartbeats 2000000 in
theorem told_sentK (w : World) (Z : Option Addr) (zn zc : Nat) (tb : Nat) (t : Nat → Int) (d : Bool) (hb : w.heap[tb]? = some (.cells (tkK Z zn zc t d).toArray 98 (0, 0))) (h12 : t 12 = 10) (x k v : Int) (ok pn : Bool) :
    Calls Tryz.prog 167 #[.pointer (some ⟨tb, 0, none⟩), .agg #[.int .i64 x, .int .i64 k, .int .i64 v, .bool ok, .bool pn]] w fun e w' => e = .returned (.tuple #[]) ∧ Fr (fun q => q = tb) w w' ∧ w'.heap[tb]? = some (.cells (tkK Z zn zc t d).toArray 98 (0, 0)) := by
  have c12 := kc12 hb; have c13 := kc13 hb; have c14 := kc14 hb; have c15 := kc15 hb; have c16 := kc16 hb; have c17 := kc17 hb
  rw [h12] at c12
  have Hb := Lib.hid hb
  have key : ∀ W, Fr Nob w W → W.cell? ⟨tb, 12, none⟩ = some (.int .i64 10) ∧ W.cell? ⟨tb, 13, none⟩ = some (.int .i64 (t 13)) ∧ W.cell? ⟨tb, 14, none⟩ = some (.int .i64 (t 14)) ∧ W.cell? ⟨tb, 15, none⟩ = some (.int .i64 (t 15)) ∧ W.cell? ⟨tb, 16, none⟩ = some (.slice Z zn zc) ∧ W.cell? ⟨tb, 17, none⟩ = some (.bool d) := fun W hW => ⟨hW.cell id c12, hW.cell id c13, hW.cell id c14, hW.cell id c15, hW.cell id c16, hW.cell id c17⟩
  obtain ⟨e12, e13, e14, e15, e16, e17⟩ := key _ ((Fr.refl Nob w).alloc (.cells #[.int .i64 x, .int .i64 k, .int .i64 v, .bool ok, .bool pn] 225))
  clear hb key c12 c13 c14 c15 c16 c17 h12
  go_enter Tryz.func167, Tryz.ntmps167
  go_wp2_with fail
  go_end0
  have hf : Fr Nob w _ := ((Fr.refl Nob w).alloc (.cells #[.int .i64 x, .int .i64 k, .int .i64 v, .bool ok, .bool pn] 225)).alloc (.cells #[.int .i64 10, .int .i64 (t 13), .int .i64 (t 14), .int .i64 (t 15), .slice Z zn zc, .bool d] 25)
  exact ⟨rfl, hf.none, hf.blk id Hb.out⟩
theorem recv_in (w : World) (op a b c : Int) (Z : Option Addr) (zn zc : Nat) (d : Bool) (cs : List ICs) (hrd : Rd w 3 (.slice Z zn zc) zn (cs.flatMap icsEn)) (k : Nat) (z : ICs) (hz : cs[k]? = some z) (hk : k < zn) :
    Calls Tryz.prog 197 #[.agg #[.int .i64 op, .int .i64 a, .int .i64 b, .int .i64 c, .slice Z zn zc, .bool d], .int .i64 (k : Int)] w fun e w' => e = .returned (.bool (!z.1)) ∧ Fr Nob w w' := by
  obtain ⟨_, hmax, Z', zc', hv, hc1, hc2, hA⟩ := hrd
  injection hv with e1 e2 e3
  subst e1; subst e3
  obtain ⟨g, off, rfl, hgl, hc⟩ := hA (by omega)
  have q0 := ((Fr.refl Nob w).alloc (.cells #[.int .i64 op, .int .i64 a, .int .i64 b, .int .i64 c, .slice (some ⟨g, off, none⟩) zn zc, .bool d] 25)).cell (p := ⟨g, off + (k * 3 + 0), none⟩) (fun q => q) (hc _ _ ((csGet cs k 0 z hz (by omega)).trans rfl))
  rw [Nat.add_zero] at q0
  have hki : (k : Int) < zn := by omega
  have hk0 : (0 : Int) ≤ (k : Int) := by omega
  clear hA hc hz
  go_enter Tryz.func197, Tryz.ntmps197
  go_wp2_with fail
  go_ret
  exact ⟨rfl, (Fr.refl Nob w).alloc _⟩
/-- What a select is told of its case. -/
def selT (t : Nat → Int) (z : ICs) (A B C : Nat) (k v : Int) (ok : Bool) : Nat → Int := if z.1 then updT t (4 + A) k else gotT (updT t (4 + A) k) B C v ok
set_option maxHeartbeats 4000000 in
theorem told_sel (w : World) (Z : Option Addr) (zn zc : Nat) (tb : Nat) (t : Nat → Int) (d : Bool) (hb : w.heap[tb]? = some (.cells (tkK Z zn zc t d).toArray 98 (0, 0))) (h12 : t 12 = 15) (A B C : Nat) (hA : A < 8) (hB : B < 8) (hC : C < 8) (h13 : t 13 = A) (h14 : t 14 = B) (h15 : t 15 = C) (cs : List ICs) (hrd : Rd w 3 (.slice Z zn zc) zn (cs.flatMap icsEn)) (x : Int) (k : Nat) (z : ICs) (hz : cs[k]? = some z) (hk : k < zn) (hgt : ∀ g off, Z = some ⟨g, off, none⟩ → g ≠ tb) (v : Int) (ok pn : Bool) :
    Calls Tryz.prog 167 #[.pointer (some ⟨tb, 0, none⟩), .agg #[.int .i64 x, .int .i64 (k : Int), .int .i64 v, .bool ok, .bool pn]] w fun e w' => e = .returned (.tuple #[]) ∧ Fr (fun q => q = tb) w w' ∧ w'.heap[tb]? = some (.cells (tkK Z zn zc (selT t z A B C k v ok) d).toArray 98 (0, 0)) := by
  have hbl := lt_of_block hb
  have c12 := kc12 hb; have c13 := kc13 hb; have c14 := kc14 hb; have c15 := kc15 hb; have c16 := kc16 hb; have c17 := kc17 hb
  rw [h12] at c12; rw [h13] at c13; rw [h14] at c14; rw [h15] at c15
  have Hb := Lib.hid hb
  have HR := Lib.hid (fun W (hW : Fr (fun q => q = tb) w W) => recv_in W 15 (A : Int) (B : Int) (C : Int) Z zn zc d cs (by
    obtain ⟨a1, a2, Z', zc', hv, a3, a4, hA'⟩ := hrd
    injection hv with e1 e2 e3
    subst e1; subst e3
    exact ⟨a1, a2, _, _, rfl, a3, a4, fun h0 => by obtain ⟨g, off, rfl, hg, hc⟩ := hA' h0; exact ⟨g, off, rfl, by have := hW.size; omega, fun j u hj => hW.cell (p := ⟨g, off + j, none⟩) (hgt g off rfl) (hc j u hj)⟩⟩) k z hz hk)
  have key : ∀ W, Fr Nob w W → W.cell? ⟨tb, 12, none⟩ = some (.int .i64 15) ∧ W.cell? ⟨tb, 13, none⟩ = some (.int .i64 (A : Int)) ∧ W.cell? ⟨tb, 14, none⟩ = some (.int .i64 (B : Int)) ∧ W.cell? ⟨tb, 15, none⟩ = some (.int .i64 (C : Int)) ∧ W.cell? ⟨tb, 16, none⟩ = some (.slice Z zn zc) ∧ W.cell? ⟨tb, 17, none⟩ = some (.bool d) := fun W hW => ⟨hW.cell id c12, hW.cell id c13, hW.cell id c14, hW.cell id c15, hW.cell id c16, hW.cell id c17⟩
  obtain ⟨e12, e13, e14, e15, e16, e17⟩ := key _ ((Fr.refl Nob w).alloc (.cells #[.int .i64 x, .int .i64 (k : Int), .int .i64 v, .bool ok, .bool pn] 225))
  have hAi : (A : Int) < 8 := by omega
  have hBi : (B : Int) < 8 := by omega
  have hCi : (C : Int) < 8 := by omega
  clear hb key c12 c13 c14 c15 c16 c17 h12 h13 h14 h15 hrd hz hgt
  go_enter Tryz.func167, Tryz.ntmps167
  go_wp2_with fail
  obtain ⟨w2, hw2⟩ : ∃ w2, w2 = (w.alloc (.cells #[.int .i64 x, .int .i64 (k : Int), .int .i64 v, .bool ok, .bool pn] 225)).alloc (.cells #[.int .i64 15, .int .i64 (A : Int), .int .i64 (B : Int), .int .i64 (C : Int), .slice Z zn zc, .bool d] 25) := ⟨_, rfl⟩
  rw [← hw2]
  have hf2 : Fr Nob w w2 := by rw [hw2]; exact ((Fr.refl Nob w).alloc _).alloc _
  have hk2 : w2.heap[w.heap.size]? = some (.cells #[.int .i64 x, .int .i64 (k : Int), .int .i64 v, .bool ok, .bool pn] 225 (0, 0)) := by rw [hw2]; exact ((Fr.refl Nob _).alloc _).blk id (heap_alloc_new w _)
  have hi2 : w2.heap[w.heap.size + 1]? = some (.cells #[.int .i64 15, .int .i64 (A : Int), .int .i64 (B : Int), .int .i64 (C : Int), .slice Z zn zc, .bool d] 25 (0, 0)) := by rw [hw2]; exact blk_alloc_eq _ (by simp)
  have hb2 := hf2.blk id Hb.out
  have Hb2 := Lib.hid hb2
  obtain ⟨pb, hpb⟩ : ∃ pb, pb = w.heap.size := ⟨_, rfl⟩
  obtain ⟨ib, hib⟩ : ∃ ib, ib = w.heap.size + 1 := ⟨_, rfl⟩
  rw [← hpb] at hk2
  rw [← hib] at hi2
  try rw [← hib]
  try rw [← hpb]
  have Hf2 := Lib.hid hf2; have Hk2 := Lib.hid hk2; have Hi2 := Lib.hid hi2
  have Hpb : Hid (tb < pb ∧ tb < ib) := ⟨by omega, by omega⟩
  clear hw2 hf2 hk2 hi2 e12 e13 e14 e15 e16 e17 hpb hib
  have k1 := blk_cell Hk2.out 1 rfl
  have i1 := blk_cell Hi2.out 1 rfl
  have cA := kcR hb2 A hA
  have fA := kf hb2 (4 + A)
  clear hb2
  go_region
  all_goals (
    obtain ⟨w3, hw3⟩ : ∃ w3, w3 = (w2.setCell ⟨tb, 4 + A, none⟩ (.int .i64 (k : Int))).drew := ⟨_, rfl⟩
    rw [← hw3]
    have hf3 : Fr (fun q => q = tb) w2 w3 := by rw [hw3]; exact ((Fr.refl (fun q => q = tb) w2).setT (4 + A) _).drew
    have hb3 : w3.heap[tb]? = some (.cells (tkK Z zn zc (updT t (4 + A) k) d).toArray 98 (0, 0)) := by rw [hw3, blk_drew]; exact kpR Hb2.out A hA _
    have hk3 := hf3.blk (k := pb) (by have := Hpb.out.1; omega) Hk2.out
    have hi3 := hf3.blk (k := ib) (by have := Hpb.out.2; omega) Hi2.out
    have Hb3 := Lib.hid hb3; have Hf3 := Lib.hid (Hf2.out.none.trans0 hf3 : Fr (fun q => q = tb) w w3); have Hk3 := Lib.hid hk3; have Hi3 := Lib.hid hi3
    have j0 := blk_cell hi3 0 rfl; have j1 := blk_cell hi3 1 rfl; have j2 := blk_cell hi3 2 rfl; have j3 := blk_cell hi3 3 rfl; have j4 := blk_cell hi3 4 rfl; have j5 := blk_cell hi3 5 rfl
    have m1 := blk_cell hk3 1 rfl
    clear hw3 hf3 hb3 hk3 hi3 k1 i1 cA fA
    go_wp2_with fail
    refine (HR.out w3 Hf3.out).mono ?_
    rintro e w4 ⟨rfl, hf4⟩
    have hb4 := hf4.blk (fun q => q) Hb3.out
    have Hf4 := Lib.hid (Hf3.out.trans hf4 fun _ _ q => q.elim : Fr (fun q => q = tb) w w4); have Hb4 := Lib.hid hb4
    have hk4 := hf4.blk (fun q => q) Hk3.out; have hi4 := hf4.blk (fun q => q) Hi3.out
    have Hk4 := Lib.hid hk4; have Hi4 := Lib.hid hi4
    obtain ⟨zs, z2⟩ := z
    clear j0 j1 j2 j3 j4 j5 m1 hf4
    cases zs with
    | true =>
      clear hk4 hi4 hb4
      go_wp2_with fail
      first
        | go_end0
        | skip
      refine bodyPost_ret (results_none Tryz.results167 _ _ _) rfl ⟨rfl, Hf4.out, Hb4.out⟩
    | false =>
      have k2 := blk_cell hk4 2 rfl
      have i2 := blk_cell hi4 2 rfl
      have i3 := blk_cell hi4 3 rfl
      have cB := kcR hb4 B hB
      have fB := kf hb4 (4 + B)
      have cC := kcR hb4 C hC
      have fC := kf hb4 (4 + C)
      have cC2 := kcR (kpR hb4 B hB v) C hC
      have fC2 := kf (kpR hb4 B hB v) (4 + C)
      have cB2 := kcR (kpR hb4 C hC 0) B hB
      have fB2 := kf (kpR hb4 C hC 0) (4 + B)
      clear hb4 hk4 hi4
      go_wp2_with fail
      go_region
      all_goals (
        obtain ⟨w5, hw5⟩ : ∃ w5, w5 = ((w4.setCell ⟨tb, 4 + B, none⟩ (.int .i64 v)).setCell ⟨tb, 4 + C, none⟩ (.int .i64 0)).drew := ⟨_, rfl⟩
        rw [← hw5]
        have hf5 : Fr (fun q => q = tb) w4 w5 := by rw [hw5]; exact (((Fr.refl (fun q => q = tb) w4).setT (4 + B) _).setT (4 + C) _).drew
        have hb5 : w5.heap[tb]? = some (.cells (tkK Z zn zc (updT (updT (updT t (4 + A) k) (4 + B) v) (4 + C) 0) d).toArray 98 (0, 0)) := by rw [hw5, blk_drew]; exact kpR (kpR Hb4.out B hB _) C hC _
        have hk5 := hf5.blk (k := pb) (by have := Hpb.out.1; omega) Hk4.out
        have hi5 := hf5.blk (k := ib) (by have := Hpb.out.2; omega) Hi4.out
        have Hb5 := Lib.hid hb5
        have d6 := kcR hb5 C hC
        have g6 := kf hb5 (4 + C)
        have n3 := blk_cell hi5 3 rfl
        have m3 := blk_cell hk5 3 rfl
        have Hf5 := Lib.hid hf5
        clear hw5 hf5 hk5 hi5 k2 i2 i3 cB fB cC fC cC2 fC2 cB2 fB2 hb5
        cases ok with
        | true =>
          go_wp2_with fail
          try go_region
          all_goals (
            obtain ⟨w6, hw6⟩ : ∃ w6, w6 = (w5.setCell ⟨tb, 4 + C, none⟩ (.int .i64 1)).drew := ⟨_, rfl⟩
            rw [← hw6]
            have Hf6 : Hid (Fr (fun q => q = tb) w5 w6) := Lib.hid (by rw [hw6]; exact ((Fr.refl (fun q => q = tb) w5).setT (4 + C) _).drew)
            have Hb6 : Hid (w6.heap[tb]? = some (.cells (tkK Z zn zc (updT (updT (updT (updT t (4 + A) k) (4 + B) v) (4 + C) 0) (4 + C) 1) d).toArray 98 (0, 0))) := Lib.hid (by rw [hw6, blk_drew]; exact kpR Hb5.out C hC _)
            clear hw6 d6 g6 n3 m3
            go_wp2_with fail
            go_end0
            exact ⟨rfl, (Hf4.out.trans0 Hf5.out).trans0 Hf6.out, Hb6.out⟩)
        | false =>
          clear d6 g6 n3
          go_wp2_with fail
          all_goals (
            go_end0
            exact ⟨rfl, Hf4.out.trans0 Hf5.out, Hb5.out⟩)))
/-- What told does of a wake, of a task with cases. -/
def ToldC (t : Nat → Int) (d : Bool) (cs : List ICs) (zn : Nat) (i k v : Int) (ok : Bool) (t' : Nat → Int) : Prop := ∀ W (tb : Nat) (Z : Option Addr) (zc : Nat), W.heap[tb]? = some (.cells (tkK Z zn zc t d).toArray 98 (0, 0)) → Rd W 3 (.slice Z zn zc) zn (cs.flatMap icsEn) → (∀ g off, Z = some ⟨g, off, none⟩ → g ≠ tb) → Calls Tryz.prog 167 #[.pointer (some ⟨tb, 0, none⟩), .agg #[.int .i64 i, .int .i64 k, .int .i64 v, .bool ok, .bool false]] W fun e w' => e = .returned (.tuple #[]) ∧ Fr (fun q => q = tb) W w' ∧ w'.heap[tb]? = some (.cells (tkK Z zn zc t' d).toArray 98 (0, 0))
section
variable {w : World} {S : Nat → Prop} {b : Nat} {ts : List Tk} {line : List Int} (h : TableAt w S b ts line) (i : Nat) (t : Nat → Int) (d : Bool) {Z0 : Option Addr} {zc0 : Nat} (cs : List ICs) (zn : Nat) (hzn : cs.length = zn) (hz16 : zn ≤ 1000000) (hi : ts[i]? = some (t, d, .slice Z0 zn zc0)) (hrd : Rd w 3 (.slice Z0 zn zc0) zn (cs.flatMap icsEn)) (k v : Int) (ok : Bool)
include h hzn hz16 hi hrd
set_option maxHeartbeats 2000000 in
theorem wake_okC (h2 : (t 2 == 1) = true) (t' : Nat → Int) (ht : ToldC t d cs zn i k v ok t') (hpc : IntKind.i64.wrap (t' 1 + 1) = t' 1 + 1) (hline : (i : Int) ∉ line) (hll : line.length < 100000) :
    Calls Tryz.prog 124 #[.pointer (some ⟨b, 0, none⟩), .agg #[.int .i64 (i : Int), .int .i64 k, .int .i64 v, .bool ok, .bool false]] w fun e w' => ∃ S' : Nat → Prop, e = .returned (.int .i64 0) ∧ Fr S w w' ∧ TableAt w' S' b (ts.set i (wakeT t', false, .slice none 0 0)) (line ++ [(i : Int)]) ∧ ∀ k, S' k → S k ∨ w.heap.size ≤ k := by
  have His := Lib.hid (fun W (hW : Fr Nob w W) => is_wakesC (w := W) (S := S) (b := b) (ts := ts) (line := line) (by obtain ⟨ab, lb, SA, SL, h⟩ := h; exact ⟨ab, lb, SA, SL, h.fr0 hW⟩) i t d cs zn hzn hz16 hi (hrd.fr hW) (fun W => by have := so_wakes W (t 2); rw [h2] at this; exact this))
  obtain ⟨ab, lb, SA, SL, h⟩ := h
  have hlen := (List.getElem?_eq_some_iff.1 hi).1
  have hset := fun W S' SL' (hW : TabAt W S' b ab lb SA SL' ts (line ++ [(i : Int)])) => hW.set i hlen (wakeT t', false, .slice none 0 0) (tkD_one _ _)
  have hrdy : ∀ W SL' , ReadyAt W SL' lb line → Calls Tryz.prog 49 #[.pointer (some ⟨lb, 0, none⟩), .int .i64 (i : Int)] W fun e w' => e = .returned (.int .i64 0) ∧ Fr SL' W w' ∧ ReadyAt w' (And' SL' W w') lb (line ++ [(i : Int)]) := fun W SL' hr => ready_add W SL' lb line (i : Int) hr (by omega) hline hll
  have hb := h.blk
  have Hset := Lib.hid hset; have Hrd := Lib.hid hrdy; have Ht := Lib.hid ht; have Hb := Lib.hid hb; have H := Lib.hid h; have Hpc := Lib.hid hpc
  clear hset hrdy ht hb h hi h2 hline hll hlen hpc hrd
  go_enter Tryz.func124, Tryz.ntmps124
  go_wp2_with fail
  obtain ⟨w1, hw1⟩ : ∃ w1, w1 = w.alloc (.cells #[.int .i64 (i : Int), .int .i64 k, .int .i64 v, .bool ok, .bool false] 225) := ⟨_, rfl⟩
  rw [← hw1]
  obtain ⟨pb, hpb⟩ : ∃ pb, pb = w.heap.size := ⟨_, rfl⟩
  rw [← hpb]
  have hf1 : Fr Nob w w1 := by rw [hw1]; exact (Fr.refl Nob w).alloc _
  have hp1 : w1.heap[pb]? = some (.cells #[.int .i64 (i : Int), .int .i64 k, .int .i64 v, .bool ok, .bool false] 225 (0, 0)) := by rw [hw1, hpb]; exact heap_alloc_new _ _
  have Hpb : Hid (w.heap.size = pb) := hpb.symm
  clear hw1 hpb
  refine (His.out w1 hf1).mono ?_
  rintro e w2 ⟨Z, zc, rfl, hf2, hs2⟩
  have Hs2 := Lib.hid hs2
  clear hs2
  have hp2 := hf2.blk id hp1
  have Hp2 := Lib.hid hp2
  have Hf2 := Lib.hid (hf1.trans0 hf2)
  have hpz := lt_of_block hp2
  clear hf2 hp1 hf1 hp2
  have hzn : (w2.alloc (.cells tkZ.toArray 98)).heap[w2.heap.size]? = some (.cells tkZ.toArray 98 (0, 0)) := heap_alloc_new _ _
  unfold tkZ at hzn
  dsimp only [tkL] at hzn
  go_wp2_with (refine wpList_store_row _ rfl 98 (.tmp 5) (.tmp 12) rfl w2.heap.size (tkK Z zn zc t d).toArray _ 98 rfl rfl hzn rfl (info18K Z zn zc t d) (tkK_all Z zn zc t d) ?_; intro w3 hb3 hf3; have hp3 := hf3.blk (k := pb) (fun e => by omega) (((Fr.refl Nob w2).alloc _).blk id Hp2.out); have q0 := blk_cell hp3 0 rfl; have q1 := blk_cell hp3 1 rfl; have q2 := blk_cell hp3 2 rfl; have q3 := blk_cell hp3 3 rfl; have q4 := blk_cell hp3 4 rfl; have Hb3 := Lib.hid hb3; have Hf3 := Lib.hid hf3; have Hp3 := Lib.hid hp3; clear hb3 hf3 hp3)
  have hw23 : w2.heap.size ≤ w3.heap.size := by have := Hf3.out.size; simp at this; omega
  have hs3 := (Hs2.out.alloc (.cells tkZ.toArray 98)).fr Hf3.out (fun k q e => by have := q.2; omega)
  refine (Ht.out w3 _ Z zc Hb3.out hs3.rd (fun g off hZ e => by
    subst hZ
    rcases hs3.2 with ⟨h1, _⟩ | ⟨g2, o2, c2, bl, h1, hg, _⟩
    · cases h1
    · injection h1 with h1
      injection h1 with h1
      injection h1 with h1
      have := hg.2; omega)).mono ?_
  clear hs3 hw23
  rintro e w4 ⟨rfl, hf4, hb4⟩
  have hp4 := hf4.blk (k := pb) (fun e => by omega) Hp3.out
  have c1 := kc1 hb4
  have f1 := kf hb4 1
  have c2 := kc2 hb4
  have f2 := kf hb4 2
  have Hb4 := Lib.hid hb4; have Hf4 := Lib.hid hf4; have Hp4 := Lib.hid hp4
  have hpc := Hpc.out
  clear hb4 hf4 hp4 q0 q1 q2 q3 q4 hzn
  go_wp2_with fail
  obtain ⟨w5, hw5⟩ : ∃ w5, w5 = (w4.setCell ⟨w2.heap.size, 1, none⟩ (.int .i64 (t' 1 + 1))).setCell ⟨w2.heap.size, 2, none⟩ (.int .i64 0) := ⟨_, rfl⟩
  rw [← hw5]
  have hb5 : w5.heap[w2.heap.size]? = some (.cells (tkK Z zn zc (updT (updT t' 1 (t' 1 + 1)) 2 0) d).toArray 98 (0, 0)) := by rw [hw5]; exact kp2 (kp1 Hb4.out _) _
  have hf45 : Fr (fun k => k = w2.heap.size) w4 w5 := by rw [hw5]; exact ((Fr.refl (fun k => k = w2.heap.size) w4).setT 1 _).setT 2 _
  have hp5 := hf45.blk (k := pb) (by omega) Hp4.out
  have hf25 : Fr Nob w2 w5 := ((((Fr.refl Nob w2).alloc _).trans Hf3.out fun k hk e => by omega).trans Hf4.out fun k hk e => by omega).trans hf45 fun k hk e => by omega
  have hf5 := Hf2.out.trans0 hf25
  have HT5 := Lib.hid (H.out.fr0 hf5)
  have hns : ∀ k, S k → k ≠ w2.heap.size ∧ k ≠ pb := fun k q => by have := H.out.lt _ q; have := Hpb.out; have := Hf2.out.size; omega
  have Hns := Lib.hid hns
  have key : ∀ W, Fr SL w5 W → W.cell? ⟨b, 1, none⟩ = some (.pointer (some ⟨lb, 0, none⟩)) ∧ W.cell? ⟨pb, 0, none⟩ = some (.int .i64 (i : Int)) := fun W hW => ⟨blk_cell (hW.blk (fun q => (HT5.out.subL _ q).2.1 rfl) HT5.out.blk) 1 rfl, blk_cell (hW.blk (fun q => (hns _ (HT5.out.subL _ q).1).2 rfl) hp5) 0 rfl⟩
  have Key := Lib.hid key
  have Hf5 := Lib.hid hf5; have Hb5 := Lib.hid hb5; have Hp5 := Lib.hid hp5
  clear hw5 hb5 hf45 hp5 hf25 hf5 key c1 f1 c2 f2 hpc hns
  have hf0 : Fr SL w5 w5 := Fr.refl _ _
  go_region_held3 (fun W => W.cell? ⟨b, 1, none⟩ = some (.pointer (some ⟨lb, 0, none⟩)) ∧ W.cell? ⟨pb, 0, none⟩ = some (.int .i64 (i : Int)))
    ((refine Key.out _ ?_; first | with_reducible exact hf6 | with_reducible exact hf0 | exact hf0.drew))
    ((go_at_call 49; refine (Hrd.out w5.drew SL (HT5.out.ready.fr ((Fr.refl Nob w5).drew) fun _ _ q => q)).mono ?_; rintro e w6 ⟨rfl, hf6', hr6⟩; have hf6 : Fr SL w5 w6 := (hf0.drew).trans0 hf6'; have Hr6 := Lib.hid hr6; clear hr6))
  have HT6 := Lib.hid (TabAt.growL (H.out.fr0 (Hf5.out.drew)) hf6' Hr6.out)
  have hb6 := hf6.blk (k := w2.heap.size) (fun q => (Hns.out _ (HT5.out.subL _ q).1).1 rfl) Hb5.out
  have hp6 := hf6.blk (k := pb) (fun q => (Hns.out _ (HT5.out.subL _ q).1).2 rfl) Hp5.out
  have c12 := kc12 hb6; have f12 := kf hb6 12; have c13 := kc13 hb6; have f13 := kf hb6 13; have c14 := kc14 hb6; have f14 := kf hb6 14; have c15 := kc15 hb6; have f15 := kf hb6 15; have c16 := kc16 hb6; have f16 := kf hb6 16; have c17 := kc17 hb6; have f17 := kf hb6 17
  have Hb6 := Lib.hid hb6; have Hp6 := Lib.hid hp6; have Hf6 := Lib.hid hf6
  have Hz6 := Lib.hid hf6'.size
  clear hb6 hp6 hf6 hf6' hf0
  go_wp2_with fail
  obtain ⟨w7, hw7⟩ : ∃ w7, w7 = ((((((w6.setCell ⟨w2.heap.size, 12, none⟩ (.int .i64 0)).setCell ⟨w2.heap.size, 13, none⟩ (.int .i64 0)).setCell ⟨w2.heap.size, 14, none⟩ (.int .i64 0)).setCell ⟨w2.heap.size, 15, none⟩ (.int .i64 0)).setCell ⟨w2.heap.size, 16, none⟩ (.slice none 0 0)).setCell ⟨w2.heap.size, 17, none⟩ (.bool false)) := ⟨_, rfl⟩
  rw [← hw7]
  have hb7 : w7.heap[w2.heap.size]? = some (.cells (tkD (wakeT t') false).toArray 98 (0, 0)) := by rw [hw7]; exact tkp17 (kp16 (kp15 (kp14 (kp13 (kp12 Hb6.out _) _) _) _)) _
  have hf67 : Fr (fun k => k = w2.heap.size) w6 w7 := by rw [hw7]; exact ((((((Fr.refl (fun k => k = w2.heap.size) w6).setT 12 _).setT 13 _).setT 14 _).setT 15 _).setT 16 _).setT 17 _
  have hp7 := hf67.blk (k := pb) (by omega) Hp6.out
  have hz2 := Hf2.out.size; have hz5 := lt_of_block Hb5.out; have hpb := Hpb.out
  have HT7 := Lib.hid (HT6.out.fr hf67 (fun k q e => by rcases q with q | q; exact (Hns.out _ q).1 e; have := q.1; simp at this; omega))
  have HS0 : Hid (w7.rangeAt w2.heap.size 0 (tkD (wakeT t') false) ∧ w7.cell? ⟨b, 0, none⟩ = some (.pointer (some ⟨ab, 0, none⟩)) ∧ w7.cell? ⟨pb, 0, none⟩ = some (.int .i64 (i : Int))) := ⟨rangeRow hb7, blk_cell HT7.out.blk 0 rfl, blk_cell hp7 0 rfl⟩
  have Hf67 := Lib.hid hf67
  clear hw7 hb7 hf67 hp7 hz2 hz5 hpb c12 c13 c14 c15 c16 c17 f12 f13 f14 f15 f16 f17
  have hns : ¬ SA w2.heap.size := fun q => (Hns.out _ (H.out.subA _ q).1).1 rfl
  have hnp : ¬ SA pb := fun q => (Hns.out _ (H.out.subA _ q).1).2 rfl
  have hnb : ¬ SA b := fun q => (H.out.subA _ q).2 rfl
  have hu44 := Tryz.underlying98
  have hi44 : (Tryz.prog.info? 98).map (·.size) = some (tkD (wakeT t') false).length := info_task18
  refine wp_region_held_drew (S := fun W => W.rangeAt w2.heap.size 0 (tkD (wakeT t') false) ∧ W.cell? ⟨b, 0, none⟩ = some (.pointer (some ⟨ab, 0, none⟩)) ∧ W.cell? ⟨pb, 0, none⟩ = some (.int .i64 (i : Int))) (by kernel_rfl) (by simpa using HS0.out) (fun hHeld => ?_)
  refine wpAnyH_take (i := 0) (v := ?_) rfl (by kernel_rfl) (by kernel_rfl) (by kernel_rfl) (fun _ _ _ h => h) (Or.inl ⟨by rfl, ?_⟩) (by assumption) ?_
  rotate_left
  · intro w hSw; (try dsimp only at hSw); go_simp; try with_reducible rfl
  try simp only [List.getElem_toArray, List.getElem_cons_zero, List.getElem_cons_succ, Act.put, List.setIfInBounds_toArray, List.set_cons_zero, List.set_cons_succ]
  refine wpAnyH_take (i := 1) (v := ?_) rfl (by kernel_rfl) (by kernel_rfl) (by kernel_rfl) (fun _ _ _ h => h) (Or.inl ⟨by rfl, ?_⟩) (by assumption) ?_
  rotate_left
  · intro w hSw; (try dsimp only at hSw); go_simp; try with_reducible rfl
  try simp only [List.getElem_toArray, List.getElem_cons_zero, List.getElem_cons_succ, Act.put, List.setIfInBounds_toArray, List.set_cons_zero, List.set_cons_succ]
  refine wpAnyH_take (i := 2) (v := ?_) rfl (by kernel_rfl) (by kernel_rfl) (by kernel_rfl) (fun _ _ _ h => h) (Or.inl ⟨by rfl, ?_⟩) (by assumption) ?_
  rotate_left
  · intro w hSw; (try dsimp only at hSw); go_simp; try with_reducible rfl
  try simp only [List.getElem_toArray, List.getElem_cons_zero, List.getElem_cons_succ, Act.put, List.setIfInBounds_toArray, List.set_cons_zero, List.set_cons_succ]
  refine wpAnyH_take (i := 3) (v := ?_) rfl (by kernel_rfl) (by kernel_rfl) (by kernel_rfl) (fun _ _ _ h => h) (Or.inl ⟨by rfl, ?_⟩) (by assumption) ?_
  rotate_left
  · intro w hSw; (try dsimp only at hSw); go_simp; try with_reducible rfl
  try simp only [List.getElem_toArray, List.getElem_cons_zero, List.getElem_cons_succ, Act.put, List.setIfInBounds_toArray, List.set_cons_zero, List.set_cons_succ]
  refine wpAnyH_take (i := 4) (v := ?_) rfl (by kernel_rfl) (by kernel_rfl) (by kernel_rfl) (fun _ _ _ h => h) (Or.inl ⟨by rfl, ?_⟩) (by assumption) ?_
  rotate_left
  · intro w hSw; (try dsimp only at hSw); go_simp; try with_reducible rfl
  try simp only [List.getElem_toArray, List.getElem_cons_zero, List.getElem_cons_succ, Act.put, List.setIfInBounds_toArray, List.set_cons_zero, List.set_cons_succ]
  refine wpAnyH_take (i := 5) (v := ?_) rfl (by kernel_rfl) (by kernel_rfl) (by kernel_rfl) (fun _ _ _ h => h) (Or.inl ⟨by rfl, ?_⟩) (by assumption) ?_
  rotate_left
  · intro w hSw; (try dsimp only at hSw); go_simp; try with_reducible rfl
  try simp only [List.getElem_toArray, List.getElem_cons_zero, List.getElem_cons_succ, Act.put, List.setIfInBounds_toArray, List.set_cons_zero, List.set_cons_succ]
  refine wpAnyH_take (i := 6) (v := _) rfl (by kernel_rfl) (by kernel_rfl) (by kernel_rfl) (fun _ _ _ h => h) (yieldsIf_load_mid (by rfl) _ _ rfl (w2.heap.size) 0 rfl (tkD (wakeT t') false) _ (fun w hw => hw.1) hu44 rfl hi44) (by assumption) ?_
  try simp only [List.getElem_toArray, List.getElem_cons_zero, List.getElem_cons_succ, Act.put, List.setIfInBounds_toArray, List.set_cons_zero, List.set_cons_succ]
  refine wpAnyH_ready (rs := [7]) (by kernel_rfl) (by simp) ?_
  refine AllReadyH.cons rfl (fun K hK => ?_) AllReadyH.nil
  simp only [List.getElem_toArray, List.getElem_cons_zero, List.getElem_cons_succ]
  go_simp
  refine (Hset.out w7.drew _ _ (HT7.out.fr0 ((Fr.refl Nob w7).drew))).mono ?_
  rintro e w8 ⟨rfl, hf8, ht8⟩
  refine hK.out _ _ ⟨fun j v hj => hf8.cell (p := ⟨w2.heap.size, 0 + j, none⟩) hns (hHeld.1 j v hj), hf8.cell (p := ⟨b, 0, none⟩) hnb hHeld.2.1, hf8.cell (p := ⟨pb, 0, none⟩) hnp hHeld.2.2⟩ (fun hHeld2 => ?_)
  refine wpAnyH_done (by kernel_rfl) ?_ _
  try simp only [List.getElem_toArray, List.getElem_cons_zero, List.getElem_cons_succ, Act.put, List.setIfInBounds_toArray, List.set_cons_zero, List.set_cons_succ]
  have Hf8 := Lib.hid (show Fr SA w7 w8 from ((Fr.refl SA w7).drew).trans0 hf8); have Ht8 := Lib.hid ht8
  clear hf8 ht8 hHeld hHeld2 hK K
  go_wp2_with fail
  go_ret
  have hz5 := lt_of_block Hb5.out
  have hz2 := Hf2.out.size
  have e1 : Fr S w w6 := Hf5.out.none.trans Hf6.out fun k hk q => (H.out.subL k q).1
  refine ⟨_, rfl, ?_, ⟨ab, lb, _, _, Ht8.out⟩, fun k q => ?_⟩
  · exact (e1.trans Hf67.out fun k hk e => by omega).trans Hf8.out fun k hk q => (H.out.subA k q).1
  · rcases q with q | q
    · exact .inl q
    · have h1 : w5.drew.heap.size ≤ k := q.1; have h2 := ((Fr.refl Nob w5).drew).size; have h3 := Hf5.out.size; exact .inr (by omega)
end
end Go.Proofs.YtcffplgimbbflaaGreat
