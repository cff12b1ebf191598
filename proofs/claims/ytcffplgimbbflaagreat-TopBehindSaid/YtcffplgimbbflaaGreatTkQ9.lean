/- TopTickers answers true whatever its inputs are: no condition. -/
import Derived.Test.YtcffplgimbbflaaGreatTkQ8
set_option linter.unusedVariables false
set_option linter.unusedSimpArgs false
namespace Go.Proofs.YtcffplgimbbflaaGreat
open Go.RowKit
set_option maxRecDepth 100000
/-- A task that waits no more. -/
def wakeT (t : Nat → Int) : Nat → Int := updT (updT (updT (updT (updT (updT t 1 (t 1 + 1)) 2 0) 12 0) 13 0) 14 0) 15 0
/-- What told does of a wake. -/
def ToldP (t : Nat → Int) (d : Bool) (i k v : Int) (ok : Bool) (t' : Nat → Int) : Prop := ∀ W (tb : Nat), W.heap[tb]? = some (.cells (tkD t d).toArray 98 (0, 0)) → Calls Tryz.prog 167 #[.pointer (some ⟨tb, 0, none⟩), .agg #[.int .i64 i, .int .i64 k, .int .i64 v, .bool ok, .bool false]] W fun e w' => e = .returned (.tuple #[]) ∧ Fr (fun q => q = tb) W w' ∧ w'.heap[tb]? = some (.cells (tkD t' d).toArray 98 (0, 0))
section
variable {w : World} {S : Nat → Prop} {b : Nat} {ts : List Tk} {line : List Int} (h : TableAt w S b ts line) (i : Nat) (t : Nat → Int) (d : Bool) (hi : ts[i]? = some (t, d, .slice none 0 0)) (k v : Int) (ok : Bool)
include h hi
set_option maxHeartbeats 2000000 in
theorem wake_ok (h2 : (t 2 == 1) = true) (t' : Nat → Int) (ht : ToldP t d i k v ok t') (hpc : IntKind.i64.wrap (t' 1 + 1) = t' 1 + 1) (hline : (i : Int) ∉ line) (hll : line.length < 100000) :
    Calls Tryz.prog 124 #[.pointer (some ⟨b, 0, none⟩), .agg #[.int .i64 (i : Int), .int .i64 k, .int .i64 v, .bool ok, .bool false]] w fun e w' => ∃ S' : Nat → Prop, e = .returned (.int .i64 0) ∧ Fr S w w' ∧ TableAt w' S' b (ts.set i (wakeT t', false, .slice none 0 0)) (line ++ [(i : Int)]) ∧ ∀ k, S' k → S k ∨ w.heap.size ≤ k := by
  have His := Lib.hid (fun W (hW : Fr Nob w W) => is_wakes (w := W) (S := S) (b := b) (ts := ts) (line := line) (by obtain ⟨ab, lb, SA, SL, h⟩ := h; exact ⟨ab, lb, SA, SL, h.fr0 hW⟩) i t d hi true (fun W => by have := so_wakes W (t 2); rw [h2] at this; exact this) 0 rfl)
  obtain ⟨ab, lb, SA, SL, h⟩ := h
  have hlen := (List.getElem?_eq_some_iff.1 hi).1
  have hset := fun W S' SL' (hW : TabAt W S' b ab lb SA SL' ts (line ++ [(i : Int)])) => hW.set i hlen (wakeT t', false, .slice none 0 0) (tkD_one _ _)
  have hrd : ∀ W SL' , ReadyAt W SL' lb line → Calls Tryz.prog 49 #[.pointer (some ⟨lb, 0, none⟩), .int .i64 (i : Int)] W fun e w' => e = .returned (.int .i64 0) ∧ Fr SL' W w' ∧ ReadyAt w' (And' SL' W w') lb (line ++ [(i : Int)]) := fun W SL' hr => ready_add W SL' lb line (i : Int) hr (by omega) hline hll
  have hb := h.blk
  have Hset := Lib.hid hset; have Hrd := Lib.hid hrd; have Ht := Lib.hid ht; have Hb := Lib.hid hb; have H := Lib.hid h; have Hpc := Lib.hid hpc
  clear hset hrd ht hb h hi h2 hline hll hlen hpc
  go_enter Tryz.func124, Tryz.ntmps124
  go_wp2_with fail
  obtain ⟨w1, hw1⟩ : ∃ w1, w1 = w.alloc (.cells #[.int .i64 (i : Int), .int .i64 k, .int .i64 v, .bool ok, .bool false] 225) := ⟨_, rfl⟩
  rw [← hw1]
  obtain ⟨pb, hpb⟩ : ∃ pb, pb = w.heap.size := ⟨_, rfl⟩
  rw [← hpb]
  have hf1 : Fr Nob w w1 := by rw [hw1]; exact (Fr.refl Nob w).alloc _
  have hp1 : w1.heap[pb]? = some (.cells #[.int .i64 (i : Int), .int .i64 k, .int .i64 v, .bool ok, .bool false] 225 (0, 0)) := by rw [hw1, hpb]; exact heap_alloc_new _ _
  have Hpb : Hid (w.heap.size = pb) := hpb.symm
  clear hw1 hpb
  refine (His.out w1 hf1).mono ?_
  rintro e w2 ⟨rfl, hf2⟩
  have hp2 := hf2.blk id hp1
  have Hp2 := Lib.hid hp2
  have Hf2 := Lib.hid (hf1.trans0 hf2)
  have hpz := lt_of_block hp2
  clear hf2 hp1 hf1 hp2
  have hzn : (w2.alloc (.cells tkZ.toArray 98)).heap[w2.heap.size]? = some (.cells tkZ.toArray 98 (0, 0)) := heap_alloc_new _ _
  unfold tkZ at hzn
  dsimp only [tkL] at hzn
  go_wp2_with (refine wpList_store_row _ rfl 98 (.tmp 5) (.tmp 12) rfl w2.heap.size (tkD t d).toArray _ 98 rfl rfl hzn rfl (info18 t d) (tkD_all t d) ?_; intro w3 hb3 hf3; have hp3 := hf3.blk (k := pb) (fun e => by omega) (((Fr.refl Nob w2).alloc _).blk id Hp2.out); have q0 := blk_cell hp3 0 rfl; have q1 := blk_cell hp3 1 rfl; have q2 := blk_cell hp3 2 rfl; have q3 := blk_cell hp3 3 rfl; have q4 := blk_cell hp3 4 rfl; have Hb3 := Lib.hid hb3; have Hf3 := Lib.hid hf3; have Hp3 := Lib.hid hp3; clear hb3 hf3 hp3)
  refine (Ht.out w3 _ Hb3.out).mono ?_
  rintro e w4 ⟨rfl, hf4, hb4⟩
  have hp4 := hf4.blk (k := pb) (fun e => by omega) Hp3.out
  have c1 := tkc1 hb4
  have f1 := tkf hb4 1
  have c2 := tkc2 hb4
  have f2 := tkf hb4 2
  have Hb4 := Lib.hid hb4; have Hf4 := Lib.hid hf4; have Hp4 := Lib.hid hp4
  have hpc := Hpc.out
  clear hb4 hf4 hp4 q0 q1 q2 q3 q4 hzn
  go_wp2_with fail
  obtain ⟨w5, hw5⟩ : ∃ w5, w5 = (w4.setCell ⟨w2.heap.size, 1, none⟩ (.int .i64 (t' 1 + 1))).setCell ⟨w2.heap.size, 2, none⟩ (.int .i64 0) := ⟨_, rfl⟩
  rw [← hw5]
  have hb5 : w5.heap[w2.heap.size]? = some (.cells (tkD (updT (updT t' 1 (t' 1 + 1)) 2 0) d).toArray 98 (0, 0)) := by rw [hw5]; exact tkp2 (tkp1 Hb4.out _) _
  have hf45 : Fr (fun k => k = w2.heap.size) w4 w5 := by rw [hw5]; exact ((Fr.refl (fun k => k = w2.heap.size) w4).setT 1 _).setT 2 _
  have hp5 := hf45.blk (k := pb) (by omega) Hp4.out
  have hf25 : Fr Nob w2 w5 := ((((Fr.refl Nob w2).alloc _).trans Hf3.out fun k hk e => by omega).trans Hf4.out fun k hk e => by omega).trans hf45 fun k hk e => by omega
  have hf5 := Hf2.out.trans0 hf25
  have HT5 := Lib.hid (H.out.fr0 hf5)
  have hns : ∀ k, S k → k ≠ w2.heap.size ∧ k ≠ pb := fun k q => by have := H.out.lt _ q; have := Hpb.out; have := Hf2.out.size; omega
  have Hns := Lib.hid hns
  have key : ∀ W, Fr SL w5 W → W.cell? ⟨b, 1, none⟩ = some (.pointer (some ⟨lb, 0, none⟩)) ∧ W.cell? ⟨pb, 0, none⟩ = some (.int .i64 (i : Int)) := fun W hW => ⟨blk_cell (hW.blk (fun q => (HT5.out.subL _ q).2.1 rfl) HT5.out.blk) 1 rfl, blk_cell (hW.blk (fun q => (hns _ (HT5.out.subL _ q).1).2 rfl) hp5) 0 rfl⟩
  have Key := Lib.hid key
  have Hf5 := Lib.hid hf5; have Hb5 := Lib.hid hb5; have Hp5 := Lib.hid hp5
  clear hw5 hb5 hf45 hp5 hf25 hf5 key c1 f1 c2 f2 hpc hns
  have hf0 : Fr SL w5 w5 := Fr.refl _ _
  go_region_held3 (fun W => W.cell? ⟨b, 1, none⟩ = some (.pointer (some ⟨lb, 0, none⟩)) ∧ W.cell? ⟨pb, 0, none⟩ = some (.int .i64 (i : Int)))
    ((refine Key.out _ ?_; first | with_reducible exact hf6 | with_reducible exact hf0 | exact hf0.drew))
    ((go_at_call 49; refine (Hrd.out w5.drew SL (HT5.out.ready.fr ((Fr.refl Nob w5).drew) fun _ _ q => q)).mono ?_; rintro e w6 ⟨rfl, hf6', hr6⟩; have hf6 : Fr SL w5 w6 := (hf0.drew).trans0 hf6'; have Hr6 := Lib.hid hr6; clear hr6))
  have HT6 := Lib.hid (TabAt.growL (H.out.fr0 (Hf5.out.drew)) hf6' Hr6.out)
  have hb6 := hf6.blk (k := w2.heap.size) (fun q => (Hns.out _ (HT5.out.subL _ q).1).1 rfl) Hb5.out
  have hp6 := hf6.blk (k := pb) (fun q => (Hns.out _ (HT5.out.subL _ q).1).2 rfl) Hp5.out
  have c12 := tkc12 hb6; have f12 := tkf hb6 12; have c13 := tkc13 hb6; have f13 := tkf hb6 13; have c14 := tkc14 hb6; have f14 := tkf hb6 14; have c15 := tkc15 hb6; have f15 := tkf hb6 15; have c16 := tkc16 hb6; have f16 := tkf hb6 16; have c17 := tkc17 hb6; have f17 := tkf hb6 17
  have Hb6 := Lib.hid hb6; have Hp6 := Lib.hid hp6; have Hf6 := Lib.hid hf6
  have Hz6 := Lib.hid hf6'.size
  clear hb6 hp6 hf6 hf6' hf0
  go_wp2_with fail
  obtain ⟨w7, hw7⟩ : ∃ w7, w7 = ((((((w6.setCell ⟨w2.heap.size, 12, none⟩ (.int .i64 0)).setCell ⟨w2.heap.size, 13, none⟩ (.int .i64 0)).setCell ⟨w2.heap.size, 14, none⟩ (.int .i64 0)).setCell ⟨w2.heap.size, 15, none⟩ (.int .i64 0)).setCell ⟨w2.heap.size, 16, none⟩ (.slice none 0 0)).setCell ⟨w2.heap.size, 17, none⟩ (.bool false)) := ⟨_, rfl⟩
  rw [← hw7]
  have hb7 : w7.heap[w2.heap.size]? = some (.cells (tkD (wakeT t') false).toArray 98 (0, 0)) := by rw [hw7]; exact tkp17 (tkp16 (tkp15 (tkp14 (tkp13 (tkp12 Hb6.out _) _) _) _)) _
  have hf67 : Fr (fun k => k = w2.heap.size) w6 w7 := by rw [hw7]; exact ((((((Fr.refl (fun k => k = w2.heap.size) w6).setT 12 _).setT 13 _).setT 14 _).setT 15 _).setT 16 _).setT 17 _
  have hp7 := hf67.blk (k := pb) (by omega) Hp6.out
  have hz2 := Hf2.out.size; have hz5 := lt_of_block Hb5.out; have hpb := Hpb.out
  have HT7 := Lib.hid (HT6.out.fr hf67 (fun k q e => by rcases q with q | q; exact (Hns.out _ q).1 e; have := q.1; simp at this; omega))
  have HS0 : Hid (w7.rangeAt w2.heap.size 0 (tkD (wakeT t') false) ∧ w7.cell? ⟨b, 0, none⟩ = some (.pointer (some ⟨ab, 0, none⟩)) ∧ w7.cell? ⟨pb, 0, none⟩ = some (.int .i64 (i : Int))) := ⟨rangeRow hb7, blk_cell HT7.out.blk 0 rfl, blk_cell hp7 0 rfl⟩
  have Hf67 := Lib.hid hf67
  clear hw7 hb7 hf67 hp7 hz2 hz5 hpb c12 c13 c14 c15 c16 c17 f12 f13 f14 f15 f16 f17
  have hns : ¬ SA w2.heap.size := fun q => (Hns.out _ (H.out.subA _ q).1).1 rfl
  have hnp : ¬ SA pb := fun q => (Hns.out _ (H.out.subA _ q).1).2 rfl
  have hnb : ¬ SA b := fun q => (H.out.subA _ q).2 rfl
  have hu44 := Tryz.underlying98
  have hi44 : (Tryz.prog.info? 98).map (·.size) = some (tkD (wakeT t') false).length := info_task18
  refine wp_region_held_drew (S := fun W => W.rangeAt w2.heap.size 0 (tkD (wakeT t') false) ∧ W.cell? ⟨b, 0, none⟩ = some (.pointer (some ⟨ab, 0, none⟩)) ∧ W.cell? ⟨pb, 0, none⟩ = some (.int .i64 (i : Int))) (by kernel_rfl) (by simpa using HS0.out) (fun hHeld => ?_)
  refine wpAnyH_take (i := 0) (v := ?_) rfl (by kernel_rfl) (by kernel_rfl) (by kernel_rfl) (fun _ _ _ h => h) (Or.inl ⟨by rfl, ?_⟩) (by assumption) ?_
  rotate_left
  · intro w hSw; (try dsimp only at hSw); go_simp; try with_reducible rfl
  try simp only [List.getElem_toArray, List.getElem_cons_zero, List.getElem_cons_succ, Act.put, List.setIfInBounds_toArray, List.set_cons_zero, List.set_cons_succ]
  refine wpAnyH_take (i := 1) (v := ?_) rfl (by kernel_rfl) (by kernel_rfl) (by kernel_rfl) (fun _ _ _ h => h) (Or.inl ⟨by rfl, ?_⟩) (by assumption) ?_
  rotate_left
  · intro w hSw; (try dsimp only at hSw); go_simp; try with_reducible rfl
  try simp only [List.getElem_toArray, List.getElem_cons_zero, List.getElem_cons_succ, Act.put, List.setIfInBounds_toArray, List.set_cons_zero, List.set_cons_succ]
  refine wpAnyH_take (i := 2) (v := ?_) rfl (by kernel_rfl) (by kernel_rfl) (by kernel_rfl) (fun _ _ _ h => h) (Or.inl ⟨by rfl, ?_⟩) (by assumption) ?_
  rotate_left
  · intro w hSw; (try dsimp only at hSw); go_simp; try with_reducible rfl
  try simp only [List.getElem_toArray, List.getElem_cons_zero, List.getElem_cons_succ, Act.put, List.setIfInBounds_toArray, List.set_cons_zero, List.set_cons_succ]
  refine wpAnyH_take (i := 3) (v := ?_) rfl (by kernel_rfl) (by kernel_rfl) (by kernel_rfl) (fun _ _ _ h => h) (Or.inl ⟨by rfl, ?_⟩) (by assumption) ?_
  rotate_left
  · intro w hSw; (try dsimp only at hSw); go_simp; try with_reducible rfl
  try simp only [List.getElem_toArray, List.getElem_cons_zero, List.getElem_cons_succ, Act.put, List.setIfInBounds_toArray, List.set_cons_zero, List.set_cons_succ]
  refine wpAnyH_take (i := 4) (v := ?_) rfl (by kernel_rfl) (by kernel_rfl) (by kernel_rfl) (fun _ _ _ h => h) (Or.inl ⟨by rfl, ?_⟩) (by assumption) ?_
  rotate_left
  · intro w hSw; (try dsimp only at hSw); go_simp; try with_reducible rfl
  try simp only [List.getElem_toArray, List.getElem_cons_zero, List.getElem_cons_succ, Act.put, List.setIfInBounds_toArray, List.set_cons_zero, List.set_cons_succ]
  refine wpAnyH_take (i := 5) (v := ?_) rfl (by kernel_rfl) (by kernel_rfl) (by kernel_rfl) (fun _ _ _ h => h) (Or.inl ⟨by rfl, ?_⟩) (by assumption) ?_
  rotate_left
  · intro w hSw; (try dsimp only at hSw); go_simp; try with_reducible rfl
  try simp only [List.getElem_toArray, List.getElem_cons_zero, List.getElem_cons_succ, Act.put, List.setIfInBounds_toArray, List.set_cons_zero, List.set_cons_succ]
  refine wpAnyH_take (i := 6) (v := _) rfl (by kernel_rfl) (by kernel_rfl) (by kernel_rfl) (fun _ _ _ h => h) (yieldsIf_load_mid (by rfl) _ _ rfl (w2.heap.size) 0 rfl (tkD (wakeT t') false) _ (fun w hw => hw.1) hu44 rfl hi44) (by assumption) ?_
  try simp only [List.getElem_toArray, List.getElem_cons_zero, List.getElem_cons_succ, Act.put, List.setIfInBounds_toArray, List.set_cons_zero, List.set_cons_succ]
  refine wpAnyH_ready (rs := [7]) (by kernel_rfl) (by simp) ?_
  refine AllReadyH.cons rfl (fun K hK => ?_) AllReadyH.nil
  simp only [List.getElem_toArray, List.getElem_cons_zero, List.getElem_cons_succ]
  go_simp
  refine (Hset.out w7.drew _ _ (HT7.out.fr0 ((Fr.refl Nob w7).drew))).mono ?_
  rintro e w8 ⟨rfl, hf8, ht8⟩
  refine hK.out _ _ ⟨fun j v hj => hf8.cell (p := ⟨w2.heap.size, 0 + j, none⟩) hns (hHeld.1 j v hj), hf8.cell (p := ⟨b, 0, none⟩) hnb hHeld.2.1, hf8.cell (p := ⟨pb, 0, none⟩) hnp hHeld.2.2⟩ (fun hHeld2 => ?_)
  refine wpAnyH_done (by kernel_rfl) ?_ _
  try simp only [List.getElem_toArray, List.getElem_cons_zero, List.getElem_cons_succ, Act.put, List.setIfInBounds_toArray, List.set_cons_zero, List.set_cons_succ]
  have Hf8 := Lib.hid (show Fr SA w7 w8 from ((Fr.refl SA w7).drew).trans0 hf8); have Ht8 := Lib.hid ht8
  clear hf8 ht8 hHeld hHeld2 hK K
  go_wp2_with fail
  go_ret
  have hz5 := lt_of_block Hb5.out
  have hz2 := Hf2.out.size
  have e1 : Fr S w w6 := Hf5.out.none.trans Hf6.out fun k hk q => (H.out.subL k q).1
  refine ⟨_, rfl, ?_, ⟨ab, lb, _, _, Ht8.out⟩, fun k q => ?_⟩
  · exact (e1.trans Hf67.out fun k hk e => by omega).trans Hf8.out fun k hk q => (H.out.subA k q).1
  · rcases q with q | q
    · exact .inl q
    · have h1 : w5.drew.heap.size ≤ k := q.1; have h2 := ((Fr.refl Nob w5).drew).size; have h3 := Hf5.out.size; exact .inr (by omega)
end
open Go.RowKit Go.Maps
theorem ikey : Keyed Tryz.prog 3 := int_keyed Tryz.underlying3
theorem izero (w : World) : (zeroValue 3).run Tryz.prog w = .ok (.int .i64 0) w := by kernel_rfl
theorem run_makeMap {P : Program} (t : TypeId) (w : World) : (Go.Instr.makeMap t none).run P w = .ok (.map (some w.heap.size)) (w.alloc (.map #[] 0)) := rfl
theorem wf_small {k : Int} (h : -9223372036854775808 ≤ k) (h2 : k ≤ 9223372036854775807) : (Lit.int .i64 k).wf = true := by
  simp only [Lit.wf, Bool.and_eq_true, decide_eq_true_eq]
  exact ⟨h, h2⟩
abbrev ikl (k : Int) : Lit := .int .i64 k
theorem ikeyOf {k : Int} (h : (Lit.int .i64 k).wf = true) : keyOf Tryz.prog 3 (.int .i64 k) = some (ikl k) := keyOf_int_mk Tryz.underlying3 h
/-- Block b is a map of at most n entries that reads as the function f. -/
def MapAt (w : World) (b n : Nat) (f : Int → Option Int) : Prop := ∃ D : DataW Unit, w.ownsMap Tryz.prog 3 (plainElem Tryz.prog 3) b n D ∧ ∀ k, Maps.has D (ikl k) = (f k).isSome ∧ D.atKey (ikl k) (.lit (.int .i64 0)) = .lit (.int .i64 ((f k).getD 0))
def fup (f : Int → Option Int) (k : Int) (v : Option Int) : Int → Option Int := fun j => if j = k then v else f j
theorem fup_same (f : Int → Option Int) (k : Int) (v : Option Int) : fup f k v k = v := if_pos rfl
theorem fup_ne (f : Int → Option Int) {k j : Int} (v : Option Int) (h : j ≠ k) : fup f k v j = f j := if_neg h
section
variable {w w' : World} {b n : Nat} {f : Int → Option Int}
theorem MapAt.lt (h : MapAt w b n f) : b < w.heap.size := by obtain ⟨D, h, _⟩ := h; exact h.lt
theorem MapAt.mono (h : MapAt w b n f) {m : Nat} (hm : n ≤ m) : MapAt w b m f := by obtain ⟨D, h, r⟩ := h; exact ⟨D, h.mono hm, r⟩
theorem MapAt.congr (h : MapAt w b n f) {g : Int → Option Int} (e : ∀ k, g k = f k) : MapAt w b n g := by
  obtain ⟨D, h, r⟩ := h
  exact ⟨D, h, fun k => by rw [e k]; exact r k⟩
theorem MapAt.made (w : World) : MapAt (w.alloc (.map #[] 0)) w.heap.size 0 (fun _ => none) :=
  ⟨_, World.ownsMap_made w _ _ _, fun k => ⟨rfl, rfl⟩⟩
theorem MapAt.fr (h : MapAt w b n f) {S : Nat → Prop} (hf : Fr S w w') (hb : ¬ S b) : MapAt w' b n f := by
  obtain ⟨D, ⟨es, clock, h1, h2⟩, r⟩ := h
  exact ⟨D, ⟨es, clock, hf.blk hb h1, h2⟩, r⟩
theorem MapAt.fr0 (h : MapAt w b n f) (hf : Fr Nob w w') : MapAt w' b n f := h.fr hf id
end
theorem ikl_ne {k j : Int} (h : j ≠ k) : ikl j ≠ ikl k := fun e => h (by simpa [ikl] using e)
section
variable {w : World} {ops : Array Oper} {rest : List Oper} {o : Oper} {a : Act} {Q : Exit → Act → World → Prop}
theorem map_look2 (hg : o.guard = none) (m x : Operand) (hop : o.op = Op.lookup 113 m x true) (b n : Nat) (f : Int → Option Int) (hm : a.eval m = .map (some b)) (h : MapAt w b n f) (k : Int) (hx : a.eval x = .int .i64 k) (hk : (Lit.int .i64 k).wf = true)
    (hK : wpList Tryz.prog ops Q rest (a.put o.dst (.tuple #[.int .i64 ((f k).getD 0), .bool (f k).isSome])) w) : wpList Tryz.prog ops Q (o :: rest) a w := by
  obtain ⟨D, hown, r⟩ := h
  refine wpList_lookup_own_ok_int w hg m x _ hop _ _ .i64 ikey Tryz.underlying113 Tryz.underlying3 (izero _) b n D hm hown _ _ hx (ikeyOf hk) fun c hat hwc => ?_
  rw [(r k).2] at hat
  rw [(r k).1]
  have : (f k).getD 0 = c := by simpa using hat
  rw [← this]
  exact hK
theorem map_put (hg : o.guard = none) (m x v : Operand) (hop : o.op = Op.mapUpdate 113 m x v) (b n : Nat) (f : Int → Option Int) (hm : a.eval m = .map (some b)) (h : MapAt w b n f) (hn : n < 1000000) (k y : Int) (hx : a.eval x = .int .i64 k) (hv : a.eval v = .int .i64 y) (hk : (Lit.int .i64 k).wf = true) (hy : (Lit.int .i64 y).wf = true)
    (hK : ∀ w', MapAt w' b (n + 1) (fup f k (some y)) → Fr (fun j => j = b) w w' → wpList Tryz.prog ops Q rest (a.put o.dst undef) w') : wpList Tryz.prog ops Q (o :: rest) a w := by
  obtain ⟨D, hown, r⟩ := h
  have hD := hown.isMap
  refine wpList_mapUpdate_own w hg m x v _ hop _ _ ikey Tryz.underlying113 _ b n D hm hown (by unfold maxLen; omega) _ _ _ hx hv (ikeyOf hk) _ [] (plainElem_int Tryz.underlying3 hy) fun w' hown' hgr => ?_
  refine hK w' ⟨_, hown', fun j => ?_⟩ ((Fr.refl _ w).grown hgr fun q e => .inl (by cases e; rfl))
  by_cases e : j = k
  · subst e
    rw [fup_same]
    exact ⟨Maps.has_put_same hD (ikey.key (ikeyOf hk)) _, Maps.atKey_put_same hD (ikey.key (ikeyOf hk)) _ _⟩
  · rw [fup_ne _ _ e, Maps.has_put_other (ikl_ne e), Maps.atKey_put_other (ikl_ne e)]
    exact r j
theorem map_del (hg : o.guard = none) (m x : Operand) (hop : o.op = Op.call { callee := Callee.builtin Builtin.delete, args := #[m, x], argTypes := #[113, 3] }) (b n : Nat) (f : Int → Option Int) (hm : a.eval m = .map (some b)) (h : MapAt w b n f) (k : Int) (hx : a.eval x = .int .i64 k) (hk : (Lit.int .i64 k).wf = true)
    (hK : ∀ w', MapAt w' b n (fup f k none) → Fr (fun j => j = b) w w' → wpList Tryz.prog ops Q rest (a.put o.dst (.tuple #[])) w') : wpList Tryz.prog ops Q (o :: rest) a w := by
  obtain ⟨D, hown, r⟩ := h
  refine wpList_delete_own w hg m x _ _ hop _ ikey Tryz.underlying113 _ b n D hm hown _ _ hx (ikeyOf hk) fun w' hown' htu => ?_
  refine hK w' ⟨_, hown', fun j => ?_⟩ ((Fr.refl _ w).grown htu.grown fun q e => .inl (by cases e; rfl))
  by_cases e : j = k
  · subst e
    rw [fup_same]
    exact ⟨Maps.has_del_same, Maps.atKey_del_same _⟩
  · rw [fup_ne _ _ e, Maps.has_del_other (ikl_ne e), Maps.atKey_del_other (ikl_ne e)]
    exact r j
end
/-- m[k] = v as one step of a region that draws. -/
theorem map_put_op {w : World} {o : Oper} {a : Act} {K : Act → World → Prop} {Q : Exit → Act → World → Prop} {E : Prop} {ops : Array Oper} (hg : o.guard = none) (m x v : Operand) (hop : o.op = Op.mapUpdate 113 m x v) (b n : Nat) (f : Int → Option Int) (hm : a.eval m = .map (some b)) (h : MapAt w b n f) (hn : n < 1000000) (k y : Int) (hx : a.eval x = .int .i64 k) (hv : a.eval v = .int .i64 y) (hk : (Lit.int .i64 k).wf = true) (hy : (Lit.int .i64 y).wf = true)
    (hK : ∀ w', MapAt w' b (n + 1) (fup f k (some y)) → Fr (fun j => j = b) w w' → K (a.put o.dst undef) w') : if Region.wanted o (yielded ops a.tmps) = true then Oper.wp Tryz.prog o a w K Q else E := by
  have hw : Region.wanted o (yielded ops a.tmps) = true := by simp [Region.wanted, hg]
  rw [if_pos hw]
  obtain ⟨D, hown, r⟩ := h
  have hD := hown.isMap
  obtain ⟨w', hrun, hown', hgr⟩ := hown.update ikey Tryz.underlying113 (by unfold maxLen; omega) (ikeyOf hk) (plainElem_int Tryz.underlying3 hy)
  unfold Oper.wp
  simp [execOp, hop, hm, hx, hv, hrun, Result.andThen]
  refine hK w' ⟨_, hown', fun j => ?_⟩ ((Fr.refl _ w).grown hgr fun q e => .inl (by cases e; rfl))
  by_cases e : j = k
  · subst e
    rw [fup_same]
    exact ⟨Maps.has_put_same hD (ikey.key (ikeyOf hk)) _, Maps.atKey_put_same hD (ikey.key (ikeyOf hk)) _ _⟩
  · rw [fup_ne _ _ e, Maps.has_put_other (ikl_ne e), Maps.atKey_put_other (ikl_ne e)]
    exact r j
/-- m[k] as an equation. -/
theorem MapAt.look {w : World} {b n : Nat} {f : Int → Option Int} (h : MapAt w b n f) (k : Int) (hk : (Lit.int .i64 k).wf = true) : (Go.Instr.lookup 113 (.map (some b)) (.int .i64 k) false).run Tryz.prog w = .ok (.int .i64 ((f k).getD 0)) w := by
  obtain ⟨D, hown, r⟩ := h
  obtain ⟨c, hrun, hat, hwc⟩ := hown.lookup_int ikey Tryz.underlying113 Tryz.underlying3 (izero w) (ikeyOf hk)
  rw [(r k).2] at hat
  have : (f k).getD 0 = c := by simpa using hat
  rw [hrun, this]
theorem MapAt.drew {w : World} {b n : Nat} {f : Int → Option Int} (h : MapAt w b n f) : MapAt w.drew b n f := h.fr0 (Fr.refl Nob w).drew
/-- delete(m, k) as one step of a region that draws. -/
theorem map_del_op {w : World} {o : Oper} {a : Act} {K : Act → World → Prop} {Q : Exit → Act → World → Prop} {E : Prop} {ops : Array Oper} (hg : o.guard = none) (m x : Operand) (hop : o.op = Op.call { callee := Callee.builtin Builtin.delete, args := #[m, x], argTypes := #[113, 3] }) (b n : Nat) (f : Int → Option Int) (hm : a.eval m = .map (some b)) (h : MapAt w b n f) (k : Int) (hx : a.eval x = .int .i64 k) (hk : (Lit.int .i64 k).wf = true)
    (hK : ∀ w', MapAt w' b n (fup f k none) → Fr (fun j => j = b) w w' → K (a.put o.dst (.tuple #[])) w') : if Region.wanted o (yielded ops a.tmps) = true then Oper.wp Tryz.prog o a w K Q else E := by
  have hw : Region.wanted o (yielded ops a.tmps) = true := by simp [Region.wanted, hg]
  rw [if_pos hw]
  obtain ⟨D, hown, r⟩ := h
  obtain ⟨w', hrun, hown', htu⟩ := hown.drop ikey Tryz.underlying113 (ikeyOf hk) o.type
  unfold Oper.wp
  simp [execOp, hop, resolve, invoke, builtin, hm, hx, hrun, Result.andThen]
  refine hK w' ⟨_, hown', fun j => ?_⟩ ((Fr.refl _ w).grown htu.grown fun q e => .inl (by cases e; rfl))
  by_cases e : j = k
  · subst e
    rw [fup_same]
    exact ⟨Maps.has_del_same, Maps.atKey_del_same _⟩
  · rw [fup_ne _ _ e, Maps.has_del_other (ikl_ne e), Maps.atKey_del_other (ikl_ne e)]
    exact r j
/-- One of a tree: its parent, and whether it hangs there. -/
abbrev Nd := Int × Bool
def hangs (ns : List Nd) (p : Int) (i : Nat) : Bool := match ns[i]? with
  | some x => x.2 && (x.1 == p)
  | none => false
def kidsN (ns : List Nd) (p : Int) : List Nat := (List.range ns.length).filter (hangs ns p)
def kids (ns : List Nd) (p : Int) : List Int := (kidsN ns p).map fun (i : Nat) => (i : Int)
/-- Parents come first; who hangs has one. -/
def TreeOk (ns : List Nd) : Prop := ∀ (i : Nat) (x : Nd), ns[i]? = some x → -1 ≤ x.1 ∧ x.1 < (i : Int) ∧ (x.2 = true → 0 ≤ x.1)
theorem hangs_iff (ns : List Nd) (p : Int) (i : Nat) : hangs ns p i = true ↔ ns[i]? = some (p, true) := by
  unfold hangs
  cases h : ns[i]? with
  | none => simp
  | some x =>
    obtain ⟨a, c⟩ := x
    simp
    constructor
    · rintro ⟨h1, h2⟩; exact ⟨h2, h1⟩
    · rintro ⟨h1, h2⟩; exact ⟨h2, h1⟩
theorem mem_kidsN (ns : List Nd) (p : Int) (i : Nat) : i ∈ kidsN ns p ↔ ns[i]? = some (p, true) := by
  unfold kidsN
  rw [List.mem_filter, hangs_iff, List.mem_range]
  constructor
  · exact fun h => h.2
  · intro h; exact ⟨(List.getElem?_eq_some_iff.1 h).1, h⟩
theorem kidsN_lt (ns : List Nd) (p : Int) (i : Nat) (h : i ∈ kidsN ns p) : i < ns.length := by
  have := (mem_kidsN ns p i).1 h
  exact (List.getElem?_eq_some_iff.1 this).1
theorem kidsN_gt (ns : List Nd) (ho : TreeOk ns) (p i : Nat) (h : i ∈ kidsN ns p) : p < i := by
  have := (mem_kidsN ns p i).1 h
  have := (ho i _ this).2.1
  simp at this; omega
theorem kidsN_sorted (ns : List Nd) (p : Int) : (kidsN ns p).Pairwise (· < ·) := List.Pairwise.filter _ List.pairwise_lt_range
theorem kidsN_out (ns : List Nd) (ho : TreeOk ns) (p : Nat) (h : ns.length ≤ p + 1) : kidsN ns p = [] := by
  rw [List.eq_nil_iff_forall_not_mem]
  intro i hi
  have h1 := kidsN_gt ns ho p i hi
  have h2 := kidsN_lt ns p i hi
  omega
/-! One more -/
theorem ok_snoc (ns : List Nd) (ho : TreeOk ns) (p : Int) (l : Bool) (h1 : -1 ≤ p) (h2 : p < ns.length) (h3 : l = true → 0 ≤ p) : TreeOk (ns ++ [(p, l)]) := by
  intro i x hx
  rw [List.getElem?_append] at hx
  split at hx
  · exact ho i x hx
  · next h =>
    have hi := (List.getElem?_eq_some_iff.1 hx).1
    simp at hi
    have : i = ns.length := by omega
    subst this
    simp at hx
    subst hx
    exact ⟨h1, h2, h3⟩
theorem kidsN_snoc (ns : List Nd) (p : Int) (l : Bool) (k : Nat) : kidsN (ns ++ [(p, l)]) k = kidsN ns k ++ if l && (p == (k : Int)) then [ns.length] else [] := by
  unfold kidsN
  rw [List.length_append, List.length_singleton, List.range_succ, List.filter_append]
  congr 1
  · apply List.filter_congr
    intro i hi
    have hi := List.mem_range.1 hi
    unfold hangs
    rw [List.getElem?_append_left hi]
  · have : hangs (ns ++ [(p, l)]) k ns.length = (l && (p == (k : Int))) := by simp [hangs]
    rw [List.filter_cons, this]
    rfl
theorem kids_snoc_no (ns : List Nd) (p : Int) (l : Bool) (k : Nat) (h : l = false ∨ p ≠ (k : Int)) : kids (ns ++ [(p, l)]) k = kids ns k := by
  unfold kids
  rw [kidsN_snoc]
  have : (l && (p == (k : Int))) = false := by rcases h with h | h <;> simp [h]
  rw [this]; simp
/-! One taken off -/
theorem ok_set (ns : List Nd) (ho : TreeOk ns) (i : Nat) (p : Int) (h : ns[i]? = some (p, true)) : TreeOk (ns.set i (p, false)) := by
  intro j x hx
  rw [List.getElem?_set] at hx
  split at hx
  · next e =>
    subst e
    split at hx
    · simp at hx; subst hx
      obtain ⟨h1, h2, h3⟩ := ho i _ h
      exact ⟨h1, h2, fun q => by simp at q⟩
    · simp at hx
  · exact ho j x hx
theorem hangs_set (ns : List Nd) (i : Nat) (p : Int) (k j : Nat) (hi : i < ns.length) : hangs (ns.set i (p, false)) k j = (hangs ns k j && (j != i)) := by
  unfold hangs
  rw [List.getElem?_set]
  by_cases e : i = j
  · subst e; simp [hi]
  · have : (j != i) = true := by simp; exact fun h => e h.symm
    rw [if_neg e, this, Bool.and_true]
theorem kidsN_set (ns : List Nd) (i : Nat) (p : Int) (k : Nat) (hi : i < ns.length) : kidsN (ns.set i (p, false)) k = (kidsN ns k).filter (· != i) := by
  unfold kidsN
  rw [List.length_set, List.filter_filter]
  apply List.filter_congr
  intro j _
  rw [hangs_set ns i p k j hi, Bool.and_comm]
theorem kids_set_ne (ns : List Nd) (i : Nat) (p : Int) (k : Nat) (h : ns[i]? = some (p, true)) (hk : p ≠ (k : Int)) : kids (ns.set i (p, false)) k = kids ns k := by
  unfold kids
  rw [kidsN_set ns i p k (List.getElem?_eq_some_iff.1 h).1, List.filter_eq_self.2]
  intro j hj
  have := (mem_kidsN ns k j).1 hj
  simp
  rintro rfl
  rw [h] at this
  simp at this
  exact hk this
theorem kids_set_eq (ns : List Nd) (i : Nat) (k : Nat) (h : ns[i]? = some ((k : Int), true)) : kids (ns.set i ((k : Int), false)) k = (kids ns k).erase (i : Int) := by
  have hnd : (kids ns k).Nodup := by
    unfold kids
    have := kidsN_sorted ns k
    unfold List.Nodup
    rw [List.pairwise_map]
    exact this.imp fun {a c} h => by omega
  rw [hnd.erase_eq_filter]
  unfold kids
  rw [kidsN_set ns i _ k (List.getElem?_eq_some_iff.1 h).1, List.filter_map]
  congr 1
  apply List.filter_congr
  intro j _
  show _ = ((j : Int) != (i : Int))
  by_cases e : j = i
  · subst e; simp
  · have : ¬ (j : Int) = i := by omega
    have h1 : (j == i) = false := by simp [e]
    have h2 : ((j : Int) == (i : Int)) = false := beq_eq_false_iff_ne.2 this
    simp only [bne, h1, h2]
theorem mem_kids (ns : List Nd) (i k : Nat) (h : ns[i]? = some ((k : Int), true)) : (i : Int) ∈ kids ns k := List.mem_map.2 ⟨i, (mem_kidsN ns k i).2 h, rfl⟩
/-! The walk -/
def walkF (ns : List Nd) : Nat → Nat → List Nat
  | 0, id => [id]
  | f + 1, id => id :: (kidsN ns id).flatMap (walkF ns f)
def walkN (ns : List Nd) (id : Nat) : List Nat := walkF ns (ns.length - id) id
/-- i hangs on k, by way of all between. -/
inductive Und (ns : List Nd) : Nat → Nat → Prop
  | refl (k) : Und ns k k
  | step {i p k : Nat} (h : ns[i]? = some ((p : Int), true)) (r : Und ns p k) : Und ns i k
theorem Und.trans {ns : List Nd} {a b c : Nat} (h : Und ns a b) (k : Und ns b c) : Und ns a c := by
  induction h with
  | refl => exact k
  | step h r ih => exact .step h (ih k)
theorem Und.lt {ns : List Nd} {i k : Nat} (h : Und ns i k) (hk : k < ns.length) : i < ns.length := by
  cases h with
  | refl => exact hk
  | step h r => exact (List.getElem?_eq_some_iff.1 h).1
def walk (ns : List Nd) (k : Nat) : List Int := (walkN ns k).map fun (i : Nat) => (i : Int)
/-- An event: its step, kind, task, and three numbers. -/
abbrev Ev := Int × Int × Int × Int × Int × Int
abbrev evEn (x : Ev) : List Value := [.int .i64 x.1, .int .i64 x.2.1, .int .i64 x.2.2.1, .int .i64 x.2.2.2.1, .int .i64 x.2.2.2.2.1, .int .i64 x.2.2.2.2.2]
abbrev evs (l : List Ev) : List Value := l.flatMap evEn
/-- What will be due: whose, when, in which order. -/
abbrev Hi := Int × Int × Int
def aheadI (x y : Hi) : Bool := decide (x.2.1 < y.2.1) || (x.2.1 == y.2.1 && decide (x.2.2 < y.2.2))
/-- Of at most two that will be due one more. -/
def heapAdd (l : List Hi) (x : Hi) : Option (List Hi) := match l with
  | [] => some [x]
  | [y] => some (if aheadI x y then [x, y] else [y, x])
  | _ => none
def heapHas (l : List Hi) (id : Int) : Bool := l.any fun y => y.1 == id
def heapDel (l : List Hi) (id : Int) : List Hi := l.filter fun y => !(y.1 == id)
def maxT : Int := 4611686018427387904
def nextT (t p now : Int) : Int := addT now (p - (now - t) % p)
abbrev delP (per : Int → Option Int) (k : Int) : Int → Option Int := fup per k none
abbrev putP (per : Int → Option Int) (k v : Int) : Int → Option Int := fup per k (some v)
/-- How a timer of a kind is due again. -/
def perOf (kind d : Int) : Int := if kind = 2 then min d maxT else 0
/-- The first one that is due is taken: it is due anew if it has a period. -/
def takeR (hp : List Hi) (seq : Nat) (per : Int → Option Int) (x : Hi) (now : Int) : Option (List Hi × Nat × (Int → Option Int)) :=
  if 1 ≤ (per x.1).getD 0 ∧ now < nextT x.2.1 ((per x.1).getD 0) now then
    match heapAdd (heapDel (heapDel hp x.1) x.1) (x.1, nextT x.2.1 ((per x.1).getD 0) now, ((seq + 1 : Nat) : Int)) with
    | none => none
    | some l => some (l, seq + 1, putP (delP per x.1) x.1 ((per x.1).getD 0))
  else some (heapDel hp x.1, seq, delP per x.1)
theorem Tryz.info_clone_evs : (Tryz.prog.info? 43).map (fun i => (i.zero, i.size, i.bytes)) = some (some (.agg #[.int .i64 0, .int .i64 0, .int .i64 0, .int .i64 0, .int .i64 0, .int .i64 0]), 6, 48) := by kernel_rfl
set_option maxHeartbeats 800000 in
theorem clone_evs (w : World) (v : Value) (cs : List Value) (n : Nat) (hb : n ≤ 1000000) (h : Rd w 6 v n cs) (h1 : ∀ u ∈ cs, u.oneCell' = true) :
    Calls Tryz.prog 31 #[v] w fun e w' => ∃ v', e = .returned v' ∧ Fr Nob w w' ∧ Sl w' (fun k => w.heap.size ≤ k ∧ k < w'.heap.size) 43 6 v' n cs := by
  obtain ⟨hl, _, A, c, rfl, hc1, hc2, hA⟩ := h
  cases A with
  | none =>
    obtain rfl : n = 0 := by
      rcases Nat.eq_zero_or_pos n with h | h
      · exact h
      · obtain ⟨g, o, h1, _⟩ := hA h; cases h1
    obtain rfl : cs = [] := List.eq_nil_of_length_eq_zero (by omega)
    have hk := fun w : World => Lib.run_eql_slice_nil (P := Tryz.prog) w 34 43 none 0 c 0 0 Tryz.underlying34
    clear hA h1
    go_enter Tryz.func31, Tryz.ntmps31
    go_wp2_with fail
    go_ret
    exact ⟨_, rfl, Fr.refl _ _, Sl.nil _ _ _ _⟩
  | some ad =>
    have hk := fun w : World => Lib.run_eql_slice_nil (P := Tryz.prog) w 34 43 (some ad) n c 0 0 Tryz.underlying34
    have hnews : ∀ j u, cs[j]? = some u → (w.alloc (.cells #[] 43)).cell? (ad.add j) = some u := fun j u hj => by
      have hjl := (List.getElem?_eq_some_iff.1 hj).1
      obtain ⟨g, o, h1, h2, h3⟩ := hA (by rcases Nat.eq_zero_or_pos n with e | e; subst e; omega; exact e)
      cases h1
      rw [Addr.add_lit]
      exact ((Fr.refl Nob w).alloc _).cell (p := ⟨g, o + j, none⟩) (fun q => q) (h3 j u hj)
    have h0 : Sl (w.alloc (.cells #[] 43)) (From w.heap.size) 43 6 (.slice (some ⟨w.heap.size, 0, none⟩) 0 0) 0 [] :=
      Sl.lit w 43 6 #[] 0 (From w.heap.size) (by simp [From]) (by simp [maxLen]) rfl
    have Hnews := Lib.hid hnews; have H0 := Lib.hid h0; have Hl := Lib.hid hl; have H1 := Lib.hid h1
    clear hA hnews h0 hl h1
    go_enter Tryz.func31, Tryz.ntmps31
    go_wp2_with (at_builtin; refine wpList_append_sl _ rfl _ _ _ rfl (From w.heap.size) 43 _ 6 48 Tryz.underlying34 Tryz.info_clone_evs rfl (by omega) (.slice (some ⟨w.heap.size, 0, none⟩) 0 0) 0 [] rfl H0.out ad n c cs rfl Hl.out Hnews.out H1.out (by unfold maxLen; omega) (by omega) ?_; intro v1 w1 hs1 hf1)
    obtain ⟨A1, c1, rfl⟩ := hs1.slice
    go_ret
    have hz := hf1.size
    simp at hz
    refine ⟨_, rfl, (((Fr.refl Nob w).alloc (.cells #[] 43)).none.trans0 hf1).mono fun k hk q => by unfold From at q; omega, ?_⟩
    rw [Nat.zero_add] at hs1 ⊢
    exact hs1.mono fun k hk q => by rcases q with q | q; exact ⟨q, hk⟩; simp at q; exact ⟨by omega, hk⟩
theorem Tryz.info_clone_ics : (Tryz.prog.info? 27).map (fun i => (i.zero, i.size, i.bytes)) = some (some (.agg #[.bool false, .int .i64 0, .int .i64 0]), 3, 24) := by kernel_rfl
set_option maxHeartbeats 800000 in
theorem clone_ics (w : World) (v : Value) (cs : List Value) (n : Nat) (hb : n ≤ 1000000) (h : Rd w 3 v n cs) (h1 : ∀ u ∈ cs, u.oneCell' = true) :
    Calls Tryz.prog 47 #[v] w fun e w' => ∃ v', e = .returned v' ∧ Fr Nob w w' ∧ Sl w' (fun k => w.heap.size ≤ k ∧ k < w'.heap.size) 27 3 v' n cs := by
  obtain ⟨hl, _, A, c, rfl, hc1, hc2, hA⟩ := h
  cases A with
  | none =>
    obtain rfl : n = 0 := by
      rcases Nat.eq_zero_or_pos n with h | h
      · exact h
      · obtain ⟨g, o, h1, _⟩ := hA h; cases h1
    obtain rfl : cs = [] := List.eq_nil_of_length_eq_zero (by omega)
    have hk := fun w : World => Lib.run_eql_slice_nil (P := Tryz.prog) w 23 27 none 0 c 0 0 Tryz.underlying23
    clear hA h1
    go_enter Tryz.func47, Tryz.ntmps47
    go_wp2_with fail
    go_ret
    exact ⟨_, rfl, Fr.refl _ _, Sl.nil _ _ _ _⟩
  | some ad =>
    have hk := fun w : World => Lib.run_eql_slice_nil (P := Tryz.prog) w 23 27 (some ad) n c 0 0 Tryz.underlying23
    have hnews : ∀ j u, cs[j]? = some u → (w.alloc (.cells #[] 27)).cell? (ad.add j) = some u := fun j u hj => by
      have hjl := (List.getElem?_eq_some_iff.1 hj).1
      obtain ⟨g, o, h1, h2, h3⟩ := hA (by rcases Nat.eq_zero_or_pos n with e | e; subst e; omega; exact e)
      cases h1
      rw [Addr.add_lit]
      exact ((Fr.refl Nob w).alloc _).cell (p := ⟨g, o + j, none⟩) (fun q => q) (h3 j u hj)
    have h0 : Sl (w.alloc (.cells #[] 27)) (From w.heap.size) 27 3 (.slice (some ⟨w.heap.size, 0, none⟩) 0 0) 0 [] :=
      Sl.lit w 27 3 #[] 0 (From w.heap.size) (by simp [From]) (by simp [maxLen]) rfl
    have Hnews := Lib.hid hnews; have H0 := Lib.hid h0; have Hl := Lib.hid hl; have H1 := Lib.hid h1
    clear hA hnews h0 hl h1
    go_enter Tryz.func47, Tryz.ntmps47
    go_wp2_with (at_builtin; refine wpList_append_sl _ rfl _ _ _ rfl (From w.heap.size) 27 _ 3 24 Tryz.underlying23 Tryz.info_clone_ics rfl (by omega) (.slice (some ⟨w.heap.size, 0, none⟩) 0 0) 0 [] rfl H0.out ad n c cs rfl Hl.out Hnews.out H1.out (by unfold maxLen; omega) (by omega) ?_; intro v1 w1 hs1 hf1)
    obtain ⟨A1, c1, rfl⟩ := hs1.slice
    go_ret
    have hz := hf1.size
    simp at hz
    refine ⟨_, rfl, (((Fr.refl Nob w).alloc (.cells #[] 27)).none.trans0 hf1).mono fun k hk q => by unfold From at q; omega, ?_⟩
    rw [Nat.zero_add] at hs1 ⊢
    exact hs1.mono fun k hk q => by rcases q with q | q; exact ⟨q, hk⟩; simp at q; exact ⟨by omega, hk⟩
theorem Tryz.info_clone_ins : (Tryz.prog.info? 25).map (fun i => (i.zero, i.size, i.bytes)) = some (some (.agg #[.int .i64 0, .int .i64 0, .int .i64 0, .int .i64 0, .slice none 0 0, .bool false]), 6, 64) := by kernel_rfl
set_option maxHeartbeats 800000 in
theorem clone_ins (w : World) (v : Value) (cs : List Value) (n : Nat) (hb : n ≤ 1000000) (h : Rd w 6 v n cs) (h1 : ∀ u ∈ cs, u.oneCell' = true) :
    Calls Tryz.prog 46 #[v] w fun e w' => ∃ v', e = .returned v' ∧ Fr Nob w w' ∧ Sl w' (fun k => w.heap.size ≤ k ∧ k < w'.heap.size) 25 6 v' n cs := by
  obtain ⟨hl, _, A, c, rfl, hc1, hc2, hA⟩ := h
  cases A with
  | none =>
    obtain rfl : n = 0 := by
      rcases Nat.eq_zero_or_pos n with h | h
      · exact h
      · obtain ⟨g, o, h1, _⟩ := hA h; cases h1
    obtain rfl : cs = [] := List.eq_nil_of_length_eq_zero (by omega)
    have hk := fun w : World => Lib.run_eql_slice_nil (P := Tryz.prog) w 28 25 none 0 c 0 0 Tryz.underlying28
    clear hA h1
    go_enter Tryz.func46, Tryz.ntmps46
    go_wp2_with fail
    go_ret
    exact ⟨_, rfl, Fr.refl _ _, Sl.nil _ _ _ _⟩
  | some ad =>
    have hk := fun w : World => Lib.run_eql_slice_nil (P := Tryz.prog) w 28 25 (some ad) n c 0 0 Tryz.underlying28
    have hnews : ∀ j u, cs[j]? = some u → (w.alloc (.cells #[] 25)).cell? (ad.add j) = some u := fun j u hj => by
      have hjl := (List.getElem?_eq_some_iff.1 hj).1
      obtain ⟨g, o, h1, h2, h3⟩ := hA (by rcases Nat.eq_zero_or_pos n with e | e; subst e; omega; exact e)
      cases h1
      rw [Addr.add_lit]
      exact ((Fr.refl Nob w).alloc _).cell (p := ⟨g, o + j, none⟩) (fun q => q) (h3 j u hj)
    have h0 : Sl (w.alloc (.cells #[] 25)) (From w.heap.size) 25 6 (.slice (some ⟨w.heap.size, 0, none⟩) 0 0) 0 [] :=
      Sl.lit w 25 6 #[] 0 (From w.heap.size) (by simp [From]) (by simp [maxLen]) rfl
    have Hnews := Lib.hid hnews; have H0 := Lib.hid h0; have Hl := Lib.hid hl; have H1 := Lib.hid h1
    clear hA hnews h0 hl h1
    go_enter Tryz.func46, Tryz.ntmps46
    go_wp2_with (at_builtin; refine wpList_append_sl _ rfl _ _ _ rfl (From w.heap.size) 25 _ 6 64 Tryz.underlying28 Tryz.info_clone_ins rfl (by omega) (.slice (some ⟨w.heap.size, 0, none⟩) 0 0) 0 [] rfl H0.out ad n c cs rfl Hl.out Hnews.out H1.out (by unfold maxLen; omega) (by omega) ?_; intro v1 w1 hs1 hf1)
    obtain ⟨A1, c1, rfl⟩ := hs1.slice
    go_ret
    have hz := hf1.size
    simp at hz
    refine ⟨_, rfl, (((Fr.refl Nob w).alloc (.cells #[] 25)).none.trans0 hf1).mono fun k hk q => by unfold From at q; omega, ?_⟩
    rw [Nat.zero_add] at hs1 ⊢
    exact hs1.mono fun k hk q => by rcases q with q | q; exact ⟨q, hk⟩; simp at q; exact ⟨by omega, hk⟩
theorem evs_one (l : List Ev) : ∀ u ∈ evs l, u.oneCell' = true := by
  intro u hu
  obtain ⟨x, _, hx⟩ := List.mem_flatMap.1 hu
  simp only [evEn, List.mem_cons, List.not_mem_nil, or_false] at hx
  rcases hx with rfl | rfl | rfl | rfl | rfl | rfl <;> rfl
/-- The same instruction, its cases maybe elsewhere. -/
def SameI (y y' : Ins) : Prop := y'.1 = y.1 ∧ y'.2.2 = y.2.2 ∧ (y.2.2.1 = [] → y' = y)
theorem SameI.refl (y : Ins) : SameI y y := ⟨rfl, rfl, fun _ => rfl⟩
theorem ins_one {w : World} {p : List Ins} (h : ∀ y ∈ p, InsOk w y) : ∀ u ∈ p.flatMap insEn, u.oneCell' = true := by
  intro u hu
  obtain ⟨x, hx0, hx⟩ := List.mem_flatMap.1 hu
  obtain ⟨_, _, A, c, hv, _⟩ := h x hx0
  simp only [insEn, List.mem_cons, List.not_mem_nil, or_false] at hx
  rcases hx with rfl | rfl | rfl | rfl | rfl | rfl
  · rfl
  · rfl
  · rfl
  · rfl
  · rw [hv]; rfl
  · rfl
theorem ics_one (cs : List ICs) : ∀ u ∈ cs.flatMap icsEn, u.oneCell' = true := by
  intro u hu
  obtain ⟨x, _, hx⟩ := List.mem_flatMap.1 hu
  simp only [icsEn, List.mem_cons, List.not_mem_nil, or_false] at hx
  rcases hx with rfl | rfl | rfl <;> rfl
theorem insSet : ∀ (q : List Ins) (k : Nat) (y : Ins) (v : Value), q[k]? = some y → (q.flatMap insEn).set (k * 6 + 4) v = (q.set k (y.1, v, y.2.2)).flatMap insEn
  | [], k, y, v, h => by simp at h
  | x :: q, 0, y, v, h => by simp at h; subst h; simp [List.flatMap_cons, insEn]
  | x :: q, k + 1, y, v, h => by
    have ih := insSet q k y v (by simpa using h)
    rw [List.set_cons_succ, List.flatMap_cons, List.flatMap_cons, List.set_append, if_neg (by simp; omega), show (k + 1) * 6 + 4 - (insEn x).length = k * 6 + 4 by simp; omega, ih]
/-- How far own is. -/
structure OwnSt (w w1 wr : World) (v1 : Value) (p q : List Ins) (n k : Nat) : Prop where
  fr : Fr Nob w wr
  sz : w1.heap.size ≤ wr.heap.size
  len : q.length = n
  same : ∀ (j : Nat) (y : Ins), p[j]? = some y → ∃ y', q[j]? = some y' ∧ SameI y y'
  rest : ∀ j : Nat, k ≤ j → q[j]? = p[j]?
  done : ∀ (j : Nat) (y : Ins), j < k → q[j]? = some y → Sl wr (fun b => w1.heap.size ≤ b ∧ b < wr.heap.size) 27 3 y.2.1 y.2.2.1.length (y.2.2.1.flatMap icsEn) ∧ (y.2.2.1 = [] → y.2.1 = .slice none 0 0)
  sl : Sl wr (fun b => w.heap.size ≤ b ∧ b < w1.heap.size) 25 6 v1 n (q.flatMap insEn)
def OwnP (w : World) (p : List Ins) (n : Nat) (e : Ending) (w' : World) : Prop := ∃ (v' : Value) (q : List Ins), e = .returned v' ∧ Fr Nob w w' ∧ q.length = n ∧ (∀ (j : Nat) (y : Ins), p[j]? = some y → ∃ y', q[j]? = some y' ∧ SameI y y') ∧ Sl w' (fun b => w.heap.size ≤ b ∧ b < w'.heap.size) 25 6 v' n (q.flatMap insEn) ∧ ∀ y ∈ q, Sl w' (fun b => w.heap.size ≤ b ∧ b < w'.heap.size) 27 3 y.2.1 y.2.2.1.length (y.2.2.1.flatMap icsEn) ∧ (y.2.2.1 = [] → y.2.1 = .slice none 0 0)
set_option maxHeartbeats 2000000 in
theorem world_own {w : World} {v : Value} {p : List Ins} (n : Nat) (hn : p.length = n) (hb : n ≤ 100) (h : Rd w 6 v n (p.flatMap insEn)) (hok : ∀ y ∈ p, InsOk w y) (hnil : ∀ y ∈ p, y.2.2.1 = [] → y.2.1 = .slice none 0 0) (hcs : ∀ y ∈ p, y.2.2.1.length ≤ 16) :
    Calls Tryz.prog 25 #[v] w (OwnP w p n) := by
  have Hcl := Lib.hid (clone_ins w v (p.flatMap insEn) n (by omega) h (ins_one hok))
  have Hok := Lib.hid hok; have Hnil := Lib.hid hnil; have Hn := Lib.hid hn; have Hcs := Lib.hid hcs
  clear h hok hnil hn hcs
  go_enter Tryz.func25, Tryz.ntmps25
  go_wp2_with fail
  refine Hcl.out.mono ?_
  rintro e w1 ⟨v1, rfl, hf1, hs1⟩
  obtain ⟨A1, c1, rfl⟩ := hs1.slice
  have hst : OwnSt w w1 w1 (.slice A1 n c1) p p n 0 := ⟨hf1, Nat.le_refl _, Hn.out, fun j y hj => ⟨y, hj, SameI.refl y⟩, fun _ _ => rfl, fun j y hj => by omega, hs1⟩
  have Hst := Lib.hid hst; have Hf1 := Lib.hid hf1
  clear hf1 hs1 hst
  go_wp2_with fail
  go_loopw [8] (fun i wr => ∃ (k : Nat) (q : List Ins), k ≤ n ∧ i = .int .i64 k ∧ Hid (OwnSt w w1 wr (.slice A1 n c1) p q n k)) (fun i _ => n - (intOf i).toNat)
  case atStart => exact ⟨0, p, Nat.zero_le _, rfl, Hst⟩
  case round =>
    obtain ⟨k, q, hk, rfl, hr⟩ := hrel
    by_cases hlt : k < n
    · obtain ⟨y, hy⟩ : ∃ y, q[k]? = some y := ⟨q[k]'(by rw [hr.out.len]; exact hlt), by simp⟩
      have hyp : p[k]? = some y := by rw [← hr.out.rest k (Nat.le_refl _)]; exact hy
      have hmem := List.mem_of_getElem? hyp
      obtain ⟨g, off, cp, hv, hg, hgl, hc1, hc2, hc, hfz⟩ := hr.out.sl.form (by omega)
      injection hv with hA hn' hcp
      subst hA; subst hcp
      have q4 := hc _ _ ((insGet q k 4 y hy (by omega)).trans rfl)
      rw [← Nat.add_assoc] at q4
      have f4 := hfz (off + k * 6 + 4)
      have hki : (k : Int) < n := by omega
      have hio := (Hok.out y hmem).fr hr.out.fr
      have Hr := hr
      have Hy := Lib.hid hy; have Hyp := Lib.hid hyp; have Hg := Lib.hid hg; have Hgl := Lib.hid hgl
      by_cases he : y.2.2.1 = []
      · have hv0 := Hnil.out y hmem he
        rw [hv0] at q4
        clear hc hfz hn' hr hmem hio hy hyp hg hgl
        go_wp2_with fail
        refine (clone_nil wr).mono ?_
        rintro e _ ⟨rfl, rfl⟩
        go_wp2_with fail
        obtain ⟨w3, hw3⟩ : ∃ w3, w3 = wr.setCell ⟨g, off + k * 6 + 4, none⟩ (.slice none 0 0) := ⟨_, rfl⟩
        rw [← hw3]
        have hf3 : Fr (fun b => b = g) wr w3 := by rw [hw3]; exact (Fr.refl (fun b => b = g) wr).setCell (p := ⟨g, off + k * 6 + 4, none⟩) (.inl rfl) _
        have hsl : Sl w3 (fun b => w.heap.size ≤ b ∧ b < w1.heap.size) 25 6 (.slice (some ⟨g, off, none⟩) n c1) n (q.flatMap insEn) := by
          have e1 := Hr.out.sl.set (k * 6 + 4) (by omega) (.slice none 0 0)
          rw [insSet q k y _ Hy.out, show (y.1, Value.slice none 0 0, y.2.2) = y by rw [← hv0]] at e1
          have e2 : q.set k y = q := by
            have hlt := (List.getElem?_eq_some_iff.1 Hy.out)
            obtain ⟨hlt, he⟩ := hlt
            rw [← he, List.set_getElem_self]
          rw [e2, ← Nat.add_assoc, ← hw3] at e1
          exact e1
        have hz3 := hf3.size
        have hst : OwnSt w w1 w3 (.slice (some ⟨g, off, none⟩) n c1) p q n (k + 1) := ⟨Hr.out.fr.trans hf3 fun b hb e => by have := Hg.out.1; omega, by have := Hr.out.sz; omega, Hr.out.len, Hr.out.same, fun j hj => Hr.out.rest j (by omega), fun j y' hj hy' => by
          by_cases e : j = k
          · subst e
            rw [Hy.out] at hy'
            cases hy'
            rw [hv0, he]
            exact ⟨Sl.nil _ _ _ _, fun _ => rfl⟩
          · obtain ⟨a, b⟩ := Hr.out.done j y' (by omega) hy'
            exact ⟨(a.fr hf3 fun b q e => by have := Hg.out.2; omega).mono fun b hb q => ⟨q.1, hb⟩, b⟩, hsl⟩
        have Hst2 := Lib.hid hst
        clear hst hsl hf3 hw3 q4 f4
        go_wp2_with fail
        go_roundw
        case rel => exact ⟨k + 1, q, by omega, by go_num, Hst2⟩
        case measure => simp [intOf]; omega
      · have Hc2 := Lib.hid (clone_ics wr y.2.1 (y.2.2.1.flatMap icsEn) y.2.2.1.length (by have := Hcs.out y hmem; omega) hio (ics_one _))
        have hvs : ∃ A2 c2, y.2.1 = .slice A2 y.2.2.1.length c2 := by obtain ⟨_, _, A2, c2, hv, _⟩ := hio; exact ⟨A2, c2, hv⟩
        obtain ⟨A2, c2, hvs⟩ := hvs
        clear hc hfz hn' hr hmem hio hy hyp hg hgl
        rw [hvs] at q4 Hc2
        go_wp2_with fail
        refine Hc2.out.mono ?_
        rintro e w2 ⟨v2, rfl, hf2, hs2⟩
        obtain ⟨A3, c3, rfl⟩ := hs2.slice
        have q42 := hf2.cell (p := ⟨g, off + k * 6 + 4, none⟩) (fun q => q) q4
        have f42 : w2.frozen? ⟨g, off + k * 6 + 4, none⟩ = false := by rw [hf2.frozen (p := ⟨g, off + k * 6 + 4, none⟩) (fun q => q) Hgl.out]; exact f4
        have Hf2 := Lib.hid hf2; have Hs2 := Lib.hid hs2
        clear hf2 hs2 q4 f4
        go_wp2_with fail
        obtain ⟨w3, hw3⟩ : ∃ w3, w3 = w2.setCell ⟨g, off + k * 6 + 4, none⟩ (.slice A3 y.2.2.1.length c3) := ⟨_, rfl⟩
        rw [← hw3]
        have hf3 : Fr (fun b => b = g) w2 w3 := by rw [hw3]; exact (Fr.refl (fun b => b = g) w2).setCell (p := ⟨g, off + k * 6 + 4, none⟩) (.inl rfl) _
        have hsl : Sl w3 (fun b => w.heap.size ≤ b ∧ b < w1.heap.size) 25 6 (.slice (some ⟨g, off, none⟩) n c1) n ((q.set k (y.1, .slice A3 y.2.2.1.length c3, y.2.2)).flatMap insEn) := by
          have e1 := (Hr.out.sl.fr Hf2.out fun _ _ q => q).set (k * 6 + 4) (by omega) (.slice A3 y.2.2.1.length c3)
          rw [insSet q k y _ Hy.out, ← Nat.add_assoc, ← hw3] at e1
          exact e1
        have hz2 := Hf2.out.size
        have hz3 := hf3.size
        have hgw := Hg.out
        have hst : OwnSt w w1 w3 (.slice (some ⟨g, off, none⟩) n c1) p (q.set k (y.1, .slice A3 y.2.2.1.length c3, y.2.2)) n (k + 1) := ⟨(Hr.out.fr.trans0 Hf2.out).trans hf3 fun b hb e => by omega, by have := Hr.out.sz; omega, by rw [List.length_set]; exact Hr.out.len, fun j y' hj => by
          by_cases e : j = k
          · subst e
            rw [Hyp.out] at hj
            cases hj
            exact ⟨_, List.getElem?_set_self (by rw [Hr.out.len]; exact hlt), rfl, rfl, fun q => absurd q he⟩
          · rw [List.getElem?_set_ne (by omega)]; exact Hr.out.same j y' hj, fun j hj => by rw [List.getElem?_set_ne (by omega)]; exact Hr.out.rest j (by omega), fun j y' hj hy' => by
          by_cases e : j = k
          · subst e
            rw [List.getElem?_set_self (by rw [Hr.out.len]; exact hlt)] at hy'
            cases hy'
            refine ⟨(Hs2.out.fr hf3 fun b q e => by have := Hr.out.sz; omega).mono fun b hb q => ⟨by have := Hr.out.sz; omega, hb⟩, fun q => absurd q he⟩
          · rw [List.getElem?_set_ne (by omega)] at hy'
            obtain ⟨a, b⟩ := Hr.out.done j y' (by omega) hy'
            exact ⟨((a.fr Hf2.out fun _ _ q => q).fr hf3 fun b q e => by omega).mono fun b hb q => ⟨q.1, hb⟩, b⟩, hsl⟩
        have Hst2 := Lib.hid hst
        clear hst hsl hf3 hw3 q42 f42
        go_wp2_with fail
        go_roundw
        case rel => exact ⟨k + 1, _, by omega, by go_num, Hst2⟩
        case measure => simp [intOf]; omega
    · obtain rfl : k = n := by omega
      go_wp2_with fail
      go_ret
      refine ⟨_, q, rfl, hr.out.fr, hr.out.len, hr.out.same, hr.out.sl.mono fun b hb q => ⟨q.1, hb⟩, fun y hy => ?_⟩
      obtain ⟨j, hj, e⟩ := List.mem_iff_getElem.1 hy
      obtain ⟨a, b⟩ := hr.out.done j y (by have := hr.out.len; omega) (by rw [List.getElem?_eq_getElem hj, e])
      exact ⟨a.mono fun b hb q => ⟨by have := Hf1.out.size; omega, q.2⟩, b⟩
end Go.Proofs.YtcffplgimbbflaaGreat
