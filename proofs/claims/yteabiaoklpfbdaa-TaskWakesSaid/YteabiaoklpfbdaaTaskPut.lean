/- What Pick of a table does, Start of none and of a full one, Put of one that cannot run. -/
import Derived.Test.YteabiaoklpfbdaaTaskWoke
set_option linter.unusedVariables false
set_option linter.unusedSimpArgs false
namespace Go.Proofs.Yteabiaoklpfbdaa
open Go.RowKit
set_option maxRecDepth 100000
section
variable {w : World} {S : Nat → Prop} {b : Nat} {ts : List Tk} {line : List Int} (h : TableAt w S b ts line)
include h
theorem task_pick (k : Int) (n : Nat) (hn : line.length = n) (h0 : 0 < n) : Calls Try.prog 20 #[.pointer (some ⟨b, 0, none⟩), .int .i64 k] w fun e w' => e = .returned (.tuple #[.int .i64 (line.getD (k % n).toNat 0), .bool true]) ∧ Fr Nob w w' := by
  obtain ⟨ab, lb, SA, SL, h⟩ := h
  have c1 := blk_cell h.blk 1 rfl
  have ha := ready_pick w SL lb line k n hn h.ready h0
  have Ha := Lib.hid ha
  generalize line.getD (k % n).toNat 0 = v at *
  clear h ha hn
  go_enter Try.func20, Try.ntmps20
  go_wp2_with fail
  refine Ha.out.mono ?_
  rintro e w1 ⟨rfl, hf⟩
  have Hf := Lib.hid hf
  clear hf
  go_wp2_with fail
  go_ret2
  exact ⟨rfl, Hf.out⟩
end
theorem task_pick_none {w : World} {S : Nat → Prop} {b : Nat} {ts : List Tk} (h : TableAt w S b ts []) (k : Int) : Calls Try.prog 20 #[.pointer (some ⟨b, 0, none⟩), .int .i64 k] w fun e w' => e = .returned (.tuple #[.int .i64 0, .bool false]) ∧ Fr Nob w w' := by
  obtain ⟨ab, lb, SA, SL, h⟩ := h
  have c1 := blk_cell h.blk 1 rfl
  have ha := ready_pick_none w SL lb k h.ready
  have Ha := Lib.hid ha
  clear h ha
  go_enter Try.func20, Try.ntmps20
  go_wp2_with fail
  refine Ha.out.mono ?_
  rintro e w1 ⟨rfl, hf⟩
  have Hf := Lib.hid hf
  clear hf
  go_wp2_with fail
  go_ret2
  exact ⟨rfl, Hf.out⟩
theorem start_nil (w : World) (prog : Int) (r : Nat → Int) : Calls Try.prog 11 #[.pointer none, .int .i64 prog, .agg (regR r)] w fun e w' => e = .returned (.tuple #[.int .i64 0, .int .i64 3]) ∧ Fr Nob w w' := by
  go_enter Try.func11, Try.ntmps11
  go_wp2_with fail
  go_ret2
  exact ⟨rfl, (Fr.refl _ _).alloc _⟩
set_option maxHeartbeats 2000000 in
theorem start_full {w : World} {S : Nat → Prop} {b : Nat} {ts : List Tk} {line : List Int} (h : TableAt w S b ts line) (prog : Int) (hp : 0 ≤ prog) (r : Nat → Int) (hn : ts.length = 64) :
    Calls Try.prog 11 #[.pointer (some ⟨b, 0, none⟩), .int .i64 prog, .agg (regR r)] w fun e w' => e = .returned (.tuple #[.int .i64 0, .int .i64 3]) ∧ Fr Nob w w' := by
  obtain ⟨ab, lb, SA, SL, h⟩ := h
  have hadd : ∀ W, Fr Nob w W → Calls Try.prog 24 #[.pointer (some ⟨ab, 0, none⟩), .agg #[.int .i64 prog, .int .i64 0, .int .i64 0, .int .i64 0, .int .i64 (r 0), .int .i64 (r 1), .int .i64 (r 2), .int .i64 (r 3), .int .i64 (r 4), .int .i64 (r 5), .int .i64 (r 6), .int .i64 (r 7), .int .i64 0, .int .i64 0, .int .i64 0, .int .i64 0, .slice none 0 0, .bool false]] W fun e w' => e = .returned (.tuple #[.int .i64 0, .int .i64 3]) ∧ Fr Nob W w' := fun W hW => by
    have hh := (h.fr0 hW).arena
    rw [hn] at hh
    exact arena_add_full W SA ab 64 (rowsT ts) (newT prog r) false hh
  have hb := h.blk
  have hbl := lt_of_block hb
  have h0 : ¬ prog < 0 := by omega
  have Hadd := Lib.hid hadd
  clear hadd h hp hn
  go_enter Try.func11, Try.ntmps11
  go_wp2_with fail
  obtain ⟨w1, hw1⟩ : ∃ w1, w1 = w.alloc (.cells (regR r) 30) := ⟨_, rfl⟩
  rw [← hw1]
  obtain ⟨pb, hpb⟩ : ∃ pb, pb = w.heap.size := ⟨_, rfl⟩
  rw [← hpb]
  have hf1 : Fr Nob w w1 := by rw [hw1]; exact (Fr.refl Nob w).alloc _
  have hp1 : w1.heap[pb]? = some (.cells (regR r) 30 (0, 0)) := by rw [hw1, hpb]; exact heap_alloc_new _ _
  have hpz : pb < w1.heap.size := lt_of_block hp1
  have key : ∀ W, Fr Nob w1 W → W.cell? ⟨b, 0, none⟩ = some (.pointer (some ⟨ab, 0, none⟩)) ∧ W.cell? ⟨pb, 0, none⟩ = some (.int .i64 (r 0)) ∧ W.cell? ⟨pb, 1, none⟩ = some (.int .i64 (r 1)) ∧ W.cell? ⟨pb, 2, none⟩ = some (.int .i64 (r 2)) ∧ W.cell? ⟨pb, 3, none⟩ = some (.int .i64 (r 3)) ∧ W.cell? ⟨pb, 4, none⟩ = some (.int .i64 (r 4)) ∧ W.cell? ⟨pb, 5, none⟩ = some (.int .i64 (r 5)) ∧ W.cell? ⟨pb, 6, none⟩ = some (.int .i64 (r 6)) ∧ W.cell? ⟨pb, 7, none⟩ = some (.int .i64 (r 7)) := fun W hW => by
    have q := hW.blk id (hf1.blk id hb)
    have p := hW.blk (k := pb) id hp1
    exact ⟨blk_cell q 0 rfl, blk_cell p 0 rfl, blk_cell p 1 rfl, blk_cell p 2 rfl, blk_cell p 3 rfl, blk_cell p 4 rfl, blk_cell p 5 rfl, blk_cell p 6 rfl, blk_cell p 7 rfl⟩
  have Key := Lib.hid key
  have Hf1 := Lib.hid hf1
  clear hw1 key hb hpb hp1
  have hf0 : Fr Nob w1 w1 := Fr.refl _ _
  go_wp2_with fail
  go_region_held3 (fun W => W.cell? ⟨b, 0, none⟩ = some (.pointer (some ⟨ab, 0, none⟩)) ∧ W.cell? ⟨pb, 0, none⟩ = some (.int .i64 (r 0)) ∧ W.cell? ⟨pb, 1, none⟩ = some (.int .i64 (r 1)) ∧ W.cell? ⟨pb, 2, none⟩ = some (.int .i64 (r 2)) ∧ W.cell? ⟨pb, 3, none⟩ = some (.int .i64 (r 3)) ∧ W.cell? ⟨pb, 4, none⟩ = some (.int .i64 (r 4)) ∧ W.cell? ⟨pb, 5, none⟩ = some (.int .i64 (r 5)) ∧ W.cell? ⟨pb, 6, none⟩ = some (.int .i64 (r 6)) ∧ W.cell? ⟨pb, 7, none⟩ = some (.int .i64 (r 7)))
    ((refine Key.out _ ?_; first | with_reducible exact hf2 | with_reducible exact hf0 | exact hf0.drew))
    ((go_at_call 24; refine (Hadd.out w1.drew Hf1.out.drew).mono ?_; rintro e w2 ⟨rfl, hf2'⟩; have hf2 : Fr Nob w1 w2 := (hf0.drew).trans0 hf2'))
  have Hf2 := Lib.hid hf2
  clear hf2 hf2' hf0
  go_wp2_with fail
  go_ret2
  exact ⟨rfl, Hf1.out.trans0 Hf2.out⟩
set_option maxHeartbeats 2000000 in
theorem put_done {w : World} {S : Nat → Prop} {b : Nat} {ts : List Tk} {line : List Int} (h : TableAt w S b ts line) (i : Nat) (t : Nat → Int) (d : Bool) (hi : ts[i]? = some (t, d)) (pc : Int) (r : Nat → Int) (h2 : (t 2 == 0) = false) :
    Calls Try.prog 21 #[.pointer (some ⟨b, 0, none⟩), .int .i64 (i : Int), .int .i64 pc, .agg (regR r)] w fun e w' => e = .returned (.int .i64 8) ∧ Fr Nob w w' := by
  have His := Lib.hid (fun W (hW : Fr Nob w W) => is_runs (w := W) (S := S) (b := b) (ts := ts) (line := line) (by obtain ⟨ab, lb, SA, SL, h⟩ := h; exact ⟨ab, lb, SA, SL, h.fr0 hW⟩) i t d hi false (fun W => by have := so_runs W (t 2); rw [h2] at this; exact this) 8 rfl)
  clear h hi h2
  go_enter Try.func21, Try.ntmps21
  go_wp2_with fail
  refine (His.out _ ((Fr.refl _ _).alloc _)).mono ?_
  rintro e w2 ⟨rfl, hf2⟩
  have Hf2 := Lib.hid (((Fr.refl Nob w).alloc _).trans0 hf2)
  clear hf2
  have hzn : (w2.alloc (.cells tkZ.toArray 44)).heap[w2.heap.size]? = some (.cells tkZ.toArray 44 (0, 0)) := heap_alloc_new _ _
  unfold tkZ at hzn
  dsimp only [tkL] at hzn
  go_wp2_with (refine wpList_store_row _ rfl 44 (.tmp 9) (.tmp 15) rfl w2.heap.size (tkD t d).toArray _ 44 rfl rfl hzn rfl (info18 t d) (tkD_all t d) ?_; intro w3 hb3 hf3; have Hb3 := Lib.hid hb3; have Hf3 := Lib.hid hf3; clear hb3 hf3)
  go_ret
  exact ⟨rfl, Hf2.out.trans0 (((Fr.refl Nob w2).alloc _).trans Hf3.out fun k hk e => by omega)⟩
end Go.Proofs.Yteabiaoklpfbdaa
