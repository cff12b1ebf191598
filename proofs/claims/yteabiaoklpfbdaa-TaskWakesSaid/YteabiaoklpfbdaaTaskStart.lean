/- What Start and Pick of a table do. -/
import Derived.Test.YteabiaoklpfbdaaTask
set_option linter.unusedVariables false
set_option linter.unusedSimpArgs false
namespace Go.Proofs.Yteabiaoklpfbdaa
open Go.RowKit
set_option maxRecDepth 100000
abbrev regR (r : Nat → Int) : Array Value := #[.int .i64 (r 0), .int .i64 (r 1), .int .i64 (r 2), .int .i64 (r 3), .int .i64 (r 4), .int .i64 (r 5), .int .i64 (r 6), .int .i64 (r 7)]
/-- A task that begins. -/
def newT (prog : Int) (r : Nat → Int) : Nat → Int := fun j => if j = 0 then prog else if 4 ≤ j ∧ j < 12 then r (j - 4) else 0
theorem tkD_new (prog : Int) (r : Nat → Int) : (tkD (newT prog r) false).toArray = #[.int .i64 prog, .int .i64 0, .int .i64 0, .int .i64 0, .int .i64 (r 0), .int .i64 (r 1), .int .i64 (r 2), .int .i64 (r 3), .int .i64 (r 4), .int .i64 (r 5), .int .i64 (r 6), .int .i64 (r 7), .int .i64 0, .int .i64 0, .int .i64 0, .int .i64 0, .slice none 0 0, .bool false] := rfl
set_option maxHeartbeats 2000000 in
theorem task_start {w : World} {S : Nat → Prop} {b : Nat} {ts : List Tk} {line : List Int} (h : TableAt w S b ts line) (prog : Int) (hp : 0 ≤ prog) (r : Nat → Int) (n : Nat) (hn : ts.length = n) (hlt : n < 64) (hline : (n : Int) ∉ line) (hll : line.length < 100000) :
    Calls Try.prog 11 #[.pointer (some ⟨b, 0, none⟩), .int .i64 prog, .agg (regR r)] w fun e w' => ∃ S' : Nat → Prop, e = .returned (.tuple #[.int .i64 (n : Int), .int .i64 0]) ∧ Fr S w w' ∧ TableAt w' S' b (ts ++ [(newT prog r, false)]) (line ++ [(n : Int)]) ∧ ∀ k, S' k → S k ∨ w.heap.size ≤ k := by
  obtain ⟨ab, lb, SA, SL, h⟩ := h
  have hadd : ∀ W, Fr Nob w W → Calls Try.prog 24 #[.pointer (some ⟨ab, 0, none⟩), .agg #[.int .i64 prog, .int .i64 0, .int .i64 0, .int .i64 0, .int .i64 (r 0), .int .i64 (r 1), .int .i64 (r 2), .int .i64 (r 3), .int .i64 (r 4), .int .i64 (r 5), .int .i64 (r 6), .int .i64 (r 7), .int .i64 0, .int .i64 0, .int .i64 0, .int .i64 0, .slice none 0 0, .bool false]] W fun e w' => e = .returned (.tuple #[.int .i64 (n : Int), .int .i64 0]) ∧ Fr SA W w' ∧ TabAt w' (And' S W w') b ab lb (And' SA W w') SL (ts ++ [(newT prog r, false)]) line := fun W hW => by
    have hh := h.fr0 hW
    have := arena_addD W SA ab 64 ts.length (rowsT ts) (newT prog r) false hh.arena (by omega)
    rw [tkD_new, hn] at this
    refine this.mono ?_
    rintro e w' ⟨he, hf, ha⟩
    refine ⟨he, hf, hh.growA hf ?_⟩
    rw [show rowsT (ts ++ [(newT prog r, false)]) = rowsT ts ++ tkD (newT prog r) false by simp [rowsT], List.length_append, hn]
    exact ha
  have hrd : ∀ W SL' , ReadyAt W SL' lb line → Calls Try.prog 25 #[.pointer (some ⟨lb, 0, none⟩), .int .i64 (n : Int)] W fun e w' => e = .returned (.int .i64 0) ∧ Fr SL' W w' ∧ ReadyAt w' (And' SL' W w') lb (line ++ [(n : Int)]) := fun W SL' hr => ready_add W SL' lb line (n : Int) hr (by omega) hline hll
  have c0 := blk_cell h.blk 0 rfl
  have hb := h.blk
  have hbl := lt_of_block hb
  have h0 : ¬ prog < 0 := by omega
  have Hadd := Lib.hid hadd; have Hrd := Lib.hid hrd; have H := Lib.hid h
  clear hadd hrd h hp hn hline hll
  go_enter Try.func11, Try.ntmps11
  go_wp2_with fail
  obtain ⟨w1, hw1⟩ : ∃ w1, w1 = w.alloc (.cells (regR r) 30) := ⟨_, rfl⟩
  rw [← hw1]
  obtain ⟨pb, hpb⟩ : ∃ pb, pb = w.heap.size := ⟨_, rfl⟩
  rw [← hpb]
  have hf1 : Fr Nob w w1 := by rw [hw1]; exact (Fr.refl Nob w).alloc _
  have hp1 : w1.heap[pb]? = some (.cells (regR r) 30 (0, 0)) := by rw [hw1, hpb]; exact heap_alloc_new _ _
  have hpz : pb < w1.heap.size := lt_of_block hp1
  have Hpb := Lib.hid hpb
  have key : ∀ W, Fr SA w1 W → W.cell? ⟨b, 0, none⟩ = some (.pointer (some ⟨ab, 0, none⟩)) ∧ W.cell? ⟨pb, 0, none⟩ = some (.int .i64 (r 0)) ∧ W.cell? ⟨pb, 1, none⟩ = some (.int .i64 (r 1)) ∧ W.cell? ⟨pb, 2, none⟩ = some (.int .i64 (r 2)) ∧ W.cell? ⟨pb, 3, none⟩ = some (.int .i64 (r 3)) ∧ W.cell? ⟨pb, 4, none⟩ = some (.int .i64 (r 4)) ∧ W.cell? ⟨pb, 5, none⟩ = some (.int .i64 (r 5)) ∧ W.cell? ⟨pb, 6, none⟩ = some (.int .i64 (r 6)) ∧ W.cell? ⟨pb, 7, none⟩ = some (.int .i64 (r 7)) := fun W hW => by
    have q := hW.blk (fun q => (H.out.subA _ q).2 rfl) (hf1.blk id hb)
    have p := hW.blk (k := pb) (fun q => by have := H.out.lt _ (H.out.subA _ q).1; have := Hpb.out; omega) hp1
    exact ⟨blk_cell q 0 rfl, blk_cell p 0 rfl, blk_cell p 1 rfl, blk_cell p 2 rfl, blk_cell p 3 rfl, blk_cell p 4 rfl, blk_cell p 5 rfl, blk_cell p 6 rfl, blk_cell p 7 rfl⟩
  have Key := Lib.hid key
  have Hf1 := Lib.hid hf1
  clear hw1 key hb hpb hp1 c0
  have hf0 : Fr SA w1 w1 := Fr.refl _ _
  go_wp2_with fail
  go_region_held3 (fun W => W.cell? ⟨b, 0, none⟩ = some (.pointer (some ⟨ab, 0, none⟩)) ∧ W.cell? ⟨pb, 0, none⟩ = some (.int .i64 (r 0)) ∧ W.cell? ⟨pb, 1, none⟩ = some (.int .i64 (r 1)) ∧ W.cell? ⟨pb, 2, none⟩ = some (.int .i64 (r 2)) ∧ W.cell? ⟨pb, 3, none⟩ = some (.int .i64 (r 3)) ∧ W.cell? ⟨pb, 4, none⟩ = some (.int .i64 (r 4)) ∧ W.cell? ⟨pb, 5, none⟩ = some (.int .i64 (r 5)) ∧ W.cell? ⟨pb, 6, none⟩ = some (.int .i64 (r 6)) ∧ W.cell? ⟨pb, 7, none⟩ = some (.int .i64 (r 7)))
    ((refine Key.out _ ?_; first | with_reducible exact hf2 | with_reducible exact hf0 | exact hf0.drew))
    ((go_at_call 24; refine (Hadd.out w1.drew Hf1.out.drew).mono ?_; rintro e w2 ⟨rfl, hf2', ht2⟩; have hf2 : Fr SA w1 w2 := (hf0.drew).trans0 hf2'; have Ht2 := Lib.hid ht2; clear ht2))
  have Hf2 := Lib.hid hf2
  obtain ⟨q1, hq1⟩ : ∃ q1, q1 = w2.cell? ⟨b, 1, none⟩ := ⟨_, rfl⟩
  have c1 := blk_cell Ht2.out.blk 1 rfl
  clear hf2 hf2' hf0 hq1 q1
  go_wp2_with fail
  refine (Hrd.out w2 SL Ht2.out.ready).mono ?_
  rintro e w3 ⟨rfl, hf3, hr3⟩
  have Hf3 := Lib.hid hf3
  have Ht3 := Lib.hid (Ht2.out.growL hf3 hr3)
  clear hf3 hr3 c1
  go_wp2_with fail
  go_ret2
  refine ⟨_, rfl, ?_, ⟨ab, lb, _, _, Ht3.out⟩, fun k q => ?_⟩
  · have e1 : Fr S w w2 := Hf1.out.none.trans Hf2.out fun k hk q => (H.out.subA k q).1
    exact e1.trans Hf3.out fun k hk q => (H.out.subL k q).1
  · have z1 := Hf1.out.size; have z2 := Hf2.out.size
    rcases q with (q | q) | q
    · exact .inl q
    · exact .inr (by have := q.1; simp at this; omega)
    · exact .inr (by omega)
end Go.Proofs.Yteabiaoklpfbdaa
