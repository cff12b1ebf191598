/- TopTickers answers true whatever its inputs are: no condition. -/
import Derived.Test.YtcffplgimbbflaaGreatTkQ7
set_option linter.unusedVariables false
set_option linter.unusedSimpArgs false
namespace Go.Proofs.YtcffplgimbbflaaGreat
open Go.RowKit
set_option maxRecDepth 100000
/-- A task: its 16 numbers, its instruction's default. -/
abbrev Tk := (Nat → Int) × Bool × Value
def tkC (c : Value) (t : Nat → Int) (d : Bool) : List Value := [.int .i64 (t 0), .int .i64 (t 1), .int .i64 (t 2), .int .i64 (t 3), .int .i64 (t 4), .int .i64 (t 5), .int .i64 (t 6), .int .i64 (t 7), .int .i64 (t 8), .int .i64 (t 9), .int .i64 (t 10), .int .i64 (t 11), .int .i64 (t 12), .int .i64 (t 13), .int .i64 (t 14), .int .i64 (t 15), c, .bool d]
theorem tkC_nil (t : Nat → Int) (d : Bool) : tkC (.slice none 0 0) t d = tkD t d := rfl
theorem tkC_len (c : Value) (t : Nat → Int) (d : Bool) : (tkC c t d).length = 18 := rfl
abbrev tkE (x : Tk) : List Value := tkC x.2.2 x.1 x.2.1
abbrev rowsT (ts : List Tk) : List Value := ts.flatMap tkE
abbrev ArT (w : World) (S : Nat → Prop) (b n : Nat) (cs : List Value) : Prop := ArenaAt 161 98 18 w S b 64 n cs
def tabObj (ab lb : Nat) : Obj := .cells #[.pointer (some ⟨ab, 0, none⟩), .pointer (some ⟨lb, 0, none⟩)] 102 (0, 0)
structure TabAt (w : World) (S : Nat → Prop) (b ab lb : Nat) (SA SL : Nat → Prop) (ts : List Tk) (line : List Int) : Prop where
  own : S b
  lt : ∀ k, S k → k < w.heap.size
  subA : ∀ k, SA k → S k ∧ k ≠ b
  subL : ∀ k, SL k → S k ∧ k ≠ b ∧ ¬ SA k
  blk : w.heap[b]? = some (tabObj ab lb)
  arena : ArT w SA ab ts.length (rowsT ts)
  ready : ReadyAt w SL lb line
def TableAt (w : World) (S : Nat → Prop) (b : Nat) (ts : List Tk) (line : List Int) : Prop := ∃ (ab lb : Nat) (SA SL : Nat → Prop), TabAt w S b ab lb SA SL ts line
theorem rowsT_get (ts : List Tk) (i : Nat) (x : Tk) (h : ts[i]? = some x) (j : Nat) (hj : j < 18) : (rowsT ts)[i * 18 + j]? = (tkE x)[j]? := by
  induction ts generalizing i with
  | nil => simp at h
  | cons y ts ih =>
    cases i with
    | zero => simp at h; subst h; simp only [rowsT, List.flatMap_cons, Nat.zero_mul, Nat.zero_add]; rw [List.getElem?_append_left (by rw [tkC_len]; exact hj)]
    | succ i =>
      simp only [rowsT, List.flatMap_cons]
      rw [List.getElem?_append_right (by rw [tkC_len]; omega), tkC_len, show (i + 1) * 18 + j - 18 = i * 18 + j by omega]
      exact ih i (by simpa using h)
theorem rowsT_set (ts : List Tk) (i : Nat) (x : Tk) (hi : i < ts.length) : rowSet (rowsT ts) i (tkE x) = rowsT (ts.set i x) := by
  induction ts generalizing i with
  | nil => simp at hi
  | cons y ts ih =>
    cases i with
    | zero =>
      simp only [rowSet, rowsT, List.flatMap_cons, Nat.zero_mul, Nat.zero_add, List.set_cons_zero, List.take_zero, List.nil_append]
      rw [List.drop_append, tkC_len, List.drop_of_length_le (by rw [tkC_len]; omega)]
      simp
    | succ i =>
      have := ih i (by simpa using hi)
      simp only [rowSet, rowsT, List.flatMap_cons, List.set_cons_succ] at this ⊢
      rw [← this, List.take_append, List.drop_append, tkC_len, List.take_of_length_le (by rw [tkC_len]; omega), List.drop_of_length_le (by rw [tkC_len]; omega), show (i + 1) * 18 - 18 = i * 18 by omega, show (i + 1) * 18 + 18 - 18 = i * 18 + 18 by omega]
      simp
section
variable {w w' : World} {S : Nat → Prop} {b ab lb : Nat} {SA SL : Nat → Prop} {ts : List Tk} {line : List Int}
theorem TabAt.fr (h : TabAt w S b ab lb SA SL ts line) {F : Nat → Prop} (hf : Fr F w w') (hd : ∀ k, S k → F k → False) : TabAt w' S b ab lb SA SL ts line :=
  ⟨h.own, fun k q => by have := h.lt k q; have := hf.size; omega, h.subA, h.subL, hf.blk (hd _ h.own) h.blk, h.arena.fr hf fun k q => hd k (h.subA k q).1, h.ready.fr hf fun k q => hd k (h.subL k q).1⟩
theorem TabAt.fr0 (h : TabAt w S b ab lb SA SL ts line) (hf : Fr Nob w w') : TabAt w' S b ab lb SA SL ts line := h.fr hf fun _ _ q => q
theorem TabAt.setA (h : TabAt w S b ab lb SA SL ts line) (hf : Fr SA w w') {ts' : List Tk} (ha : ArT w' SA ab ts'.length (rowsT ts')) : TabAt w' S b ab lb SA SL ts' line :=
  ⟨h.own, fun k q => by have := h.lt k q; have := hf.size; omega, h.subA, h.subL, hf.blk (fun q => (h.subA _ q).2 rfl) h.blk, ha, h.ready.fr hf fun k q q' => (h.subL k q).2.2 q'⟩
theorem TabAt.growA (h : TabAt w S b ab lb SA SL ts line) (hf : Fr SA w w') {ts' : List Tk} (ha : ArT w' (And' SA w w') ab ts'.length (rowsT ts')) : TabAt w' (And' S w w') b ab lb (And' SA w w') SL ts' line := by
  refine ⟨.inl h.own, fun k q => ?_, fun k q => ?_, fun k q => ⟨.inl (h.subL k q).1, (h.subL k q).2.1, fun q' => ?_⟩, hf.blk (fun q => (h.subA _ q).2 rfl) h.blk, ha, h.ready.fr hf fun k q q' => (h.subL k q).2.2 q'⟩
  · rcases q with q | q
    · have := h.lt k q; have := hf.size; omega
    · exact q.2
  · rcases q with q | q
    · exact ⟨.inl (h.subA k q).1, (h.subA k q).2⟩
    · exact ⟨.inr q, fun e => by have := h.lt b h.own; omega⟩
  · rcases q' with q' | q'
    · exact (h.subL k q).2.2 q'
    · have := h.lt k (h.subL k q).1; omega
theorem TabAt.setL (h : TabAt w S b ab lb SA SL ts line) (hf : Fr SL w w') {line' : List Int} (hr : ReadyAt w' SL lb line') : TabAt w' S b ab lb SA SL ts line' :=
  ⟨h.own, fun k q => by have := h.lt k q; have := hf.size; omega, h.subA, h.subL, hf.blk (fun q => (h.subL _ q).2.1 rfl) h.blk, h.arena.fr hf fun k q q' => (h.subL k q').2.2 q, hr⟩
theorem TabAt.growL (h : TabAt w S b ab lb SA SL ts line) (hf : Fr SL w w') {line' : List Int} (hr : ReadyAt w' (And' SL w w') lb line') : TabAt w' (And' S w w') b ab lb SA (And' SL w w') ts line' := by
  refine ⟨.inl h.own, fun k q => ?_, fun k q => ⟨.inl (h.subA k q).1, (h.subA k q).2⟩, fun k q => ?_, hf.blk (fun q => (h.subL _ q).2.1 rfl) h.blk, h.arena.fr hf fun k q q' => (h.subL k q').2.2 q, hr⟩
  · rcases q with q | q
    · have := h.lt k q; have := hf.size; omega
    · exact q.2
  · rcases q with q | q
    · exact ⟨.inl (h.subL k q).1, (h.subL k q).2⟩
    · exact ⟨.inr q, fun e => by have := h.lt b h.own; omega, fun e => by have := h.lt k (h.subA k e).1; omega⟩
end
theorem task_new (w : World) : Calls Tryz.prog 21 #[] w fun e w' => ∃ (b : Nat) (S : Nat → Prop), e = .returned (.pointer (some ⟨b, 0, none⟩)) ∧ Fr Nob w w' ∧ TableAt w' S b [] [] ∧ ∀ k, S k → w.heap.size ≤ k := by
  have Ha := Lib.hid (arena_new 64 w (by omega) (by omega))
  have Hr := Lib.hid (fun W => ready_new W)
  go_enter Tryz.func21, Tryz.ntmps21
  go_wp2_with fail
  refine Ha.out.mono ?_
  rintro e w1 ⟨ab, rfl, hf1, ha1⟩
  have Hf1 := Lib.hid hf1; have Ha1 := Lib.hid ha1
  clear hf1 ha1
  go_wp2_with fail
  refine (Hr.out w1).mono ?_
  rintro e w2 ⟨lb, rfl, hf2, hr2⟩
  have Hf2 := Lib.hid hf2; have Hr2 := Lib.hid hr2
  clear hf2 hr2
  go_wp2_with fail
  go_ret
  have hz1 := Hf1.out.size; have hz2 := Hf2.out.size
  refine ⟨w2.heap.size, fun k => w.heap.size ≤ k ∧ k < w2.heap.size + 1, rfl, (Hf1.out.trans0 Hf2.out).alloc _, ⟨ab, lb, fun k => w.heap.size ≤ k ∧ k < w1.heap.size, fun k => w1.heap.size ≤ k ∧ k < w2.heap.size, ⟨by omega, by omega⟩, fun k q => by simp; omega, fun k q => by omega, fun k q => by omega, heap_alloc_new _ _, ?_, ?_⟩, fun k q => q.1⟩
  · exact (Ha1.out.fr Hf2.out fun _ _ q => q).fr ((Fr.refl Nob w2).alloc _) fun _ _ q => q
  · exact Hr2.out.fr ((Fr.refl Nob w2).alloc _) fun _ _ q => q
section
variable {w : World} {S : Nat → Prop} {b : Nat} {ts : List Tk} {line : List Int} (h : TableAt w S b ts line)
include h
theorem task_ready (n : Nat) (hn : line.length = n) : Calls Tryz.prog 54 #[.pointer (some ⟨b, 0, none⟩)] w fun e w' => ∃ (A : Option Addr) (cp : Nat), e = .returned (.slice A n cp) ∧ Fr Nob w w' ∧ Sl w' (From w.heap.size) 3 1 (.slice A n cp) n (ints line) := by
  obtain ⟨ab, lb, SA, SL, h⟩ := h
  have c1 := blk_cell h.blk 1 rfl
  have ha := ready_all w SL lb line n hn h.ready
  have Ha := Lib.hid ha
  clear h ha hn
  go_enter Tryz.func54, Tryz.ntmps54
  go_wp2_with fail
  refine Ha.out.mono ?_
  rintro e w1 ⟨v, rfl, hf, hs⟩
  obtain ⟨A, cp, rfl⟩ := hs.slice
  have Hf := Lib.hid hf; have Hs := Lib.hid hs
  clear hf hs
  go_wp2_with fail
  go_ret
  exact ⟨A, cp, rfl, Hf.out, Hs.out⟩
end
abbrev regR (r : Nat → Int) : Array Value := #[.int .i64 (r 0), .int .i64 (r 1), .int .i64 (r 2), .int .i64 (r 3), .int .i64 (r 4), .int .i64 (r 5), .int .i64 (r 6), .int .i64 (r 7)]
/-- A task that begins. -/
def newT (prog : Int) (r : Nat → Int) : Nat → Int := fun j => if j = 0 then prog else if 4 ≤ j ∧ j < 12 then r (j - 4) else 0
theorem tkD_new (prog : Int) (r : Nat → Int) : (tkD (newT prog r) false).toArray = #[.int .i64 prog, .int .i64 0, .int .i64 0, .int .i64 0, .int .i64 (r 0), .int .i64 (r 1), .int .i64 (r 2), .int .i64 (r 3), .int .i64 (r 4), .int .i64 (r 5), .int .i64 (r 6), .int .i64 (r 7), .int .i64 0, .int .i64 0, .int .i64 0, .int .i64 0, .slice none 0 0, .bool false] := rfl
set_option maxHeartbeats 2000000 in
theorem task_start {w : World} {S : Nat → Prop} {b : Nat} {ts : List Tk} {line : List Int} (h : TableAt w S b ts line) (prog : Int) (hp : 0 ≤ prog) (r : Nat → Int) (n : Nat) (hn : ts.length = n) (hlt : n < 64) (hline : (n : Int) ∉ line) (hll : line.length < 100000) :
    Calls Tryz.prog 26 #[.pointer (some ⟨b, 0, none⟩), .int .i64 prog, .agg (regR r)] w fun e w' => ∃ S' : Nat → Prop, e = .returned (.tuple #[.int .i64 (n : Int), .int .i64 0]) ∧ Fr S w w' ∧ TableAt w' S' b (ts ++ [(newT prog r, false, .slice none 0 0)]) (line ++ [(n : Int)]) ∧ ∀ k, S' k → S k ∨ w.heap.size ≤ k := by
  obtain ⟨ab, lb, SA, SL, h⟩ := h
  have hadd : ∀ W, Fr Nob w W → Calls Tryz.prog 48 #[.pointer (some ⟨ab, 0, none⟩), .agg #[.int .i64 prog, .int .i64 0, .int .i64 0, .int .i64 0, .int .i64 (r 0), .int .i64 (r 1), .int .i64 (r 2), .int .i64 (r 3), .int .i64 (r 4), .int .i64 (r 5), .int .i64 (r 6), .int .i64 (r 7), .int .i64 0, .int .i64 0, .int .i64 0, .int .i64 0, .slice none 0 0, .bool false]] W fun e w' => e = .returned (.tuple #[.int .i64 (n : Int), .int .i64 0]) ∧ Fr SA W w' ∧ TabAt w' (And' S W w') b ab lb (And' SA W w') SL (ts ++ [(newT prog r, false, .slice none 0 0)]) line := fun W hW => by
    have hh := h.fr0 hW
    have := arena_addD W SA ab 64 ts.length (rowsT ts) (newT prog r) false hh.arena (by omega)
    rw [tkD_new, hn] at this
    refine this.mono ?_
    rintro e w' ⟨he, hf, ha⟩
    refine ⟨he, hf, hh.growA hf ?_⟩
    rw [show rowsT (ts ++ [(newT prog r, false, .slice none 0 0)]) = rowsT ts ++ tkD (newT prog r) false by simp [rowsT, tkE, tkC_nil], List.length_append, hn]
    exact ha
  have hrd : ∀ W SL' , ReadyAt W SL' lb line → Calls Tryz.prog 49 #[.pointer (some ⟨lb, 0, none⟩), .int .i64 (n : Int)] W fun e w' => e = .returned (.int .i64 0) ∧ Fr SL' W w' ∧ ReadyAt w' (And' SL' W w') lb (line ++ [(n : Int)]) := fun W SL' hr => ready_add W SL' lb line (n : Int) hr (by omega) hline hll
  have c0 := blk_cell h.blk 0 rfl
  have hb := h.blk
  have hbl := lt_of_block hb
  have h0 : ¬ prog < 0 := by omega
  have Hadd := Lib.hid hadd; have Hrd := Lib.hid hrd; have H := Lib.hid h
  clear hadd hrd h hp hn hline hll
  go_enter Tryz.func26, Tryz.ntmps26
  go_wp2_with fail
  obtain ⟨w1, hw1⟩ : ∃ w1, w1 = w.alloc (.cells (regR r) 74) := ⟨_, rfl⟩
  rw [← hw1]
  obtain ⟨pb, hpb⟩ : ∃ pb, pb = w.heap.size := ⟨_, rfl⟩
  rw [← hpb]
  have hf1 : Fr Nob w w1 := by rw [hw1]; exact (Fr.refl Nob w).alloc _
  have hp1 : w1.heap[pb]? = some (.cells (regR r) 74 (0, 0)) := by rw [hw1, hpb]; exact heap_alloc_new _ _
  have hpz : pb < w1.heap.size := lt_of_block hp1
  have Hpb := Lib.hid hpb
  have key : ∀ W, Fr SA w1 W → W.cell? ⟨b, 0, none⟩ = some (.pointer (some ⟨ab, 0, none⟩)) ∧ W.cell? ⟨pb, 0, none⟩ = some (.int .i64 (r 0)) ∧ W.cell? ⟨pb, 1, none⟩ = some (.int .i64 (r 1)) ∧ W.cell? ⟨pb, 2, none⟩ = some (.int .i64 (r 2)) ∧ W.cell? ⟨pb, 3, none⟩ = some (.int .i64 (r 3)) ∧ W.cell? ⟨pb, 4, none⟩ = some (.int .i64 (r 4)) ∧ W.cell? ⟨pb, 5, none⟩ = some (.int .i64 (r 5)) ∧ W.cell? ⟨pb, 6, none⟩ = some (.int .i64 (r 6)) ∧ W.cell? ⟨pb, 7, none⟩ = some (.int .i64 (r 7)) := fun W hW => by
    have q := hW.blk (fun q => (H.out.subA _ q).2 rfl) (hf1.blk id hb)
    have p := hW.blk (k := pb) (fun q => by have := H.out.lt _ (H.out.subA _ q).1; have := Hpb.out; omega) hp1
    exact ⟨blk_cell q 0 rfl, blk_cell p 0 rfl, blk_cell p 1 rfl, blk_cell p 2 rfl, blk_cell p 3 rfl, blk_cell p 4 rfl, blk_cell p 5 rfl, blk_cell p 6 rfl, blk_cell p 7 rfl⟩
  have Key := Lib.hid key
  have Hf1 := Lib.hid hf1
  clear hw1 key hb hpb hp1 c0
  have hf0 : Fr SA w1 w1 := Fr.refl _ _
  go_wp2_with fail
  go_region_held3 (fun W => W.cell? ⟨b, 0, none⟩ = some (.pointer (some ⟨ab, 0, none⟩)) ∧ W.cell? ⟨pb, 0, none⟩ = some (.int .i64 (r 0)) ∧ W.cell? ⟨pb, 1, none⟩ = some (.int .i64 (r 1)) ∧ W.cell? ⟨pb, 2, none⟩ = some (.int .i64 (r 2)) ∧ W.cell? ⟨pb, 3, none⟩ = some (.int .i64 (r 3)) ∧ W.cell? ⟨pb, 4, none⟩ = some (.int .i64 (r 4)) ∧ W.cell? ⟨pb, 5, none⟩ = some (.int .i64 (r 5)) ∧ W.cell? ⟨pb, 6, none⟩ = some (.int .i64 (r 6)) ∧ W.cell? ⟨pb, 7, none⟩ = some (.int .i64 (r 7)))
    ((refine Key.out _ ?_; first | with_reducible exact hf2 | with_reducible exact hf0 | exact hf0.drew))
    ((go_at_call 48; refine (Hadd.out w1.drew Hf1.out.drew).mono ?_; rintro e w2 ⟨rfl, hf2', ht2⟩; have hf2 : Fr SA w1 w2 := (hf0.drew).trans0 hf2'; have Ht2 := Lib.hid ht2; clear ht2))
  have Hf2 := Lib.hid hf2
  obtain ⟨q1, hq1⟩ : ∃ q1, q1 = w2.cell? ⟨b, 1, none⟩ := ⟨_, rfl⟩
  have c1 := blk_cell Ht2.out.blk 1 rfl
  clear hf2 hf2' hf0 hq1 q1
  go_wp2_with fail
  refine (Hrd.out w2 SL Ht2.out.ready).mono ?_
  rintro e w3 ⟨rfl, hf3, hr3⟩
  have Hf3 := Lib.hid hf3
  have Ht3 := Lib.hid (Ht2.out.growL hf3 hr3)
  clear hf3 hr3 c1
  go_wp2_with fail
  go_ret2
  refine ⟨_, rfl, ?_, ⟨ab, lb, _, _, Ht3.out⟩, fun k q => ?_⟩
  · have e1 : Fr S w w2 := Hf1.out.none.trans Hf2.out fun k hk q => (H.out.subA k q).1
    exact e1.trans Hf3.out fun k hk q => (H.out.subL k q).1
  · have z1 := Hf1.out.size; have z2 := Hf2.out.size
    rcases q with (q | q) | q
    · exact .inl q
    · exact .inr (by have := q.1; simp at this; omega)
    · exact .inr (by omega)
theorem clone_nil (w : World) : Calls Tryz.prog 47 #[.slice none 0 0] w fun e w' => e = .returned (.slice none 0 0) ∧ w = w' := by
  have hk := fun w : World => Lib.run_eql_slice_nil (P := Tryz.prog) w 23 27 none 0 0 0 0 Tryz.underlying23
  go_enter Tryz.func47, Tryz.ntmps47
  go_wp2_with fail
  go_ret
  exact ⟨rfl, rfl⟩
theorem tkD_size (t : Nat → Int) (d : Bool) : (tkD t d).toArray.size = 18 := rfl
theorem info18 (t : Nat → Int) (d : Bool) : (Tryz.prog.info? 98).map (fun i => i.size) = some (tkD t d).toArray.size := by rw [tkD_size]; exact info_task18
set_option maxHeartbeats 2000000 in
theorem task_get {w : World} {S : Nat → Prop} {b : Nat} {ts : List Tk} {line : List Int} (h : TableAt w S b ts line) (i : Nat) (t : Nat → Int) (d : Bool) (hi : ts[i]? = some (t, d, .slice none 0 0)) :
    Calls Tryz.prog 56 #[.pointer (some ⟨b, 0, none⟩), .int .i64 (i : Int)] w fun e w' => e = .returned (.tuple #[.agg (tkD t d).toArray, .bool true]) ∧ Fr Nob w w' := by
  obtain ⟨ab, lb, SA, SL, h⟩ := h
  have hg := fun W (hW : Fr Nob w W) => arena_get W SA ab 64 ts.length (rowsT ts) i t d (h.fr0 hW).arena (List.getElem?_eq_some_iff.1 hi).1 (fun j hj => rowsT_get ts i (t, d, .slice none 0 0) hi j hj)
  have hb := h.blk
  have Hg := Lib.hid hg; have Hb := Lib.hid hb; have Hcl := Lib.hid (fun W => clone_nil W)
  clear hg h hb hi
  go_enter Tryz.func56, Tryz.ntmps56
  have c00 := ((Fr.refl Nob w).alloc (.cells tkZ.toArray 98)).cell id (blk_cell Hb.out 0 rfl)
  unfold tkZ at c00
  dsimp only [tkL] at c00
  go_wp2_with fail
  obtain ⟨w1, hw1⟩ : ∃ w1, w1 = w.alloc (.cells tkZ.toArray 98) := ⟨_, rfl⟩
  have hw1' := hw1
  unfold tkZ at hw1'
  dsimp only [tkL] at hw1'
  rw [← hw1']
  clear hw1' c00
  obtain ⟨rb, hrb⟩ : ∃ rb, rb = w.heap.size := ⟨_, rfl⟩
  rw [← hrb]
  have hf1 : Fr Nob w w1 := by rw [hw1]; exact (Fr.refl Nob w).alloc _
  have hb1 : w1.heap[rb]? = some (.cells tkZ.toArray 98 (0, 0)) := by rw [hw1, hrb]; exact heap_alloc_new _ _
  have Hz1 : Hid (w.heap.size = rb ∧ rb < w1.heap.size) := ⟨hrb.symm, lt_of_block hb1⟩
  have Hf1 := Lib.hid hf1; have Hb1 := Lib.hid hb1
  clear hw1 hrb hf1 hb1
  refine (Hg.out w1 Hf1.out).mono ?_
  rintro e w2 ⟨rfl, hf2⟩
  have Hb2 := Lib.hid (hf2.blk id Hb1.out); have Hf2 := Lib.hid (Hf1.out.trans0 hf2); have Hz2 := Lib.hid hf2.size
  clear hf2
  have hzn : (w2.alloc (.cells tkZ.toArray 98)).heap[w2.heap.size]? = some (.cells tkZ.toArray 98 (0, 0)) := heap_alloc_new _ _
  unfold tkZ at hzn
  dsimp only [tkL] at hzn
  go_wp2_with (refine wpList_store_row _ rfl 98 (.tmp 6) (.tmp 18) rfl w2.heap.size (tkD t d).toArray _ 98 rfl rfl hzn rfl (info18 t d) (tkD_all t d) ?_; intro w3 hb3 hf3; have c16 : w3.cell? ⟨w2.heap.size, 16, none⟩ = some (.slice none 0 0) := blk_cell hb3 16 rfl; have f16 := blk_froz hb3 16; have Hb3 := Lib.hid hb3; have Hf3 := Lib.hid hf3; clear hb3 hf3)
  obtain ⟨tb, htb⟩ : ∃ tb, tb = w2.heap.size := ⟨_, rfl⟩
  rw [← htb] at Hb3 Hf3 c16 f16 ⊢
  have Htb : Hid (w2.heap.size = tb) := htb.symm
  refine (Hcl.out w3).mono ?_
  rintro e _ ⟨rfl, rfl⟩
  have hf23 : Fr Nob w2 w3 := ((Fr.refl Nob w2).alloc _).trans Hf3.out fun k hk e => by have := Htb.out; omega
  have hrt : rb ≠ tb := by have := Htb.out; have := Hz1.out; have := Hz2.out; omega
  have hb4 : (w3.setCell ⟨tb, 16, none⟩ (.slice none 0 0)).heap[tb]? = some (.cells (tkD t d).toArray 98 (0, 0)) := blk_set Hb3.out 16 _
  have hr4 : (w3.setCell ⟨tb, 16, none⟩ (.slice none 0 0)).heap[rb]? = some (.cells tkZ.toArray 98 (0, 0)) := (blk_set_ne 16 _ hrt).trans (hf23.blk id Hb2.out)
  have Hb4 := Lib.hid hb4; have Hr4 := Lib.hid hr4; have Hf23 := Lib.hid hf23; have Hrt := Lib.hid hrt
  clear hb4 hr4 hf23 hrt htb
  go_wp2_with (first | (refine wpList_load_row rfl 98 (.tmp 6) rfl tb rfl 98 (tkD t d).toArray (0, 0) _ Hb4.out Tryz.underlying98 rfl (info18 t d) ?_) | (refine wpList_store_row _ rfl 98 (.tmp 4) (.tmp 26) rfl rb (tkD t d).toArray _ 98 rfl rfl Hr4.out rfl (info18 t d) (tkD_all t d) ?_; intro w5 hb5 hf5; have Hb5 := Lib.hid hb5; have Hf5 := Lib.hid hf5; clear hb5 hf5))
  refine bodyPost_ret (res_row2 Tryz.results56 _ _ rb 98 (tkD t d).toArray (0, 0) _ (.bool true) rfl rfl Hb5.out Tryz.underlying98 rfl (info18 t d)) rfl ⟨rfl, ?_⟩
  have e1 : Fr Nob w2 (w3.setCell ⟨tb, 16, none⟩ (.slice none 0 0)) := Hf23.out.trans (((Fr.refl (fun k => k = tb) w3)).setT 16 _) fun k hk e => by have := Htb.out; omega
  exact (Hf2.out.trans0 e1).trans Hf5.out fun k hk e => by have := Hz1.out; omega
set_option maxHeartbeats 2000000 in
theorem is_runs {w : World} {S : Nat → Prop} {b : Nat} {ts : List Tk} {line : List Int} (h : TableAt w S b ts line) (i : Nat) (t : Nat → Int) (d : Bool) (hi : ts[i]? = some (t, d, .slice none 0 0)) (p : Bool) (hF : ∀ W, Calls Tryz.prog 102 #[.int .i64 (t 2)] W fun e w' => e = .returned (.bool p) ∧ W = w') (er : Int) (her : er = if p then 0 else 8) :
    Calls Tryz.prog 98 #[.pointer (some ⟨b, 0, none⟩), .int .i64 (i : Int), .func (.func 102) #[] #[]] w fun e w' => e = .returned (.tuple #[.agg (tkD t d).toArray, .int .i64 er]) ∧ Fr Nob w w' := by
  have hg := fun W (hW : Fr Nob w W) => task_get (w := W) (S := S) (b := b) (ts := ts) (line := line) (by obtain ⟨ab, lb, SA, SL, h⟩ := h; exact ⟨ab, lb, SA, SL, h.fr0 hW⟩) i t d hi
  have Hg := Lib.hid hg; have HF := Lib.hid hF
  clear hg h hi hF
  go_enter Tryz.func98, Tryz.ntmps98
  go_wp2_with fail
  obtain ⟨w1, hw1⟩ : ∃ w1, w1 = w.alloc (.cells tkZ.toArray 98) := ⟨_, rfl⟩
  have hw1' := hw1
  unfold tkZ at hw1'
  dsimp only [tkL] at hw1'
  rw [← hw1']
  clear hw1'
  obtain ⟨rb, hrb⟩ : ∃ rb, rb = w.heap.size := ⟨_, rfl⟩
  rw [← hrb]
  have hf1 : Fr Nob w w1 := by rw [hw1]; exact (Fr.refl Nob w).alloc _
  have hb1 : w1.heap[rb]? = some (.cells tkZ.toArray 98 (0, 0)) := by rw [hw1, hrb]; exact heap_alloc_new _ _
  have Hz1 : Hid (w.heap.size = rb ∧ rb < w1.heap.size) := ⟨hrb.symm, lt_of_block hb1⟩
  have Hf1 := Lib.hid hf1; have Hb1 := Lib.hid hb1
  clear hw1 hrb hf1 hb1
  refine (Hg.out w1 Hf1.out).mono ?_
  rintro e w2 ⟨rfl, hf2⟩
  have Hb2 := Lib.hid (hf2.blk id Hb1.out); have Hf2 := Lib.hid (Hf1.out.trans0 hf2); have Hz2 := Lib.hid hf2.size
  clear hf2
  have hzn : (w2.alloc (.cells tkZ.toArray 98)).heap[w2.heap.size]? = some (.cells tkZ.toArray 98 (0, 0)) := heap_alloc_new _ _
  unfold tkZ at hzn
  dsimp only [tkL] at hzn
  go_wp2_with (refine wpList_store_row _ rfl 98 (.tmp 8) (.tmp 14) rfl w2.heap.size (tkD t d).toArray _ 98 rfl rfl hzn rfl (info18 t d) (tkD_all t d) ?_; intro w3 hb3 hf3; have c2 : w3.cell? ⟨w2.heap.size, 2, none⟩ = some (.int .i64 (t 2)) := blk_cell hb3 2 rfl; have Hb3 := Lib.hid hb3; have Hf3 := Lib.hid hf3; clear hb3 hf3)
  clear hzn
  obtain ⟨tb, htb⟩ : ∃ tb, tb = w2.heap.size := ⟨_, rfl⟩
  rw [← htb] at Hb3 Hf3 c2 ⊢
  have Htb : Hid (w2.heap.size = tb) := htb.symm
  have hf23 : Fr Nob w2 w3 := ((Fr.refl Nob w2).alloc _).trans Hf3.out fun k hk e => by have := Htb.out; omega
  have Hr3 := Lib.hid (hf23.blk id Hb2.out)
  have Hf23 := Lib.hid hf23
  clear hf23 htb
  refine (HF.out w3).mono ?_
  rintro e _ ⟨rfl, rfl⟩
  clear c2
  cases p with
  | true =>
    obtain rfl : er = 0 := by rw [her]; rfl
    clear her
    go_wp2_with (first | (refine wpList_load_row rfl 98 (.tmp 8) rfl tb rfl 98 (tkD t d).toArray (0, 0) _ Hb3.out Tryz.underlying98 rfl (info18 t d) ?_) | (refine wpList_store_row _ rfl 98 (.tmp 6) (.tmp 27) rfl rb (tkD t d).toArray _ 98 rfl rfl Hr3.out rfl (info18 t d) (tkD_all t d) ?_; intro w5 hb5 hf5; have Hb5 := Lib.hid hb5; have Hf5 := Lib.hid hf5; clear hb5 hf5))
    refine bodyPost_ret (res_row2 Tryz.results98 _ _ rb 98 (tkD t d).toArray (0, 0) _ (.int .i64 0) rfl rfl Hb5.out Tryz.underlying98 rfl (info18 t d)) rfl ⟨rfl, ?_⟩
    exact (Hf2.out.trans0 Hf23.out).trans Hf5.out fun k hk e => by have := Hz1.out; omega
  | false =>
    obtain rfl : er = 8 := by rw [her]; rfl
    clear her
    go_wp2_with (first | (refine wpList_load_row rfl 98 (.tmp 8) rfl tb rfl 98 (tkD t d).toArray (0, 0) _ Hb3.out Tryz.underlying98 rfl (info18 t d) ?_) | (refine wpList_store_row _ rfl 98 (.tmp 6) (.tmp 26) rfl rb (tkD t d).toArray _ 98 rfl rfl Hr3.out rfl (info18 t d) (tkD_all t d) ?_; intro w5 hb5 hf5; have Hb5 := Lib.hid hb5; have Hf5 := Lib.hid hf5; clear hb5 hf5))
    refine bodyPost_ret (res_row2 Tryz.results98 _ _ rb 98 (tkD t d).toArray (0, 0) _ (.int .i64 8) rfl rfl Hb5.out Tryz.underlying98 rfl (info18 t d)) rfl ⟨rfl, ?_⟩
    exact (Hf2.out.trans0 Hf23.out).trans Hf5.out fun k hk e => by have := Hz1.out; omega
set_option maxHeartbeats 2000000 in
theorem is_wakes {w : World} {S : Nat → Prop} {b : Nat} {ts : List Tk} {line : List Int} (h : TableAt w S b ts line) (i : Nat) (t : Nat → Int) (d : Bool) (hi : ts[i]? = some (t, d, .slice none 0 0)) (p : Bool) (hF : ∀ W, Calls Tryz.prog 166 #[.int .i64 (t 2)] W fun e w' => e = .returned (.bool p) ∧ W = w') (er : Int) (her : er = if p then 0 else 8) :
    Calls Tryz.prog 98 #[.pointer (some ⟨b, 0, none⟩), .int .i64 (i : Int), .func (.func 166) #[] #[]] w fun e w' => e = .returned (.tuple #[.agg (tkD t d).toArray, .int .i64 er]) ∧ Fr Nob w w' := by
  have hg := fun W (hW : Fr Nob w W) => task_get (w := W) (S := S) (b := b) (ts := ts) (line := line) (by obtain ⟨ab, lb, SA, SL, h⟩ := h; exact ⟨ab, lb, SA, SL, h.fr0 hW⟩) i t d hi
  have Hg := Lib.hid hg; have HF := Lib.hid hF
  clear hg h hi hF
  go_enter Tryz.func98, Tryz.ntmps98
  go_wp2_with fail
  obtain ⟨w1, hw1⟩ : ∃ w1, w1 = w.alloc (.cells tkZ.toArray 98) := ⟨_, rfl⟩
  have hw1' := hw1
  unfold tkZ at hw1'
  dsimp only [tkL] at hw1'
  rw [← hw1']
  clear hw1'
  obtain ⟨rb, hrb⟩ : ∃ rb, rb = w.heap.size := ⟨_, rfl⟩
  rw [← hrb]
  have hf1 : Fr Nob w w1 := by rw [hw1]; exact (Fr.refl Nob w).alloc _
  have hb1 : w1.heap[rb]? = some (.cells tkZ.toArray 98 (0, 0)) := by rw [hw1, hrb]; exact heap_alloc_new _ _
  have Hz1 : Hid (w.heap.size = rb ∧ rb < w1.heap.size) := ⟨hrb.symm, lt_of_block hb1⟩
  have Hf1 := Lib.hid hf1; have Hb1 := Lib.hid hb1
  clear hw1 hrb hf1 hb1
  refine (Hg.out w1 Hf1.out).mono ?_
  rintro e w2 ⟨rfl, hf2⟩
  have Hb2 := Lib.hid (hf2.blk id Hb1.out); have Hf2 := Lib.hid (Hf1.out.trans0 hf2); have Hz2 := Lib.hid hf2.size
  clear hf2
  have hzn : (w2.alloc (.cells tkZ.toArray 98)).heap[w2.heap.size]? = some (.cells tkZ.toArray 98 (0, 0)) := heap_alloc_new _ _
  unfold tkZ at hzn
  dsimp only [tkL] at hzn
  go_wp2_with (refine wpList_store_row _ rfl 98 (.tmp 8) (.tmp 14) rfl w2.heap.size (tkD t d).toArray _ 98 rfl rfl hzn rfl (info18 t d) (tkD_all t d) ?_; intro w3 hb3 hf3; have c2 : w3.cell? ⟨w2.heap.size, 2, none⟩ = some (.int .i64 (t 2)) := blk_cell hb3 2 rfl; have Hb3 := Lib.hid hb3; have Hf3 := Lib.hid hf3; clear hb3 hf3)
  clear hzn
  obtain ⟨tb, htb⟩ : ∃ tb, tb = w2.heap.size := ⟨_, rfl⟩
  rw [← htb] at Hb3 Hf3 c2 ⊢
  have Htb : Hid (w2.heap.size = tb) := htb.symm
  have hf23 : Fr Nob w2 w3 := ((Fr.refl Nob w2).alloc _).trans Hf3.out fun k hk e => by have := Htb.out; omega
  have Hr3 := Lib.hid (hf23.blk id Hb2.out)
  have Hf23 := Lib.hid hf23
  clear hf23 htb
  refine (HF.out w3).mono ?_
  rintro e _ ⟨rfl, rfl⟩
  clear c2
  cases p with
  | true =>
    obtain rfl : er = 0 := by rw [her]; rfl
    clear her
    go_wp2_with (first | (refine wpList_load_row rfl 98 (.tmp 8) rfl tb rfl 98 (tkD t d).toArray (0, 0) _ Hb3.out Tryz.underlying98 rfl (info18 t d) ?_) | (refine wpList_store_row _ rfl 98 (.tmp 6) (.tmp 27) rfl rb (tkD t d).toArray _ 98 rfl rfl Hr3.out rfl (info18 t d) (tkD_all t d) ?_; intro w5 hb5 hf5; have Hb5 := Lib.hid hb5; have Hf5 := Lib.hid hf5; clear hb5 hf5))
    refine bodyPost_ret (res_row2 Tryz.results98 _ _ rb 98 (tkD t d).toArray (0, 0) _ (.int .i64 0) rfl rfl Hb5.out Tryz.underlying98 rfl (info18 t d)) rfl ⟨rfl, ?_⟩
    exact (Hf2.out.trans0 Hf23.out).trans Hf5.out fun k hk e => by have := Hz1.out; omega
  | false =>
    obtain rfl : er = 8 := by rw [her]; rfl
    clear her
    go_wp2_with (first | (refine wpList_load_row rfl 98 (.tmp 8) rfl tb rfl 98 (tkD t d).toArray (0, 0) _ Hb3.out Tryz.underlying98 rfl (info18 t d) ?_) | (refine wpList_store_row _ rfl 98 (.tmp 6) (.tmp 26) rfl rb (tkD t d).toArray _ 98 rfl rfl Hr3.out rfl (info18 t d) (tkD_all t d) ?_; intro w5 hb5 hf5; have Hb5 := Lib.hid hb5; have Hf5 := Lib.hid hf5; clear hb5 hf5))
    refine bodyPost_ret (res_row2 Tryz.results98 _ _ rb 98 (tkD t d).toArray (0, 0) _ (.int .i64 8) rfl rfl Hb5.out Tryz.underlying98 rfl (info18 t d)) rfl ⟨rfl, ?_⟩
    exact (Hf2.out.trans0 Hf23.out).trans Hf5.out fun k hk e => by have := Hz1.out; omega
set_option maxHeartbeats 2000000 in
theorem is_ends {w : World} {S : Nat → Prop} {b : Nat} {ts : List Tk} {line : List Int} (h : TableAt w S b ts line) (i : Nat) (t : Nat → Int) (d : Bool) (hi : ts[i]? = some (t, d, .slice none 0 0)) (p : Bool) (hF : ∀ W, Calls Tryz.prog 99 #[.int .i64 (t 2)] W fun e w' => e = .returned (.bool p) ∧ W = w') (er : Int) (her : er = if p then 0 else 8) :
    Calls Tryz.prog 98 #[.pointer (some ⟨b, 0, none⟩), .int .i64 (i : Int), .func (.func 99) #[] #[]] w fun e w' => e = .returned (.tuple #[.agg (tkD t d).toArray, .int .i64 er]) ∧ Fr Nob w w' := by
  have hg := fun W (hW : Fr Nob w W) => task_get (w := W) (S := S) (b := b) (ts := ts) (line := line) (by obtain ⟨ab, lb, SA, SL, h⟩ := h; exact ⟨ab, lb, SA, SL, h.fr0 hW⟩) i t d hi
  have Hg := Lib.hid hg; have HF := Lib.hid hF
  clear hg h hi hF
  go_enter Tryz.func98, Tryz.ntmps98
  go_wp2_with fail
  obtain ⟨w1, hw1⟩ : ∃ w1, w1 = w.alloc (.cells tkZ.toArray 98) := ⟨_, rfl⟩
  have hw1' := hw1
  unfold tkZ at hw1'
  dsimp only [tkL] at hw1'
  rw [← hw1']
  clear hw1'
  obtain ⟨rb, hrb⟩ : ∃ rb, rb = w.heap.size := ⟨_, rfl⟩
  rw [← hrb]
  have hf1 : Fr Nob w w1 := by rw [hw1]; exact (Fr.refl Nob w).alloc _
  have hb1 : w1.heap[rb]? = some (.cells tkZ.toArray 98 (0, 0)) := by rw [hw1, hrb]; exact heap_alloc_new _ _
  have Hz1 : Hid (w.heap.size = rb ∧ rb < w1.heap.size) := ⟨hrb.symm, lt_of_block hb1⟩
  have Hf1 := Lib.hid hf1; have Hb1 := Lib.hid hb1
  clear hw1 hrb hf1 hb1
  refine (Hg.out w1 Hf1.out).mono ?_
  rintro e w2 ⟨rfl, hf2⟩
  have Hb2 := Lib.hid (hf2.blk id Hb1.out); have Hf2 := Lib.hid (Hf1.out.trans0 hf2); have Hz2 := Lib.hid hf2.size
  clear hf2
  have hzn : (w2.alloc (.cells tkZ.toArray 98)).heap[w2.heap.size]? = some (.cells tkZ.toArray 98 (0, 0)) := heap_alloc_new _ _
  unfold tkZ at hzn
  dsimp only [tkL] at hzn
  go_wp2_with (refine wpList_store_row _ rfl 98 (.tmp 8) (.tmp 14) rfl w2.heap.size (tkD t d).toArray _ 98 rfl rfl hzn rfl (info18 t d) (tkD_all t d) ?_; intro w3 hb3 hf3; have c2 : w3.cell? ⟨w2.heap.size, 2, none⟩ = some (.int .i64 (t 2)) := blk_cell hb3 2 rfl; have Hb3 := Lib.hid hb3; have Hf3 := Lib.hid hf3; clear hb3 hf3)
  clear hzn
  obtain ⟨tb, htb⟩ : ∃ tb, tb = w2.heap.size := ⟨_, rfl⟩
  rw [← htb] at Hb3 Hf3 c2 ⊢
  have Htb : Hid (w2.heap.size = tb) := htb.symm
  have hf23 : Fr Nob w2 w3 := ((Fr.refl Nob w2).alloc _).trans Hf3.out fun k hk e => by have := Htb.out; omega
  have Hr3 := Lib.hid (hf23.blk id Hb2.out)
  have Hf23 := Lib.hid hf23
  clear hf23 htb
  refine (HF.out w3).mono ?_
  rintro e _ ⟨rfl, rfl⟩
  clear c2
  cases p with
  | true =>
    obtain rfl : er = 0 := by rw [her]; rfl
    clear her
    go_wp2_with (first | (refine wpList_load_row rfl 98 (.tmp 8) rfl tb rfl 98 (tkD t d).toArray (0, 0) _ Hb3.out Tryz.underlying98 rfl (info18 t d) ?_) | (refine wpList_store_row _ rfl 98 (.tmp 6) (.tmp 27) rfl rb (tkD t d).toArray _ 98 rfl rfl Hr3.out rfl (info18 t d) (tkD_all t d) ?_; intro w5 hb5 hf5; have Hb5 := Lib.hid hb5; have Hf5 := Lib.hid hf5; clear hb5 hf5))
    refine bodyPost_ret (res_row2 Tryz.results98 _ _ rb 98 (tkD t d).toArray (0, 0) _ (.int .i64 0) rfl rfl Hb5.out Tryz.underlying98 rfl (info18 t d)) rfl ⟨rfl, ?_⟩
    exact (Hf2.out.trans0 Hf23.out).trans Hf5.out fun k hk e => by have := Hz1.out; omega
  | false =>
    obtain rfl : er = 8 := by rw [her]; rfl
    clear her
    go_wp2_with (first | (refine wpList_load_row rfl 98 (.tmp 8) rfl tb rfl 98 (tkD t d).toArray (0, 0) _ Hb3.out Tryz.underlying98 rfl (info18 t d) ?_) | (refine wpList_store_row _ rfl 98 (.tmp 6) (.tmp 26) rfl rb (tkD t d).toArray _ 98 rfl rfl Hr3.out rfl (info18 t d) (tkD_all t d) ?_; intro w5 hb5 hf5; have Hb5 := Lib.hid hb5; have Hf5 := Lib.hid hf5; clear hb5 hf5))
    refine bodyPost_ret (res_row2 Tryz.results98 _ _ rb 98 (tkD t d).toArray (0, 0) _ (.int .i64 8) rfl rfl Hb5.out Tryz.underlying98 rfl (info18 t d)) rfl ⟨rfl, ?_⟩
    exact (Hf2.out.trans0 Hf23.out).trans Hf5.out fun k hk e => by have := Hz1.out; omega
def updT (t : Nat → Int) (k : Nat) (x : Int) : Nat → Int := fun j => if j = k then x else t j
section
variable {w : World} {b : Nat} {t : Nat → Int} {d : Bool} (h : w.heap[b]? = some (.cells (tkD t d).toArray 98 (0, 0)))
include h
theorem tkp1 (x : Int) : (w.setCell ⟨b, 1, none⟩ (.int .i64 x)).heap[b]? = some (.cells (tkD (updT t 1 x) d).toArray 98 (0, 0)) := blk_set h 1 _
theorem tkp2 (x : Int) : (w.setCell ⟨b, 2, none⟩ (.int .i64 x)).heap[b]? = some (.cells (tkD (updT t 2 x) d).toArray 98 (0, 0)) := blk_set h 2 _
theorem tkp3 (x : Int) : (w.setCell ⟨b, 3, none⟩ (.int .i64 x)).heap[b]? = some (.cells (tkD (updT t 3 x) d).toArray 98 (0, 0)) := blk_set h 3 _
theorem tkp4 (x : Int) : (w.setCell ⟨b, 4, none⟩ (.int .i64 x)).heap[b]? = some (.cells (tkD (updT t 4 x) d).toArray 98 (0, 0)) := blk_set h 4 _
theorem tkp5 (x : Int) : (w.setCell ⟨b, 5, none⟩ (.int .i64 x)).heap[b]? = some (.cells (tkD (updT t 5 x) d).toArray 98 (0, 0)) := blk_set h 5 _
theorem tkp6 (x : Int) : (w.setCell ⟨b, 6, none⟩ (.int .i64 x)).heap[b]? = some (.cells (tkD (updT t 6 x) d).toArray 98 (0, 0)) := blk_set h 6 _
theorem tkp7 (x : Int) : (w.setCell ⟨b, 7, none⟩ (.int .i64 x)).heap[b]? = some (.cells (tkD (updT t 7 x) d).toArray 98 (0, 0)) := blk_set h 7 _
theorem tkp8 (x : Int) : (w.setCell ⟨b, 8, none⟩ (.int .i64 x)).heap[b]? = some (.cells (tkD (updT t 8 x) d).toArray 98 (0, 0)) := blk_set h 8 _
theorem tkp9 (x : Int) : (w.setCell ⟨b, 9, none⟩ (.int .i64 x)).heap[b]? = some (.cells (tkD (updT t 9 x) d).toArray 98 (0, 0)) := blk_set h 9 _
theorem tkp10 (x : Int) : (w.setCell ⟨b, 10, none⟩ (.int .i64 x)).heap[b]? = some (.cells (tkD (updT t 10 x) d).toArray 98 (0, 0)) := blk_set h 10 _
theorem tkp11 (x : Int) : (w.setCell ⟨b, 11, none⟩ (.int .i64 x)).heap[b]? = some (.cells (tkD (updT t 11 x) d).toArray 98 (0, 0)) := blk_set h 11 _
theorem tkp12 (x : Int) : (w.setCell ⟨b, 12, none⟩ (.int .i64 x)).heap[b]? = some (.cells (tkD (updT t 12 x) d).toArray 98 (0, 0)) := blk_set h 12 _
theorem tkp13 (x : Int) : (w.setCell ⟨b, 13, none⟩ (.int .i64 x)).heap[b]? = some (.cells (tkD (updT t 13 x) d).toArray 98 (0, 0)) := blk_set h 13 _
theorem tkp14 (x : Int) : (w.setCell ⟨b, 14, none⟩ (.int .i64 x)).heap[b]? = some (.cells (tkD (updT t 14 x) d).toArray 98 (0, 0)) := blk_set h 14 _
theorem tkp15 (x : Int) : (w.setCell ⟨b, 15, none⟩ (.int .i64 x)).heap[b]? = some (.cells (tkD (updT t 15 x) d).toArray 98 (0, 0)) := blk_set h 15 _
theorem tkp16 : (w.setCell ⟨b, 16, none⟩ (.slice none 0 0)).heap[b]? = some (.cells (tkD t d).toArray 98 (0, 0)) := blk_set h 16 _
theorem tkp17 (x : Bool) : (w.setCell ⟨b, 17, none⟩ (.bool x)).heap[b]? = some (.cells (tkD t x).toArray 98 (0, 0)) := blk_set h 17 _
theorem tkc0 : w.cell? ⟨b, 0, none⟩ = some (.int .i64 (t 0)) := blk_cell h 0 rfl
theorem tkc1 : w.cell? ⟨b, 1, none⟩ = some (.int .i64 (t 1)) := blk_cell h 1 rfl
theorem tkc2 : w.cell? ⟨b, 2, none⟩ = some (.int .i64 (t 2)) := blk_cell h 2 rfl
theorem tkc3 : w.cell? ⟨b, 3, none⟩ = some (.int .i64 (t 3)) := blk_cell h 3 rfl
theorem tkc4 : w.cell? ⟨b, 4, none⟩ = some (.int .i64 (t 4)) := blk_cell h 4 rfl
theorem tkc5 : w.cell? ⟨b, 5, none⟩ = some (.int .i64 (t 5)) := blk_cell h 5 rfl
theorem tkc6 : w.cell? ⟨b, 6, none⟩ = some (.int .i64 (t 6)) := blk_cell h 6 rfl
theorem tkc7 : w.cell? ⟨b, 7, none⟩ = some (.int .i64 (t 7)) := blk_cell h 7 rfl
theorem tkc8 : w.cell? ⟨b, 8, none⟩ = some (.int .i64 (t 8)) := blk_cell h 8 rfl
theorem tkc9 : w.cell? ⟨b, 9, none⟩ = some (.int .i64 (t 9)) := blk_cell h 9 rfl
theorem tkc10 : w.cell? ⟨b, 10, none⟩ = some (.int .i64 (t 10)) := blk_cell h 10 rfl
theorem tkc11 : w.cell? ⟨b, 11, none⟩ = some (.int .i64 (t 11)) := blk_cell h 11 rfl
theorem tkc12 : w.cell? ⟨b, 12, none⟩ = some (.int .i64 (t 12)) := blk_cell h 12 rfl
theorem tkc13 : w.cell? ⟨b, 13, none⟩ = some (.int .i64 (t 13)) := blk_cell h 13 rfl
theorem tkc14 : w.cell? ⟨b, 14, none⟩ = some (.int .i64 (t 14)) := blk_cell h 14 rfl
theorem tkc15 : w.cell? ⟨b, 15, none⟩ = some (.int .i64 (t 15)) := blk_cell h 15 rfl
theorem tkc16 : w.cell? ⟨b, 16, none⟩ = some (.slice none 0 0) := blk_cell h 16 rfl
theorem tkc17 : w.cell? ⟨b, 17, none⟩ = some (.bool d) := blk_cell h 17 rfl
theorem tkf (o : Nat) : w.frozen? ⟨b, o, none⟩ = false := blk_froz h o
end
theorem so_runs (W : World) (x : Int) : Calls Tryz.prog 102 #[.int .i64 x] W fun e w' => e = .returned (.bool (x == 0)) ∧ W = w' := by
  go_enter Tryz.func102, Tryz.ntmps102
  go_wp2_with fail
  go_ret
  exact ⟨rfl, rfl⟩
theorem so_wakes (W : World) (x : Int) : Calls Tryz.prog 166 #[.int .i64 x] W fun e w' => e = .returned (.bool (x == 1)) ∧ W = w' := by
  go_enter Tryz.func166, Tryz.ntmps166
  go_wp2_with fail
  go_ret
  exact ⟨rfl, rfl⟩
theorem so_ends (W : World) (x : Int) : Calls Tryz.prog 99 #[.int .i64 x] W fun e w' => e = .returned (.bool (x != 2)) ∧ W = w' := by
  go_enter Tryz.func99, Tryz.ntmps99
  go_wp2_with fail
  go_ret
  exact ⟨rfl, rfl⟩
/-- A task that has ended. -/
def endT (t : Nat → Int) (how : Int) : Nat → Int := updT (updT (updT (updT (updT (updT t 2 2) 3 how) 12 0) 13 0) 14 0) 15 0
theorem TabAt.set {w : World} {S : Nat → Prop} {b ab lb : Nat} {SA SL : Nat → Prop} {ts : List Tk} {line : List Int} (h : TabAt w S b ab lb SA SL ts line) (i : Nat) (hi : i < ts.length) (x : Tk) (hx : ∀ v ∈ tkE x, v.oneCell' = true) : Calls Tryz.prog 100 #[.pointer (some ⟨ab, 0, none⟩), .int .i64 (i : Int), .agg (tkE x).toArray] w fun e w' => e = .returned (.bool true) ∧ Fr SA w w' ∧ TabAt w' S b ab lb SA SL (ts.set i x) line := by
  refine (arena_set w SA ab 64 ts.length (rowsT ts) i (tkE x) (tkC_len _ _ _) hx h.arena hi).mono ?_
  rintro e w' ⟨he, hf, ha⟩
  refine ⟨he, hf, h.setA hf ?_⟩
  rw [rowsT_set ts i x hi] at ha
  rw [List.length_set]; exact ha
set_option maxHeartbeats 2000000 in
theorem end_ok {w : World} {S : Nat → Prop} {b : Nat} {ts : List Tk} {line : List Int} (h : TableAt w S b ts line) (i : Nat) (t : Nat → Int) (d : Bool) (hi : ts[i]? = some (t, d, .slice none 0 0)) (h2 : (t 2 != 2) = true) (how : Int) :
    Calls Tryz.prog 60 #[.pointer (some ⟨b, 0, none⟩), .int .i64 (i : Int), .int .i64 how] w fun e w' => e = .returned (.int .i64 0) ∧ Fr S w w' ∧ TableAt w' S b (ts.set i (endT t how, false, .slice none 0 0)) (line.erase (i : Int)) := by
  have His := Lib.hid (is_ends h i t d hi true (fun W => by have := so_ends W (t 2); rw [h2] at this; exact this) 0 rfl)
  obtain ⟨ab, lb, SA, SL, h⟩ := h
  have hset := fun W (hW : Fr Nob w W) => (h.fr0 hW).set i (List.getElem?_eq_some_iff.1 hi).1 (endT t how, false, .slice none 0 0) (tkD_one _ _)
  have hrem : ∀ W ts', TabAt W S b ab lb SA SL ts' line → Calls Tryz.prog 101 #[.pointer (some ⟨lb, 0, none⟩), .int .i64 (i : Int)] W fun e w' => (∃ r, e = .returned (.bool r)) ∧ Fr SL W w' ∧ TabAt w' S b ab lb SA SL ts' (line.erase (i : Int)) := fun W ts' hW => by
    by_cases hm : (i : Int) ∈ line
    · exact (ready_remove W SL lb line i hW.ready hm).mono fun e w' ⟨he, hf, hr⟩ => ⟨⟨_, he⟩, hf, hW.setL hf hr⟩
    · rw [List.erase_of_not_mem hm]
      exact (ready_remove_no W SL lb line i hW.ready hm).mono fun e w' ⟨he, hf⟩ => ⟨⟨_, he⟩, hf.none, hW.fr0 hf⟩
  have hb := h.blk
  have Hset := Lib.hid hset; have Hrem := Lib.hid hrem; have Hb := Lib.hid hb; have H := Lib.hid h
  clear hset hrem hb h hi h2
  go_enter Tryz.func60, Tryz.ntmps60
  go_wp2_with fail
  refine His.out.mono ?_
  rintro e w2 ⟨rfl, hf2⟩
  have Hf2 := Lib.hid hf2
  clear hf2
  have hzn : (w2.alloc (.cells tkZ.toArray 98)).heap[w2.heap.size]? = some (.cells tkZ.toArray 98 (0, 0)) := heap_alloc_new _ _
  unfold tkZ at hzn
  dsimp only [tkL] at hzn
  go_wp2_with (refine wpList_store_row _ rfl 98 (.tmp 7) (.tmp 13) rfl w2.heap.size (tkD t d).toArray _ 98 rfl rfl hzn rfl (info18 t d) (tkD_all t d) ?_; intro w3 hb3 hf3; have c2 := tkc2 hb3; have c3 := tkc3 hb3; have c12 := tkc12 hb3; have c13 := tkc13 hb3; have c14 := tkc14 hb3; have c15 := tkc15 hb3; have c16 := tkc16 hb3; have c17 := tkc17 hb3; have f2 := tkf hb3 2; have f3 := tkf hb3 3; have f12 := tkf hb3 12; have f13 := tkf hb3 13; have f14 := tkf hb3 14; have f15 := tkf hb3 15; have f16 := tkf hb3 16; have f17 := tkf hb3 17; have Hb3 := Lib.hid hb3; have Hf3 := Lib.hid hf3; clear hb3 hf3)
  obtain ⟨w4, hw4⟩ : ∃ w4, w4 = ((((((((w3.setCell ⟨w2.heap.size, 2, none⟩ (.int .i64 2)).setCell ⟨w2.heap.size, 3, none⟩ (.int .i64 how)).setCell ⟨w2.heap.size, 12, none⟩ (.int .i64 0)).setCell ⟨w2.heap.size, 13, none⟩ (.int .i64 0)).setCell ⟨w2.heap.size, 14, none⟩ (.int .i64 0)).setCell ⟨w2.heap.size, 15, none⟩ (.int .i64 0)).setCell ⟨w2.heap.size, 16, none⟩ (.slice none 0 0)).setCell ⟨w2.heap.size, 17, none⟩ (.bool false)) := ⟨_, rfl⟩
  rw [← hw4]
  have hb4 : w4.heap[w2.heap.size]? = some (.cells (tkD (endT t how) false).toArray 98 (0, 0)) := by rw [hw4]; exact (tkp17 (tkp16 (tkp15 (tkp14 (tkp13 (tkp12 (tkp3 (tkp2 Hb3.out _) _) _) _) _) _)) _)
  have hf34 : Fr (fun k => k = w2.heap.size) w3 w4 := by rw [hw4]; exact (((((((((Fr.refl (fun k => k = w2.heap.size) w3).setT 2 _).setT 3 _).setT 12 _).setT 13 _).setT 14 _).setT 15 _).setT 16 _).setT 17 _)
  have hf23 : Fr Nob w2 w3 := ((Fr.refl Nob w2).alloc _).trans Hf3.out fun k hk e => by omega
  have hf24 : Fr Nob w2 w4 := hf23.trans hf34 fun k hk e => by omega
  have Hf4 := Lib.hid (Hf2.out.trans0 hf24)
  have Hb4 := Lib.hid hb4
  have Hz4 := Lib.hid Hf2.out.size
  clear hw4 hb4 hf34 hf23 hf24 c2 c3 c12 c13 c14 c15 c16 c17 f2 f3 f12 f13 f14 f15 f16 f17 hzn
  have HS0 : Hid (w4.rangeAt w2.heap.size 0 (tkD (endT t how) false) ∧ w4.cell? ⟨b, 0, none⟩ = some (.pointer (some ⟨ab, 0, none⟩))) := ⟨rangeRow Hb4.out, blk_cell (Hf4.out.blk id Hb.out) 0 rfl⟩
  have hns : ¬ SA w2.heap.size := fun q => by have := H.out.lt _ (H.out.subA _ q).1; have := Hz4.out; omega
  have hu44 := Tryz.underlying98
  have hi44 : (Tryz.prog.info? 98).map (·.size) = some (tkD (endT t how) false).length := info_task18
  refine wp_region_held_drew (S := fun W => W.rangeAt w2.heap.size 0 (tkD (endT t how) false) ∧ W.cell? ⟨b, 0, none⟩ = some (.pointer (some ⟨ab, 0, none⟩))) (by kernel_rfl) (by simpa using HS0.out) (fun hHeld => ?_)
  refine wpAnyH_take (i := 0) (v := ?_) rfl (by kernel_rfl) (by kernel_rfl) (by kernel_rfl) (fun _ _ _ h => h) (Or.inl ⟨by rfl, ?_⟩) (by assumption) ?_
  rotate_left
  · intro w hSw; (try dsimp only at hSw); go_simp; try with_reducible rfl
  try simp only [List.getElem_toArray, List.getElem_cons_zero, List.getElem_cons_succ, Act.put, List.setIfInBounds_toArray, List.set_cons_zero, List.set_cons_succ]
  refine wpAnyH_take (i := 1) (v := ?_) rfl (by kernel_rfl) (by kernel_rfl) (by kernel_rfl) (fun _ _ _ h => h) (Or.inl ⟨by rfl, ?_⟩) (by assumption) ?_
  rotate_left
  · intro w hSw; (try dsimp only at hSw); go_simp; try with_reducible rfl
  try simp only [List.getElem_toArray, List.getElem_cons_zero, List.getElem_cons_succ, Act.put, List.setIfInBounds_toArray, List.set_cons_zero, List.set_cons_succ]
  refine wpAnyH_take (i := 2) (v := ?_) rfl (by kernel_rfl) (by kernel_rfl) (by kernel_rfl) (fun _ _ _ h => h) (Or.inl ⟨by rfl, ?_⟩) (by assumption) ?_
  rotate_left
  · intro w hSw; (try dsimp only at hSw); go_simp; try with_reducible rfl
  try simp only [List.getElem_toArray, List.getElem_cons_zero, List.getElem_cons_succ, Act.put, List.setIfInBounds_toArray, List.set_cons_zero, List.set_cons_succ]
  refine wpAnyH_take (i := 3) (v := ?_) rfl (by kernel_rfl) (by kernel_rfl) (by kernel_rfl) (fun _ _ _ h => h) (Or.inl ⟨by rfl, ?_⟩) (by assumption) ?_
  rotate_left
  · intro w hSw; (try dsimp only at hSw); go_simp; try with_reducible rfl
  try simp only [List.getElem_toArray, List.getElem_cons_zero, List.getElem_cons_succ, Act.put, List.setIfInBounds_toArray, List.set_cons_zero, List.set_cons_succ]
  refine wpAnyH_take (i := 4) (v := ?_) rfl (by kernel_rfl) (by kernel_rfl) (by kernel_rfl) (fun _ _ _ h => h) (Or.inl ⟨by rfl, ?_⟩) (by assumption) ?_
  rotate_left
  · intro w hSw; (try dsimp only at hSw); go_simp; try with_reducible rfl
  try simp only [List.getElem_toArray, List.getElem_cons_zero, List.getElem_cons_succ, Act.put, List.setIfInBounds_toArray, List.set_cons_zero, List.set_cons_succ]
  refine wpAnyH_take (i := 5) (v := _) rfl (by kernel_rfl) (by kernel_rfl) (by kernel_rfl) (fun _ _ _ h => h) (yieldsIf_load_mid (by rfl) _ _ rfl (w2.heap.size) 0 rfl (tkD (endT t how) false) _ (fun w hw => hw.1) hu44 rfl hi44) (by assumption) ?_
  try simp only [List.getElem_toArray, List.getElem_cons_zero, List.getElem_cons_succ, Act.put, List.setIfInBounds_toArray, List.set_cons_zero, List.set_cons_succ]
  refine wpAnyH_ready (rs := [6]) (by kernel_rfl) (by simp) ?_
  refine AllReadyH.cons rfl (fun K hK => ?_) AllReadyH.nil
  simp only [List.getElem_toArray, List.getElem_cons_zero, List.getElem_cons_succ]
  go_simp
  refine (Hset.out w4.drew Hf4.out.drew).mono ?_
  rintro e w5 ⟨rfl, hf5, ht5⟩
  refine hK.out _ _ ⟨fun j v hj => hf5.cell (p := ⟨w2.heap.size, 0 + j, none⟩) hns (hHeld.1 j v hj), hf5.cell (p := ⟨b, 0, none⟩) (fun q => (H.out.subA _ q).2 rfl) hHeld.2⟩ (fun hHeld2 => ?_)
  refine wpAnyH_done (by kernel_rfl) ?_ _
  try simp only [List.getElem_toArray, List.getElem_cons_zero, List.getElem_cons_succ, Act.put, List.setIfInBounds_toArray, List.set_cons_zero, List.set_cons_succ]
  have Hf5 := Lib.hid (show Fr SA w4 w5 from ((Fr.refl SA w4).drew).trans0 hf5); have Ht5 := Lib.hid ht5
  have c1 := blk_cell ht5.blk 1 rfl
  clear hf5 ht5 hHeld hHeld2 hK K
  go_wp2_with fail
  refine (Hrem.out w5 _ Ht5.out).mono ?_
  rintro e w6 ⟨⟨r, rfl⟩, hf6, ht6⟩
  have Hf6 := Lib.hid hf6; have Ht6 := Lib.hid ht6
  clear hf6 ht6 c1
  go_wp2_with fail
  go_ret
  exact ⟨rfl, (Hf4.out.none.trans Hf5.out fun k hk q => (H.out.subA k q).1).trans Hf6.out fun k hk q => (H.out.subL k q).1, ab, lb, SA, SL, Ht6.out⟩
theorem rd_lit6 {w : World} {b : Nat} {x0 x1 x2 x3 x4 x5 : Value} {T : TypeId} (h : w.heap[b]? = some (.cells #[x0, x1, x2, x3, x4, x5] T (0, 0))) : Rd w 6 (.slice (some ⟨b, 0, none⟩) 1 1) 1 [x0, x1, x2, x3, x4, x5] :=
  ⟨rfl, by simp [maxLen], _, _, rfl, Nat.le_refl _, by simp [maxLen], fun _ => ⟨b, 0, rfl, lt_of_block h, fun j u hj => by rw [Nat.zero_add]; exact blk_cell h j (by simpa using hj)⟩⟩
theorem check_one (w : World) (b : Nat) (op a c e : Int) (d : Bool) (h : w.heap[b]? = some (.cells #[.int .i64 op, .int .i64 a, .int .i64 c, .int .i64 e, .slice none 0 0, .bool d] 25 (0, 0))) (hg : goodB ((op, a, c, e), .slice none 0 0, [], d) 1 = true) :
    Calls Tryz.prog 37 #[.slice (some ⟨b, 0, none⟩) 1 1] w fun e' w' => e' = .returned (.int .i64 0) ∧ Fr Nob w w' := by
  have := check_any w (.slice (some ⟨b, 0, none⟩) 1 1) [((op, a, c, e), .slice none 0 0, [], d)] 1 rfl (rd_lit6 h) (fun i hi => by simp at hi; subst hi; exact ⟨rfl, by simp [maxLen], none, 0, rfl, by simp, by simp [maxLen], fun h => absurd h (by simp)⟩)
  rw [show progB [((op, a, c, e), .slice none 0 0, [], d)] = true by simp only [progB, List.length_singleton, List.all_cons, List.all_nil, Bool.and_true]; rw [show ((1 : Nat) : Int) = 1 from rfl, hg]; rfl] at this
  exact this
def parkT (t : Nat → Int) (op a b c : Int) : Nat → Int := updT (updT (updT (updT (updT t 2 1) 12 op) 13 a) 14 b) 15 c
section
variable {w : World} {S : Nat → Prop} {b : Nat} {ts : List Tk} {line : List Int} (h : TableAt w S b ts line) (i : Nat) (t : Nat → Int) (d : Bool) (hi : ts[i]? = some (t, d, .slice none 0 0)) (op x y z : Int) (df : Bool)
include h hi
set_option maxHeartbeats 4000000 in
theorem park_ok (h2 : (t 2 == 0) = true) (hop : op = 10 ∨ op = 11 ∨ op = 15) (hg : goodB ((op, x, y, z), .slice none 0 0, [], df) 1 = true) :
    Calls Tryz.prog 61 #[.pointer (some ⟨b, 0, none⟩), .int .i64 (i : Int), .agg #[.int .i64 op, .int .i64 x, .int .i64 y, .int .i64 z, .slice none 0 0, .bool df]] w fun e w' => e = .returned (.int .i64 0) ∧ Fr S w w' ∧ TableAt w' S b (ts.set i (parkT t op x y z, df, .slice none 0 0)) (line.erase (i : Int)) := by
  have His := Lib.hid (fun W (hW : Fr Nob w W) => is_runs (w := W) (S := S) (b := b) (ts := ts) (line := line) (by obtain ⟨ab, lb, SA, SL, h⟩ := h; exact ⟨ab, lb, SA, SL, h.fr0 hW⟩) i t d hi true (fun W => by have := so_runs W (t 2); rw [h2] at this; exact this) 0 rfl)
  obtain ⟨ab, lb, SA, SL, h⟩ := h
  have hset := fun W (hW : Fr Nob w W) => (h.fr0 hW).set i (List.getElem?_eq_some_iff.1 hi).1 (parkT t op x y z, df, .slice none 0 0) (tkD_one _ _)
  have hrem : ∀ W ts', TabAt W S b ab lb SA SL ts' line → Calls Tryz.prog 101 #[.pointer (some ⟨lb, 0, none⟩), .int .i64 (i : Int)] W fun e w' => (∃ r, e = .returned (.bool r)) ∧ Fr SL W w' ∧ TabAt w' S b ab lb SA SL ts' (line.erase (i : Int)) := fun W ts' hW => by
    by_cases hm : (i : Int) ∈ line
    · exact (ready_remove W SL lb line i hW.ready hm).mono fun e w' ⟨he, hf, hr⟩ => ⟨⟨_, he⟩, hf, hW.setL hf hr⟩
    · rw [List.erase_of_not_mem hm]
      exact (ready_remove_no W SL lb line i hW.ready hm).mono fun e w' ⟨he, hf⟩ => ⟨⟨_, he⟩, hf.none, hW.fr0 hf⟩
  have hb := h.blk
  have hck := fun W b' hb' => check_one W b' op x y z df hb' hg
  have Hset := Lib.hid hset; have Hrem := Lib.hid hrem; have Hb := Lib.hid hb; have H := Lib.hid h; have Hck := Lib.hid hck; have Hcl := Lib.hid (fun W => clone_nil W)
  clear hset hrem hb h hi h2 hck hg
  have hops : (op != 10) = false ∨ (op != 10) = true ∧ (op != 11) = false ∨ (op != 10) = true ∧ (op != 11) = true ∧ (op != 15) = false := by
    rcases hop with rfl | rfl | rfl
    · left; rfl
    · right; left; exact ⟨rfl, rfl⟩
    · right; right; exact ⟨rfl, rfl, rfl⟩
  clear hop
  go_enter Tryz.func61, Tryz.ntmps61
  go_wp2_with fail
  obtain ⟨w1, hw1⟩ : ∃ w1, w1 = w.alloc (.cells #[.int .i64 op, .int .i64 x, .int .i64 y, .int .i64 z, .slice none 0 0, .bool df] 25) := ⟨_, rfl⟩
  rw [← hw1]
  obtain ⟨pb, hpb⟩ : ∃ pb, pb = w.heap.size := ⟨_, rfl⟩
  rw [← hpb]
  have hf1 : Fr Nob w w1 := by rw [hw1]; exact (Fr.refl Nob w).alloc _
  have hp1 : w1.heap[pb]? = some (.cells #[.int .i64 op, .int .i64 x, .int .i64 y, .int .i64 z, .slice none 0 0, .bool df] 25 (0, 0)) := by rw [hw1, hpb]; exact heap_alloc_new _ _
  have Hpb : Hid (w.heap.size = pb) := hpb.symm
  clear hw1 hpb
  refine (His.out w1 hf1).mono ?_
  rintro e w2 ⟨rfl, hf2⟩
  have hp2 := hf2.blk id hp1
  have Hp2 := Lib.hid hp2
  have Hf2 := Lib.hid (hf1.trans0 hf2)
  have hpz := lt_of_block hp2
  clear hf2 hp1 hf1 hp2
  have hzn : (w2.alloc (.cells tkZ.toArray 98)).heap[w2.heap.size]? = some (.cells tkZ.toArray 98 (0, 0)) := heap_alloc_new _ _
  unfold tkZ at hzn
  dsimp only [tkL] at hzn
  rcases hops with h10 | ⟨h10, h11⟩ | ⟨h10, h11, h15⟩
  all_goals (
    go_wp2_with (refine wpList_store_row _ rfl 98 (.tmp 7) (.tmp 13) rfl w2.heap.size (tkD t d).toArray _ 98 rfl rfl hzn rfl (info18 t d) (tkD_all t d) ?_; intro w3 hb3 hf3; have hp3 := hf3.blk (k := pb) (fun e => by omega) (((Fr.refl Nob w2).alloc _).blk id Hp2.out); have q0 := blk_cell hp3 0 rfl; have q1 := blk_cell hp3 1 rfl; have q2 := blk_cell hp3 2 rfl; have q3 := blk_cell hp3 3 rfl; have q4 := blk_cell hp3 4 rfl; have q5 := blk_cell hp3 5 rfl; have Hb3 := Lib.hid hb3; have Hf3 := Lib.hid hf3; have Hp3 := Lib.hid hp3; clear hb3 hf3 hp3)
    obtain ⟨w4, hw4⟩ : ∃ w4, w4 = w3.alloc (.cells #[.int .i64 op, .int .i64 x, .int .i64 y, .int .i64 z, .slice none 0 0, .bool df] 25) := ⟨_, rfl⟩
    rw [← hw4]
    have hf34 : Fr Nob w3 w4 := by rw [hw4]; exact (Fr.refl Nob w3).alloc _
    have hi4 : w4.heap[w3.heap.size]? = some (.cells #[.int .i64 op, .int .i64 x, .int .i64 y, .int .i64 z, .slice none 0 0, .bool df] 25 (0, 0)) := by rw [hw4]; exact heap_alloc_new _ _
    refine (Hck.out w4 _ hi4).mono ?_
    rintro e w5 ⟨rfl, hf5⟩
    have hf35 : Fr Nob w3 w5 := hf34.trans0 hf5
    have Hb5 := Lib.hid (hf35.blk id Hb3.out); have Hp5 := Lib.hid (hf35.blk id Hp3.out)
    have hf23 : Fr Nob w2 w3 := ((Fr.refl Nob w2).alloc _).trans Hf3.out fun k hk e => by omega
    have Hf5 := Lib.hid (Hf2.out.trans0 (hf23.trans0 hf35))
    have r4 := blk_cell Hp5.out 4 rfl
    have g4 := blk_froz Hp5.out 4
    clear hw4 hf34 hi4 hf5 hf35 hf23 q0 q1 q2 q3 q4 q5 hzn
    go_wp2_with fail
    refine (Hcl.out w5).mono ?_
    rintro e _ ⟨rfl, rfl⟩
    go_wp2_with fail
    obtain ⟨w6, hw6⟩ : ∃ w6, w6 = w5.setCell ⟨pb, 4, none⟩ (.slice none 0 0) := ⟨_, rfl⟩
    rw [← hw6]
    have hp6 : w6.heap[pb]? = some (.cells #[.int .i64 op, .int .i64 x, .int .i64 y, .int .i64 z, .slice none 0 0, .bool df] 25 (0, 0)) := by rw [hw6]; exact blk_set Hp5.out 4 _
    have hb6 : w6.heap[w2.heap.size]? = some (.cells (tkD t d).toArray 98 (0, 0)) := by rw [hw6]; exact (blk_set_ne 4 _ (by omega)).trans Hb5.out
    have Hf6 : Hid (Fr Nob w w6) := Lib.hid (by rw [hw6]; exact Hf5.out.trans ((Fr.refl (fun k => k = pb) w5).setT 4 _) fun k hk e => by have := Hpb.out; omega)
    have q0 := blk_cell hp6 0 rfl
    have q1 := blk_cell hp6 1 rfl
    have q2 := blk_cell hp6 2 rfl
    have q3 := blk_cell hp6 3 rfl
    have q4 := blk_cell hp6 4 rfl
    have q5 := blk_cell hp6 5 rfl
    have c2 := tkc2 hb6; have c12 := tkc12 hb6; have c13 := tkc13 hb6; have c14 := tkc14 hb6; have c15 := tkc15 hb6; have c16 := tkc16 hb6; have c17 := tkc17 hb6
    have f2 := tkf hb6 2; have f12 := tkf hb6 12; have f13 := tkf hb6 13; have f14 := tkf hb6 14; have f15 := tkf hb6 15; have f16 := tkf hb6 16; have f17 := tkf hb6 17
    have Hb6 := Lib.hid hb6
    clear hw6 hp6 hb6 r4 g4
    go_region
    obtain ⟨w7, hw7⟩ : ∃ w7, w7 = (((((((w6.setCell ⟨w2.heap.size, 2, none⟩ (.int .i64 1)).setCell ⟨w2.heap.size, 12, none⟩ (.int .i64 op)).setCell ⟨w2.heap.size, 13, none⟩ (.int .i64 x)).setCell ⟨w2.heap.size, 14, none⟩ (.int .i64 y)).setCell ⟨w2.heap.size, 15, none⟩ (.int .i64 z)).setCell ⟨w2.heap.size, 16, none⟩ (.slice none 0 0)).setCell ⟨w2.heap.size, 17, none⟩ (.bool df)).drew := ⟨_, rfl⟩
    rw [← hw7]
    have hb7 : w7.heap[w2.heap.size]? = some (.cells (tkD (parkT t op x y z) df).toArray 98 (0, 0)) := by rw [hw7, blk_drew]; exact (tkp17 (tkp16 (tkp15 (tkp14 (tkp13 (tkp12 (tkp2 Hb6.out _) _) _) _) _)) _)
    have Hf7 : Hid (Fr Nob w w7) := Lib.hid (by rw [hw7]; exact (Hf6.out.trans ((((((((Fr.refl (fun k => k = w2.heap.size) w6).setT 2 _).setT 12 _).setT 13 _).setT 14 _).setT 15 _).setT 16 _).setT 17 _) fun k hk e => by have := Hf2.out.size; omega).drew)
    have Hb7 := Lib.hid hb7
    have Hz7 := Lib.hid Hf2.out.size
    clear hw7 hb7 q0 q1 q2 q3 q4 q5 c2 c12 c13 c14 c15 c16 c17 f2 f12 f13 f14 f15 f16 f17
    have HS0 : Hid (w7.rangeAt w2.heap.size 0 (tkD (parkT t op x y z) df) ∧ w7.cell? ⟨b, 0, none⟩ = some (.pointer (some ⟨ab, 0, none⟩))) := ⟨rangeRow Hb7.out, blk_cell (Hf7.out.blk id Hb.out) 0 rfl⟩
    have hns : ¬ SA w2.heap.size := fun q => by have := H.out.lt _ (H.out.subA _ q).1; have := Hz7.out; omega
    have hu44 := Tryz.underlying98
    have hi44 : (Tryz.prog.info? 98).map (·.size) = some (tkD (parkT t op x y z) df).length := info_task18
    go_wp2_with fail
    refine wp_region_held_drew (S := fun W => W.rangeAt w2.heap.size 0 (tkD (parkT t op x y z) df) ∧ W.cell? ⟨b, 0, none⟩ = some (.pointer (some ⟨ab, 0, none⟩))) (by kernel_rfl) (by simpa using HS0.out) (fun hHeld => ?_)
    refine wpAnyH_take (i := 0) (v := ?_) rfl (by kernel_rfl) (by kernel_rfl) (by kernel_rfl) (fun _ _ _ h => h) (Or.inl ⟨by rfl, ?_⟩) (by assumption) ?_
    rotate_left
    · intro w hSw; (try dsimp only at hSw); go_simp; try with_reducible rfl
    try simp only [List.getElem_toArray, List.getElem_cons_zero, List.getElem_cons_succ, Act.put, List.setIfInBounds_toArray, List.set_cons_zero, List.set_cons_succ]
    refine wpAnyH_take (i := 1) (v := ?_) rfl (by kernel_rfl) (by kernel_rfl) (by kernel_rfl) (fun _ _ _ h => h) (Or.inl ⟨by rfl, ?_⟩) (by assumption) ?_
    rotate_left
    · intro w hSw; (try dsimp only at hSw); go_simp; try with_reducible rfl
    try simp only [List.getElem_toArray, List.getElem_cons_zero, List.getElem_cons_succ, Act.put, List.setIfInBounds_toArray, List.set_cons_zero, List.set_cons_succ]
    refine wpAnyH_take (i := 2) (v := ?_) rfl (by kernel_rfl) (by kernel_rfl) (by kernel_rfl) (fun _ _ _ h => h) (Or.inl ⟨by rfl, ?_⟩) (by assumption) ?_
    rotate_left
    · intro w hSw; (try dsimp only at hSw); go_simp; try with_reducible rfl
    try simp only [List.getElem_toArray, List.getElem_cons_zero, List.getElem_cons_succ, Act.put, List.setIfInBounds_toArray, List.set_cons_zero, List.set_cons_succ]
    refine wpAnyH_take (i := 3) (v := ?_) rfl (by kernel_rfl) (by kernel_rfl) (by kernel_rfl) (fun _ _ _ h => h) (Or.inl ⟨by rfl, ?_⟩) (by assumption) ?_
    rotate_left
    · intro w hSw; (try dsimp only at hSw); go_simp; try with_reducible rfl
    try simp only [List.getElem_toArray, List.getElem_cons_zero, List.getElem_cons_succ, Act.put, List.setIfInBounds_toArray, List.set_cons_zero, List.set_cons_succ]
    refine wpAnyH_take (i := 4) (v := ?_) rfl (by kernel_rfl) (by kernel_rfl) (by kernel_rfl) (fun _ _ _ h => h) (Or.inl ⟨by rfl, ?_⟩) (by assumption) ?_
    rotate_left
    · intro w hSw; (try dsimp only at hSw); go_simp; try with_reducible rfl
    try simp only [List.getElem_toArray, List.getElem_cons_zero, List.getElem_cons_succ, Act.put, List.setIfInBounds_toArray, List.set_cons_zero, List.set_cons_succ]
    refine wpAnyH_take (i := 5) (v := _) rfl (by kernel_rfl) (by kernel_rfl) (by kernel_rfl) (fun _ _ _ h => h) (yieldsIf_load_mid (by rfl) _ _ rfl (w2.heap.size) 0 rfl (tkD (parkT t op x y z) df) _ (fun w hw => hw.1) hu44 rfl hi44) (by assumption) ?_
    try simp only [List.getElem_toArray, List.getElem_cons_zero, List.getElem_cons_succ, Act.put, List.setIfInBounds_toArray, List.set_cons_zero, List.set_cons_succ]
    refine wpAnyH_ready (rs := [6]) (by kernel_rfl) (by simp) ?_
    refine AllReadyH.cons rfl (fun K hK => ?_) AllReadyH.nil
    simp only [List.getElem_toArray, List.getElem_cons_zero, List.getElem_cons_succ]
    go_simp
    refine (Hset.out w7.drew Hf7.out.drew).mono ?_
    rintro e w8 ⟨rfl, hf8, ht8⟩
    refine hK.out _ _ ⟨fun j v hj => hf8.cell (p := ⟨w2.heap.size, 0 + j, none⟩) hns (hHeld.1 j v hj), hf8.cell (p := ⟨b, 0, none⟩) (fun q => (H.out.subA _ q).2 rfl) hHeld.2⟩ (fun hHeld2 => ?_)
    refine wpAnyH_done (by kernel_rfl) ?_ _
    try simp only [List.getElem_toArray, List.getElem_cons_zero, List.getElem_cons_succ, Act.put, List.setIfInBounds_toArray, List.set_cons_zero, List.set_cons_succ]
    have Hf8 := Lib.hid (show Fr SA w7 w8 from ((Fr.refl SA w7).drew).trans0 hf8); have Ht8 := Lib.hid ht8
    have c1 := blk_cell ht8.blk 1 rfl
    clear hf8 ht8 hHeld hHeld2 hK K
    go_wp2_with fail
    refine (Hrem.out w8 _ Ht8.out).mono ?_
    rintro e w9 ⟨⟨r, rfl⟩, hf9, ht9⟩
    have Hf9 := Lib.hid hf9; have Ht9 := Lib.hid ht9
    clear hf9 ht9 c1
    go_wp2_with fail
    go_ret
    exact ⟨rfl, (Hf7.out.none.trans Hf8.out fun k hk q => (H.out.subA k q).1).trans Hf9.out fun k hk q => (H.out.subL k q).1, ab, lb, SA, SL, Ht9.out⟩)
end
end Go.Proofs.YtcffplgimbbflaaGreat
