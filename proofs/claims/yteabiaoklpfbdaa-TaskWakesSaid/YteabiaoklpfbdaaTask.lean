/- A table of tasks: an arena and a list of those that can run, as it lies in blocks of a set S; what New, Len, Ready and Pick do. -/
import Derived.Test.YteabiaoklpfbdaaArenaS
import Derived.Test.YteabiaoklpfbdaaReady
import Derived.Test.YteabiaoklpfbdaaCheck
set_option linter.unusedVariables false
set_option linter.unusedSimpArgs false
namespace Go.Proofs.Yteabiaoklpfbdaa
open Go.RowKit
set_option maxRecDepth 100000
/-- A task: its 16 numbers, its instruction's default. -/
abbrev Tk := (Nat → Int) × Bool
abbrev tkE (x : Tk) : List Value := tkD x.1 x.2
abbrev rowsT (ts : List Tk) : List Value := ts.flatMap tkE
abbrev ArT (w : World) (S : Nat → Prop) (b n : Nat) (cs : List Value) : Prop := ArenaAt 76 44 18 w S b 64 n cs
def tabObj (ab lb : Nat) : Obj := .cells #[.pointer (some ⟨ab, 0, none⟩), .pointer (some ⟨lb, 0, none⟩)] 63 (0, 0)
structure TabAt (w : World) (S : Nat → Prop) (b ab lb : Nat) (SA SL : Nat → Prop) (ts : List Tk) (line : List Int) : Prop where
  own : S b
  lt : ∀ k, S k → k < w.heap.size
  subA : ∀ k, SA k → S k ∧ k ≠ b
  subL : ∀ k, SL k → S k ∧ k ≠ b ∧ ¬ SA k
  blk : w.heap[b]? = some (tabObj ab lb)
  arena : ArT w SA ab ts.length (rowsT ts)
  ready : ReadyAt w SL lb line
def TableAt (w : World) (S : Nat → Prop) (b : Nat) (ts : List Tk) (line : List Int) : Prop := ∃ (ab lb : Nat) (SA SL : Nat → Prop), TabAt w S b ab lb SA SL ts line
theorem rowsT_len (ts : List Tk) : (rowsT ts).length = ts.length * 18 := by
  induction ts with
  | nil => rfl
  | cons x ts ih => simp only [rowsT, List.flatMap_cons, List.length_append] at ih ⊢; rw [ih, tkD_len]; simp; omega
theorem rowsT_get (ts : List Tk) (i : Nat) (x : Tk) (h : ts[i]? = some x) (j : Nat) (hj : j < 18) : (rowsT ts)[i * 18 + j]? = (tkE x)[j]? := by
  induction ts generalizing i with
  | nil => simp at h
  | cons y ts ih =>
    cases i with
    | zero => simp at h; subst h; simp only [rowsT, List.flatMap_cons, Nat.zero_mul, Nat.zero_add]; rw [List.getElem?_append_left (by rw [tkD_len]; exact hj)]
    | succ i =>
      simp only [rowsT, List.flatMap_cons]
      rw [List.getElem?_append_right (by rw [tkD_len]; omega), tkD_len, show (i + 1) * 18 + j - 18 = i * 18 + j by omega]
      exact ih i (by simpa using h)
theorem rowsT_set (ts : List Tk) (i : Nat) (x : Tk) (hi : i < ts.length) : rowSet (rowsT ts) i (tkE x) = rowsT (ts.set i x) := by
  induction ts generalizing i with
  | nil => simp at hi
  | cons y ts ih =>
    cases i with
    | zero =>
      simp only [rowSet, rowsT, List.flatMap_cons, Nat.zero_mul, Nat.zero_add, List.set_cons_zero, List.take_zero, List.nil_append]
      rw [List.drop_append, tkD_len, List.drop_of_length_le (by rw [tkD_len]; omega)]
      simp
    | succ i =>
      have := ih i (by simpa using hi)
      simp only [rowSet, rowsT, List.flatMap_cons, List.set_cons_succ] at this ⊢
      rw [← this, List.take_append, List.drop_append, tkD_len, List.take_of_length_le (by rw [tkD_len]; omega), List.drop_of_length_le (by rw [tkD_len]; omega), show (i + 1) * 18 - 18 = i * 18 by omega, show (i + 1) * 18 + 18 - 18 = i * 18 + 18 by omega]
      simp
section
variable {w w' : World} {S : Nat → Prop} {b ab lb : Nat} {SA SL : Nat → Prop} {ts : List Tk} {line : List Int}
theorem TabAt.fr (h : TabAt w S b ab lb SA SL ts line) {F : Nat → Prop} (hf : Fr F w w') (hd : ∀ k, S k → F k → False) : TabAt w' S b ab lb SA SL ts line :=
  ⟨h.own, fun k q => by have := h.lt k q; have := hf.size; omega, h.subA, h.subL, hf.blk (hd _ h.own) h.blk, h.arena.fr hf fun k q => hd k (h.subA k q).1, h.ready.fr hf fun k q => hd k (h.subL k q).1⟩
theorem TabAt.fr0 (h : TabAt w S b ab lb SA SL ts line) (hf : Fr Nob w w') : TabAt w' S b ab lb SA SL ts line := h.fr hf fun _ _ q => q
theorem TabAt.setA (h : TabAt w S b ab lb SA SL ts line) (hf : Fr SA w w') {ts' : List Tk} (ha : ArT w' SA ab ts'.length (rowsT ts')) : TabAt w' S b ab lb SA SL ts' line :=
  ⟨h.own, fun k q => by have := h.lt k q; have := hf.size; omega, h.subA, h.subL, hf.blk (fun q => (h.subA _ q).2 rfl) h.blk, ha, h.ready.fr hf fun k q q' => (h.subL k q).2.2 q'⟩
theorem TabAt.growA (h : TabAt w S b ab lb SA SL ts line) (hf : Fr SA w w') {ts' : List Tk} (ha : ArT w' (And' SA w w') ab ts'.length (rowsT ts')) : TabAt w' (And' S w w') b ab lb (And' SA w w') SL ts' line := by
  refine ⟨.inl h.own, fun k q => ?_, fun k q => ?_, fun k q => ⟨.inl (h.subL k q).1, (h.subL k q).2.1, fun q' => ?_⟩, hf.blk (fun q => (h.subA _ q).2 rfl) h.blk, ha, h.ready.fr hf fun k q q' => (h.subL k q).2.2 q'⟩
  · rcases q with q | q
    · have := h.lt k q; have := hf.size; omega
    · exact q.2
  · rcases q with q | q
    · exact ⟨.inl (h.subA k q).1, (h.subA k q).2⟩
    · exact ⟨.inr q, fun e => by have := h.lt b h.own; omega⟩
  · rcases q' with q' | q'
    · exact (h.subL k q).2.2 q'
    · have := h.lt k (h.subL k q).1; omega
theorem TabAt.setL (h : TabAt w S b ab lb SA SL ts line) (hf : Fr SL w w') {line' : List Int} (hr : ReadyAt w' SL lb line') : TabAt w' S b ab lb SA SL ts line' :=
  ⟨h.own, fun k q => by have := h.lt k q; have := hf.size; omega, h.subA, h.subL, hf.blk (fun q => (h.subL _ q).2.1 rfl) h.blk, h.arena.fr hf fun k q q' => (h.subL k q').2.2 q, hr⟩
theorem TabAt.growL (h : TabAt w S b ab lb SA SL ts line) (hf : Fr SL w w') {line' : List Int} (hr : ReadyAt w' (And' SL w w') lb line') : TabAt w' (And' S w w') b ab lb SA (And' SL w w') ts line' := by
  refine ⟨.inl h.own, fun k q => ?_, fun k q => ⟨.inl (h.subA k q).1, (h.subA k q).2⟩, fun k q => ?_, hf.blk (fun q => (h.subL _ q).2.1 rfl) h.blk, h.arena.fr hf fun k q q' => (h.subL k q').2.2 q, hr⟩
  · rcases q with q | q
    · have := h.lt k q; have := hf.size; omega
    · exact q.2
  · rcases q with q | q
    · exact ⟨.inl (h.subL k q).1, (h.subL k q).2⟩
    · exact ⟨.inr q, fun e => by have := h.lt b h.own; omega, fun e => by have := h.lt k (h.subA k e).1; omega⟩
end
theorem task_new (w : World) : Calls Try.prog 9 #[] w fun e w' => ∃ (b : Nat) (S : Nat → Prop), e = .returned (.pointer (some ⟨b, 0, none⟩)) ∧ Fr Nob w w' ∧ TableAt w' S b [] [] ∧ ∀ k, S k → w.heap.size ≤ k := by
  have Ha := Lib.hid (arena_new 64 w (by omega) (by omega))
  have Hr := Lib.hid (fun W => ready_new W)
  go_enter Try.func9, Try.ntmps9
  go_wp2_with fail
  refine Ha.out.mono ?_
  rintro e w1 ⟨ab, rfl, hf1, ha1⟩
  have Hf1 := Lib.hid hf1; have Ha1 := Lib.hid ha1
  clear hf1 ha1
  go_wp2_with fail
  refine (Hr.out w1).mono ?_
  rintro e w2 ⟨lb, rfl, hf2, hr2⟩
  have Hf2 := Lib.hid hf2; have Hr2 := Lib.hid hr2
  clear hf2 hr2
  go_wp2_with fail
  go_ret
  have hz1 := Hf1.out.size; have hz2 := Hf2.out.size
  refine ⟨w2.heap.size, fun k => w.heap.size ≤ k ∧ k < w2.heap.size + 1, rfl, (Hf1.out.trans0 Hf2.out).alloc _, ⟨ab, lb, fun k => w.heap.size ≤ k ∧ k < w1.heap.size, fun k => w1.heap.size ≤ k ∧ k < w2.heap.size, ⟨by omega, by omega⟩, fun k q => by simp; omega, fun k q => by omega, fun k q => by omega, heap_alloc_new _ _, ?_, ?_⟩, fun k q => q.1⟩
  · exact (Ha1.out.fr Hf2.out fun _ _ q => q).fr ((Fr.refl Nob w2).alloc _) fun _ _ q => q
  · exact Hr2.out.fr ((Fr.refl Nob w2).alloc _) fun _ _ q => q
section
variable {w : World} {S : Nat → Prop} {b : Nat} {ts : List Tk} {line : List Int} (h : TableAt w S b ts line)
include h
theorem task_len (n : Nat) (hn : ts.length = n) : Calls Try.prog 19 #[.pointer (some ⟨b, 0, none⟩)] w fun e w' => e = .returned (.int .i64 (n : Int)) ∧ w = w' := by
  obtain ⟨ab, lb, SA, SL, h⟩ := h
  have c0 := blk_cell h.blk 0 rfl
  have ha := arena_len w SA ab 64 ts.length (rowsT ts) h.arena
  rw [hn] at ha
  have Ha := Lib.hid ha
  clear h ha hn
  go_enter Try.func19, Try.ntmps19
  go_wp2_with fail
  refine Ha.out.mono ?_
  rintro e _ ⟨rfl, rfl⟩
  go_wp2_with fail
  go_ret
  exact ⟨rfl, rfl⟩
theorem task_ready (n : Nat) (hn : line.length = n) : Calls Try.prog 17 #[.pointer (some ⟨b, 0, none⟩)] w fun e w' => ∃ (A : Option Addr) (cp : Nat), e = .returned (.slice A n cp) ∧ Fr Nob w w' ∧ Sl w' (From w.heap.size) 3 1 (.slice A n cp) n (ints line) := by
  obtain ⟨ab, lb, SA, SL, h⟩ := h
  have c1 := blk_cell h.blk 1 rfl
  have ha := ready_all w SL lb line n hn h.ready
  have Ha := Lib.hid ha
  clear h ha hn
  go_enter Try.func17, Try.ntmps17
  go_wp2_with fail
  refine Ha.out.mono ?_
  rintro e w1 ⟨v, rfl, hf, hs⟩
  obtain ⟨A, cp, rfl⟩ := hs.slice
  have Hf := Lib.hid hf; have Hs := Lib.hid hs
  clear hf hs
  go_wp2_with fail
  go_ret
  exact ⟨A, cp, rfl, Hf.out, Hs.out⟩
end
end Go.Proofs.Yteabiaoklpfbdaa
