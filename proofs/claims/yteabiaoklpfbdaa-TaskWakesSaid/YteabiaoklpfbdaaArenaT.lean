/- What the methods of package arena do at tasks (those that wait by no cases): each as a contract on an arena that lies in blocks of a set S and holds n things, the cells cs. -/
import Derived.Test.YteabiaoklpfbdaaProg
import Derived.Test.YteabiaoklpfbdaaBase
import Derived.IntWalk
import Derived.Laws.Rows
import Derived.Deep.MidRow
set_option linter.unusedVariables false
set_option linter.unusedSimpArgs false
namespace Go.Proofs.Yteabiaoklpfbdaa
open Go.RowKit
set_option maxRecDepth 100000

/-- An arena: T its struct's type, E its things' type, sz their cells. -/
def ArenaAt (T E sz : Nat) (w : World) (S : Nat → Prop) (b : Nat) (most : Nat) (n : Nat) (cs : List Value) : Prop :=
  ∃ v, S b ∧ w.heap[b]? = some (.cells #[v, .int .i64 (most : Int)] T (0, 0)) ∧ Sl w (fun k => S k ∧ k ≠ b) E sz v n cs ∧ n ≤ most ∧ most ≤ 1000
section
variable {T E sz : Nat}
theorem ArenaAt.bound {w : World} {S : Nat → Prop} {b most n : Nat} {cs : List Value} (h : ArenaAt T E sz w S b most n cs) : n ≤ most ∧ most ≤ 1000 := by
  obtain ⟨v, hS, hb, hs, hn, hm⟩ := h; exact ⟨hn, hm⟩
theorem ArenaAt.fr {w w' : World} {S F : Nat → Prop} {b most n : Nat} {cs : List Value} (h : ArenaAt T E sz w S b most n cs) (hf : Fr F w w') (hd : ∀ k, S k → F k → False) : ArenaAt T E sz w' S b most n cs := by
  obtain ⟨v, hS, hb, hs, r⟩ := h
  exact ⟨v, hS, hf.blk (hd _ hS) hb, hs.fr hf (fun k q => hd k q.1), r⟩
theorem ArenaAt.mono {w : World} {S S' : Nat → Prop} {b most n : Nat} {cs : List Value} (h : ArenaAt T E sz w S b most n cs) (hs : ∀ k, k < w.heap.size → S k → S' k) : ArenaAt T E sz w S' b most n cs := by
  obtain ⟨v, hS, hb, hsl, r⟩ := h
  exact ⟨v, hs _ (lt_of_block hb) hS, hb, hsl.mono (fun k hk q => ⟨hs k hk q.1, q.2⟩), r⟩
end

/-- A task: its 16 numbers (prog, pc, state, how, 8 registers, its instruction's 4), its instruction's default; no cases. -/
abbrev tkA (t : Nat → Int) (d : Bool) : Array Value := #[.int .i64 (t 0), .int .i64 (t 1), .int .i64 (t 2), .int .i64 (t 3), .int .i64 (t 4), .int .i64 (t 5), .int .i64 (t 6), .int .i64 (t 7), .int .i64 (t 8), .int .i64 (t 9), .int .i64 (t 10), .int .i64 (t 11), .int .i64 (t 12), .int .i64 (t 13), .int .i64 (t 14), .int .i64 (t 15), .slice none 0 0, .bool d]
abbrev tkL (t : Nat → Int) (d : Bool) : List Value := [.int .i64 (t 0), .int .i64 (t 1), .int .i64 (t 2), .int .i64 (t 3), .int .i64 (t 4), .int .i64 (t 5), .int .i64 (t 6), .int .i64 (t 7), .int .i64 (t 8), .int .i64 (t 9), .int .i64 (t 10), .int .i64 (t 11), .int .i64 (t 12), .int .i64 (t 13), .int .i64 (t 14), .int .i64 (t 15), .slice none 0 0, .bool d]
theorem tk_one (t : Nat → Int) (d : Bool) : (tkA t d).all (·.oneCell') = true := by first | rfl | decide | (simp [Value.oneCell'])
theorem Fr.setT {b : Nat} {w w' : World} (h : Fr (fun k => k = b) w w') (o : Nat) (v : Value) : Fr (fun k => k = b) w (w'.setCell ⟨b, o, Option.none⟩ v) := h.setCell (p := ⟨b, o, Option.none⟩) (.inl rfl) v
theorem wpList_store_row {P : Program} (w : World) {ops : Array Oper} {rest : List Oper} {o : Oper} {a : Act} {Q : Exit → Act → World → Prop} (hgd : o.guard = none) (ty : TypeId) (x y : Operand) (ho : o.op = .store ty x y)
    (b : Nat) (cells old : Array Value) (T : TypeId) (hx : a.eval x = .pointer (some ⟨b, 0, none⟩)) (hy : a.eval y = .agg cells) (hb : w.heap[b]? = some (.cells old T (0, 0))) (hsz : old.size = cells.size)
    (hi : (P.info? ty).map (·.size) = some cells.size) (h1 : cells.all (·.oneCell') = true)
    (h : ∀ w', w'.heap[b]? = some (.cells cells T (0, 0)) → Fr (fun k => k = b) w w' → wpList P ops Q rest (a.put o.dst undef) w') : wpList P ops Q (o :: rest) a w := by
  refine wpList_store_mid hgd ty x y ho b 0 cells hx hy (fun j hj => ?_) hi h1 (h _ ?_ ?_)
  · rw [Nat.zero_add]
    have hj' : j < old.size := by omega
    exact ⟨by rw [blk_cell hb j (Array.getElem?_eq_getElem hj')]; rfl, blk_froz hb j⟩
  · obtain ⟨blk', q1, q2, q3, q4⟩ := setCells_blk b T (0, 0) cells.toList 0 w old hb (by simp; omega)
    have : blk' = cells := by
      apply Array.ext_getElem?
      intro i
      by_cases hi : i < cells.size
      · have := q4 i cells[i] (by simp [hi])
        rw [Nat.zero_add] at this
        rw [this]; simp [hi]
      · rw [Array.getElem?_eq_none (by omega), Array.getElem?_eq_none (by omega)]
    rw [q1, this]
  · exact setCells_fr b _ 0 w
theorem Try.info_task : (Try.prog.info? 44).map (fun i => (i.zero, i.size, i.bytes)) = some (some (.agg #[.int .i64 0, .int .i64 0, .int .i64 0, .int .i64 0, .int .i64 0, .int .i64 0, .int .i64 0, .int .i64 0, .int .i64 0, .int .i64 0, .int .i64 0, .int .i64 0, .int .i64 0, .int .i64 0, .int .i64 0, .int .i64 0, .slice none 0 0, .bool false]), 18, 160) := by kernel_rfl
theorem arena_new (most : Nat) (w : World) (h1 : 1 ≤ most) (h2 : most ≤ 1000) :
    Calls Try.prog 22 #[.int .i64 (most : Int)] w fun e w' => ∃ b, e = .returned (.tuple #[.pointer (some ⟨b, 0, none⟩), .int .i64 0]) ∧ Fr Nob w w' ∧ ArenaAt 76 44 18 w' (fun k => w.heap.size ≤ k ∧ k < w'.heap.size) b most 0 [] := by
  have h3 : ¬ (most : Int) < 1 := by omega
  have h4 : ¬ (1000 : Int) < most := by omega
  go_enter Try.func22, Try.ntmps22
  go_wp2
  go_ret2
  exact ⟨w.heap.size, rfl, (Fr.refl Nob w).alloc _, .slice none 0 0, by simp, blk_alloc_eq _ rfl, Sl.nil _ _ _ _, by omega, h2⟩
theorem arena_len (w : World) (S : Nat → Prop) (b most n : Nat) (cs : List Value) (h : ArenaAt 76 44 18 w S b most n cs) :
    Calls Try.prog 37 #[.pointer (some ⟨b, 0, none⟩)] w fun e w' => e = .returned (.int .i64 (n : Int)) ∧ w = w' := by
  obtain ⟨v, hS, hb, hs, hn, hm⟩ := h
  obtain ⟨X, c, rfl⟩ := hs.slice
  have c0 := blk_cell hb 0 rfl
  clear hb hs
  go_enter Try.func37, Try.ntmps37
  go_wp2
  go_ret
  exact ⟨rfl, rfl⟩
theorem arena_left (w : World) (S : Nat → Prop) (b most n : Nat) (cs : List Value) (h : ArenaAt 76 44 18 w S b most n cs) :
    Calls Try.prog 39 #[.pointer (some ⟨b, 0, none⟩)] w fun e w' => e = .returned (.int .i64 ((most : Int) - n)) ∧ ∃ m, w' = w.drewN m := by
  obtain ⟨v, hS, hb, hs, hn, hm⟩ := h
  obtain ⟨X, c, rfl⟩ := hs.slice
  have c0 := blk_cell hb 0 rfl
  have c1 := blk_cell hb 1 rfl
  clear hb hs
  go_enter Try.func39, Try.ntmps39
  go_wp2
  go_quiet (fail)
  go_wp2
  go_ret
  exact ⟨rfl, _, rfl⟩
set_option maxHeartbeats 1000000 in
theorem arena_add_full (w : World) (S : Nat → Prop) (b most : Nat) (cs : List Value) (t : Nat → Int) (d : Bool) (h : ArenaAt 76 44 18 w S b most most cs) :
    Calls Try.prog 24 #[.pointer (some ⟨b, 0, none⟩), .agg (tkA t d)] w fun e w' => e = .returned (.tuple #[.int .i64 0, .int .i64 3]) ∧ Fr Nob w w' := by
  have hl := fun w' (hf : Fr Nob w w') => arena_left w' S b most most cs (h.fr hf fun _ _ q => q)
  have hz : ((most : Int) - most) = 0 := by omega
  rw [hz] at hl
  have Hl := Lib.hid hl
  clear hl hz h
  go_enter Try.func24, Try.ntmps24
  go_wp2_with fail
  refine (Hl.out _ ((Fr.refl _ _).alloc _)).mono ?_
  rintro e w' ⟨rfl, m, rfl⟩
  go_wp2_with fail
  go_ret2
  exact ⟨rfl, ((Fr.refl _ _).alloc _).drewN _⟩
set_option maxHeartbeats 4000000 in
theorem arena_add (w : World) (S : Nat → Prop) (b most n : Nat) (cs : List Value) (t : Nat → Int) (d : Bool) (h : ArenaAt 76 44 18 w S b most n cs) (hlt : n < most) :
    Calls Try.prog 24 #[.pointer (some ⟨b, 0, none⟩), .agg (tkA t d)] w fun e w' => e = .returned (.tuple #[.int .i64 (n : Int), .int .i64 0]) ∧ Fr S w w' ∧ ArenaAt 76 44 18 w' (And' S w w') b most (n + 1) (cs ++ tkL t d) := by
  have hl := fun w' (hf : Fr Nob w w') => arena_left w' S b most n cs (h.fr hf fun _ _ q => q)
  obtain ⟨v, hS, hb, hs, hn, hm⟩ := h
  obtain ⟨X, c, rfl⟩ := hs.slice
  have hz : (((most : Int) - n) == 0) = false := by simp; omega
  have Hl := Lib.hid hl
  have lb := lt_of_block hb
  have Hb := Lib.hid hb; have Hs := Lib.hid hs
  clear hl hb hs
  go_enter Try.func24, Try.ntmps24
  go_wp2_with fail
  refine (Hl.out _ ((Fr.refl _ _).alloc _)).mono ?_
  rintro e w' ⟨rfl, m, rfl⟩
  go_wp2_with fail
  obtain ⟨W, hW⟩ : ∃ W, W = (w.alloc (.cells (tkA t d) 44)).drewN m := ⟨_, rfl⟩
  rw [← hW]
  have hfW : Fr Nob w W := by rw [hW]; exact ((Fr.refl Nob w).alloc _).drewN m
  have hxW : W.heap[w.heap.size]? = some (.cells #[.int .i64 (t 0), .int .i64 (t 1), .int .i64 (t 2), .int .i64 (t 3), .int .i64 (t 4), .int .i64 (t 5), .int .i64 (t 6), .int .i64 (t 7), .int .i64 (t 8), .int .i64 (t 9), .int .i64 (t 10), .int .i64 (t 11), .int .i64 (t 12), .int .i64 (t 13), .int .i64 (t 14), .int .i64 (t 15), .slice none 0 0, .bool d] 44 (0, 0)) := by rw [hW]; exact blk_alloc_eq (w := w) _ rfl
  have hzW : W.heap.size = w.heap.size + 1 := by rw [hW]; simp [size_drewN']
  clear hW
  have hbW := hfW.blk id Hb.out
  have hsW := Hs.out.fr hfW fun _ _ q => q
  have hwrap : IntKind.i64.wrap ((n : Int) + 1 - 1) = n := by rw [show (n : Int) + 1 - 1 = n by omega]; exact IntWalk.i64_in _ (by omega)
  have x0 := blk_cell hxW 0 rfl
  have x1 := blk_cell hxW 1 rfl
  have x2 := blk_cell hxW 2 rfl
  have x3 := blk_cell hxW 3 rfl
  have x4 := blk_cell hxW 4 rfl
  have x5 := blk_cell hxW 5 rfl
  have x6 := blk_cell hxW 6 rfl
  have x7 := blk_cell hxW 7 rfl
  have x8 := blk_cell hxW 8 rfl
  have x9 := blk_cell hxW 9 rfl
  have x10 := blk_cell hxW 10 rfl
  have x11 := blk_cell hxW 11 rfl
  have x12 := blk_cell hxW 12 rfl
  have x13 := blk_cell hxW 13 rfl
  have x14 := blk_cell hxW 14 rfl
  have x15 := blk_cell hxW 15 rfl
  have x16 := blk_cell hxW 16 rfl
  have x17 := blk_cell hxW 17 rfl
  have b0 := blk_cell hbW 0 rfl
  have b1 := blk_froz hbW 0
  have lbW := lt_of_block hbW
  have lxW := lt_of_block hxW
  generalize w.heap.size = p at *
  have HbW := Lib.hid hbW; have HsW := Lib.hid hsW; have HfW := Lib.hid hfW; have HzW := Lib.hid hzW; have HxW := Lib.hid hxW
  clear hbW hsW hxW hfW hzW
  go_region_law ((refine step_append_sl _ (by rfl) _ _ _ (by rfl) (fun k => S k ∧ k ≠ b) 44 _ 18 160 Try.underlying74 Try.info_task rfl (by omega) (.slice X n c) n cs (by rfl) ((HsW.out.alloc _).drew) ⟨W.heap.size, 0, none⟩ 1 1 [.int .i64 (t 0), .int .i64 (t 1), .int .i64 (t 2), .int .i64 (t 3), .int .i64 (t 4), .int .i64 (t 5), .int .i64 (t 6), .int .i64 (t 7), .int .i64 (t 8), .int .i64 (t 9), .int .i64 (t 10), .int .i64 (t 11), .int .i64 (t 12), .int .i64 (t 13), .int .i64 (t 14), .int .i64 (t 15), .slice none 0 0, .bool d] (by rfl) (by rfl) (news_lit _ [.int .i64 (t 0), .int .i64 (t 1), .int .i64 (t 2), .int .i64 (t 3), .int .i64 (t 4), .int .i64 (t 5), .int .i64 (t 6), .int .i64 (t 7), .int .i64 (t 8), .int .i64 (t 9), .int .i64 (t 10), .int .i64 (t 11), .int .i64 (t 12), .int .i64 (t 13), .int .i64 (t 14), .int .i64 (t 15), .slice none 0 0, .bool d] 44 (0, 0) _ (heap_alloc_new W _)) (by rfl) (by omega) (by omega) ?_; intro v3 w3 hs3 hf3; obtain ⟨X3, c3, rfl⟩ := hs3.slice; have hb3 := hf3.blk (fun q => q.2 rfl) (show ((W.alloc (.cells #[.int .i64 (t 0), .int .i64 (t 1), .int .i64 (t 2), .int .i64 (t 3), .int .i64 (t 4), .int .i64 (t 5), .int .i64 (t 6), .int .i64 (t 7), .int .i64 (t 8), .int .i64 (t 9), .int .i64 (t 10), .int .i64 (t 11), .int .i64 (t 12), .int .i64 (t 13), .int .i64 (t 14), .int .i64 (t 15), .slice none 0 0, .bool d] 44)).drew).heap[b]? = _ from (blk_alloc_ne _ lbW).trans HbW.out); have d0 := blk_cell hb3 0 rfl; have g0 := blk_froz hb3 0; have hsz := hf3.size; have Hb3 := Lib.hid hb3; have Hs3 := Lib.hid hs3; have Hf3 := Lib.hid hf3; clear hb3 hs3 hf3))
  all_goals
    have d1 := blk_cell (blk_set Hb3.out 0 (.slice X3 (n + 1) c3)) 0 rfl
    go_wp2_with fail
    go_ret2
    have e1 : ((n : Int) + 1 - 1) = n := by omega
    have ez : ((W.alloc (.cells #[.int .i64 (t 0), .int .i64 (t 1), .int .i64 (t 2), .int .i64 (t 3), .int .i64 (t 4), .int .i64 (t 5), .int .i64 (t 6), .int .i64 (t 7), .int .i64 (t 8), .int .i64 (t 9), .int .i64 (t 10), .int .i64 (t 11), .int .i64 (t 12), .int .i64 (t 13), .int .i64 (t 14), .int .i64 (t 15), .slice none 0 0, .bool d] 44)).drew).heap.size = W.heap.size + 1 := by simp
    refine ⟨by simp [e1], ((HfW.out.none.alloc _).drew.trans0 (Hf3.out.mono fun k _ q => q.1)).setCell (.inl hS) _, .slice X3 (n + 1) c3, .inl hS, ?_, ?_, by omega, hm⟩
    · exact blk_set Hb3.out 0 _
    · refine (Hs3.out.fr ((Fr.refl (fun k => k = b) w3).setCell (p := ⟨b, 0, none⟩) (.inl rfl) _) ?_).mono ?_
      · intro k q e
        rcases q with q | q
        · exact q.2 e
        · subst e; omega
      · intro k hk q
        have hh := HfW.out.size
        rcases q with q | q
        · exact ⟨.inl q.1, q.2⟩
        · exact ⟨.inr ⟨by omega, by simpa using hk⟩, by rintro rfl; omega⟩
end Go.Proofs.Yteabiaoklpfbdaa
