/- What Do of package local does where it does nothing. -/
import Derived.Test.YtgfigahamnokhaaCheck
import Derived.Test.YtgfigahamnokhaaClock
import Derived.Laws.Rows
import Derived.Deep.MidRow
set_option linter.unusedVariables false
set_option linter.unusedSimpArgs false
namespace Go.Proofs.Ytgfigahamnokhaa
open Go.RowKit
set_option maxRecDepth 100000

/-- A whole block is stored into. -/
theorem wpList_store_row {P : Program} (w : World) {ops : Array Oper} {rest : List Oper} {o : Oper} {a : Act} {Q : Exit → Act → World → Prop} (hgd : o.guard = none) (ty : TypeId) (x y : Operand) (ho : o.op = .store ty x y)
    (b : Nat) (cells old : Array Value) (T : TypeId) (hx : a.eval x = .pointer (some ⟨b, 0, none⟩)) (hy : a.eval y = .agg cells) (hb : w.heap[b]? = some (.cells old T (0, 0))) (hsz : old.size = cells.size)
    (hi : (P.info? ty).map (·.size) = some cells.size) (h1 : cells.all (·.oneCell') = true)
    (h : ∀ w', w'.heap[b]? = some (.cells cells T (0, 0)) → Fr (fun k => k = b) w w' → wpList P ops Q rest (a.put o.dst undef) w') : wpList P ops Q (o :: rest) a w := by
  refine wpList_store_mid hgd ty x y ho b 0 cells hx hy (fun j hj => ?_) hi h1 (h _ ?_ ?_)
  · rw [Nat.zero_add]
    have hj' : j < old.size := by omega
    exact ⟨by rw [blk_cell hb j (Array.getElem?_eq_getElem hj')]; rfl, blk_froz hb j⟩
  · obtain ⟨blk', q1, q2, q3, q4⟩ := setCells_blk b T (0, 0) cells.toList 0 w old hb (by simp; omega)
    have : blk' = cells := by
      apply Array.ext_getElem?
      intro i
      by_cases hi : i < cells.size
      · have := q4 i cells[i] (by simp [hi])
        rw [Nat.zero_add] at this
        rw [this]; simp [hi]
      · rw [Array.getElem?_eq_none (by omega), Array.getElem?_eq_none (by omega)]
    rw [q1, this]
  · exact setCells_fr b _ 0 w
abbrev regA (r : Nat → Int) : Array Value := #[.int .i64 (r 0), .int .i64 (r 1), .int .i64 (r 2), .int .i64 (r 3), .int .i64 (r 4), .int .i64 (r 5), .int .i64 (r 6), .int .i64 (r 7)]
abbrev outA (pc : Int) (r : Nat → Int) (t : Bool) (x : Int) (e : Bool) : Array Value := #[.int .i64 pc, .int .i64 (r 0), .int .i64 (r 1), .int .i64 (r 2), .int .i64 (r 3), .int .i64 (r 4), .int .i64 (r 5), .int .i64 (r 6), .int .i64 (r 7), .bool t, .int .i64 x, .bool e]
abbrev outZ : Array Value := #[.int .i64 0, .int .i64 0, .int .i64 0, .int .i64 0, .int .i64 0, .int .i64 0, .int .i64 0, .int .i64 0, .int .i64 0, .bool false, .int .i64 0, .bool false]
theorem outA_one (pc : Int) (r : Nat → Int) (t : Bool) (x : Int) (e : Bool) : (outA pc r t x e).all (fun v => v.oneCell') = true := by
  refine Array.all_eq_true_iff_forall_mem.2 fun v hv => ?_
  simp at hv
  rcases hv with rfl | rfl | rfl | rfl | rfl | rfl | rfl | rfl | rfl | rfl | rfl | rfl <;> rfl
theorem outZ_one : outZ.all (fun v => v.oneCell') = true := outA_one 0 (fun _ => 0) false 0 false
theorem row_cells {w : World} {b : Nat} {pc : Int} {r : Nat → Int} {t : Bool} {x : Int} {e : Bool} {T : TypeId} (h : w.heap[b]? = some (.cells (outA pc r t x e) T (0, 0))) : w.cell? ⟨b, 0, none⟩ = some (.int .i64 pc) ∧ w.cell? ⟨b, 1, none⟩ = some (.int .i64 (r 0)) ∧ w.cell? ⟨b, 2, none⟩ = some (.int .i64 (r 1)) ∧ w.cell? ⟨b, 3, none⟩ = some (.int .i64 (r 2)) ∧ w.cell? ⟨b, 4, none⟩ = some (.int .i64 (r 3)) ∧ w.cell? ⟨b, 5, none⟩ = some (.int .i64 (r 4)) ∧ w.cell? ⟨b, 6, none⟩ = some (.int .i64 (r 5)) ∧ w.cell? ⟨b, 7, none⟩ = some (.int .i64 (r 6)) ∧ w.cell? ⟨b, 8, none⟩ = some (.int .i64 (r 7)) ∧ w.cell? ⟨b, 9, none⟩ = some (.bool t) ∧ w.cell? ⟨b, 10, none⟩ = some (.int .i64 x) ∧ w.cell? ⟨b, 11, none⟩ = some (.bool e) :=
  ⟨blk_cell h 0 rfl, blk_cell h 1 rfl, blk_cell h 2 rfl, blk_cell h 3 rfl, blk_cell h 4 rfl, blk_cell h 5 rfl, blk_cell h 6 rfl, blk_cell h 7 rfl, blk_cell h 8 rfl, blk_cell h 9 rfl, blk_cell h 10 rfl, blk_cell h 11 rfl⟩
theorem row_cellsZ {w : World} {b : Nat} {T : TypeId} (h : w.heap[b]? = some (.cells outZ T (0, 0))) : w.cell? ⟨b, 0, none⟩ = some (.int .i64 0) ∧ w.cell? ⟨b, 1, none⟩ = some (.int .i64 0) ∧ w.cell? ⟨b, 2, none⟩ = some (.int .i64 0) ∧ w.cell? ⟨b, 3, none⟩ = some (.int .i64 0) ∧ w.cell? ⟨b, 4, none⟩ = some (.int .i64 0) ∧ w.cell? ⟨b, 5, none⟩ = some (.int .i64 0) ∧ w.cell? ⟨b, 6, none⟩ = some (.int .i64 0) ∧ w.cell? ⟨b, 7, none⟩ = some (.int .i64 0) ∧ w.cell? ⟨b, 8, none⟩ = some (.int .i64 0) ∧ w.cell? ⟨b, 9, none⟩ = some (.bool false) ∧ w.cell? ⟨b, 10, none⟩ = some (.int .i64 0) ∧ w.cell? ⟨b, 11, none⟩ = some (.bool false) :=
  ⟨blk_cell h 0 rfl, blk_cell h 1 rfl, blk_cell h 2 rfl, blk_cell h 3 rfl, blk_cell h 4 rfl, blk_cell h 5 rfl, blk_cell h 6 rfl, blk_cell h 7 rfl, blk_cell h 8 rfl, blk_cell h 9 rfl, blk_cell h 10 rfl, blk_cell h 11 rfl⟩
def upd (r : Nat → Int) (a : Nat) (x : Int) : Nat → Int := fun j => if j = a then x else r j
theorem out_set (pc : Int) (r : Nat → Int) (t : Bool) (v : Int) (e : Bool) (a : Nat) (ha : a < 8) (x : Int) : (outA pc r t v e).setIfInBounds (1 + a) (.int .i64 x) = outA pc (upd r a x) t v e := by
  rcases (by omega : a = 0 ∨ a = 1 ∨ a = 2 ∨ a = 3 ∨ a = 4 ∨ a = 5 ∨ a = 6 ∨ a = 7) with rfl | rfl | rfl | rfl | rfl | rfl | rfl | rfl <;> rfl
theorem reg_get (r : Nat → Int) (a : Nat) (ha : a < 8) : (regA r)[a]? = some (.int .i64 (r a)) := by
  rcases (by omega : a = 0 ∨ a = 1 ∨ a = 2 ∨ a = 3 ∨ a = 4 ∨ a = 5 ∨ a = 6 ∨ a = 7) with rfl | rfl | rfl | rfl | rfl | rfl | rfl | rfl <;> rfl
theorem out_get (pc : Int) (r : Nat → Int) (t : Bool) (v : Int) (e : Bool) (a : Nat) (ha : a < 8) : (outA pc r t v e)[1 + a]? = some (.int .i64 (r a)) := by
  rcases (by omega : a = 0 ∨ a = 1 ∨ a = 2 ∨ a = 3 ∨ a = 4 ∨ a = 5 ∨ a = 6 ∨ a = 7) with rfl | rfl | rfl | rfl | rfl | rfl | rfl | rfl <;> rfl

theorem out_pc (pc : Int) (r : Nat → Int) (t : Bool) (v : Int) (e : Bool) (x : Int) : (outA pc r t v e).setIfInBounds 0 (.int .i64 x) = outA x r t v e := rfl
theorem out_told (pc : Int) (r : Nat → Int) (t : Bool) (v : Int) (e b : Bool) : (outA pc r t v e).setIfInBounds 9 (.bool b) = outA pc r b v e := rfl
theorem out_val (pc : Int) (r : Nat → Int) (t : Bool) (v : Int) (e : Bool) (x : Int) : (outA pc r t v e).setIfInBounds 10 (.int .i64 x) = outA pc r t x e := rfl
theorem out_end (pc : Int) (r : Nat → Int) (t : Bool) (v : Int) (e b : Bool) : (outA pc r t v e).setIfInBounds 11 (.bool b) = outA pc r t v b := rfl
theorem reg_cells {w : World} {b : Nat} {r : Nat → Int} {T : TypeId} (h : w.heap[b]? = some (.cells (regA r) T (0, 0))) : w.cell? ⟨b, 0, none⟩ = some (.int .i64 (r 0)) ∧ w.cell? ⟨b, 1, none⟩ = some (.int .i64 (r 1)) ∧ w.cell? ⟨b, 2, none⟩ = some (.int .i64 (r 2)) ∧ w.cell? ⟨b, 3, none⟩ = some (.int .i64 (r 3)) ∧ w.cell? ⟨b, 4, none⟩ = some (.int .i64 (r 4)) ∧ w.cell? ⟨b, 5, none⟩ = some (.int .i64 (r 5)) ∧ w.cell? ⟨b, 6, none⟩ = some (.int .i64 (r 6)) ∧ w.cell? ⟨b, 7, none⟩ = some (.int .i64 (r 7)) :=
  ⟨blk_cell h 0 rfl, blk_cell h 1 rfl, blk_cell h 2 rfl, blk_cell h 3 rfl, blk_cell h 4 rfl, blk_cell h 5 rfl, blk_cell h 6 rfl, blk_cell h 7 rfl⟩

section
variable (w : World) (v : Value) (ps : List Ins) (n : Nat) (pc : Int) (r : Nat → Int) (now : Int) (hn : ps.length = n) (h : Rd w 6 v n (ps.flatMap insEn)) (hok : ∀ i ∈ ps, InsOk w i)
include hn h hok
set_option maxHeartbeats 1000000 in
theorem do_bad (hbad : progB ps = false ∨ pc < 0 ∨ (n : Int) < pc) :
    Calls Try.prog 9 #[v, .int .i64 pc, .agg (regA r), .int .i64 now] w fun e w' => e = .returned (.tuple #[.agg outZ, .int .i64 1]) ∧ Fr Nob w w' := by
  obtain ⟨A, c, rfl⟩ : ∃ A c, v = .slice A n c := by obtain ⟨_, _, A, c, rfl, _⟩ := h; exact ⟨_, _, rfl⟩
  have hch := fun W (hf : Fr Nob w W) => check_any W _ ps n hn (h.fr hf) fun i hi => (hok i hi).fr hf
  have hi28 : (Try.prog.info? 28).map (fun i => i.size) = some 12 := by kernel_rfl
  have hf0 : Fr Nob w ((w.alloc (.cells (regA r) 23)).alloc (.cells outZ 28)) := ((Fr.refl _ _).alloc _).alloc _
  have hb0 : ((w.alloc (.cells (regA r) 23)).alloc (.cells outZ 28)).heap[w.heap.size + 1]? = some (.cells outZ 28 (0, 0)) := blk_alloc_eq _ (by simp)
  generalize progB ps = q at *
  have Hch := Lib.hid hch; have Hf0 := Lib.hid hf0; have Hb0 := Lib.hid hb0; have Hi := Lib.hid hi28
  clear hch h hok hf0 hb0 hi28
  have key : ∀ w1 w2, Fr Nob ((w.alloc (.cells (regA r) 23)).alloc (.cells outZ 28)) w1 → Fr (fun k => k = w.heap.size + 1) w1 w2 → Fr Nob w w2 := fun w1 w2 f1 f2 => (Hf0.out.trans0 f1).trans f2 fun k hk e => by omega
  have Key := Lib.hid key
  clear key
  cases q with
  | false =>
    clear hbad
    go_enter Try.func9, Try.ntmps9
    go_wp2_with fail
    refine (Hch.out _ Hf0.out).mono ?_
    rintro e w1 ⟨rfl, hf1⟩
    have Hf1 := Lib.hid hf1; have Hb1 := Lib.hid (hf1.blk id Hb0.out)
    clear hf1
    go_wp2_with (refine wpList_store_row w1 rfl 28 (.tmp 8) (.tmp 26) rfl (w.heap.size + 1) outZ outZ 28 rfl rfl Hb1.out rfl Hi.out outZ_one ?_; intro w2 hb2 hf2; have Hb2 := Lib.hid hb2; have Hf2 := Lib.hid hf2; clear hb2 hf2)
    obtain ⟨t0, t1, t2, t3, t4, t5, t6, t7, t8, t9, t10, t11⟩ := row_cellsZ Hb2.out
    exact bodyPost_ret (v := .tuple #[.agg outZ, .int .i64 1]) (by simp [results, Try.results9, go_sem, t0, t1, t2, t3, t4, t5, t6, t7, t8, t9, t10, t11]) rfl ⟨rfl, Key.out _ _ Hf1.out Hf2.out⟩
  | true =>
    have hb' : pc < 0 ∨ (n : Int) < pc := by rcases hbad with h | h; cases h; exact h
    clear hbad
    by_cases hp : pc < 0
    · have k1 : decide (pc < 0) = true := decide_eq_true hp
      have K1 := Lib.hid k1
      clear k1 hb' hp
      go_enter Try.func9, Try.ntmps9
      go_wp2_with fail
      refine (Hch.out _ Hf0.out).mono ?_
      rintro e w1 ⟨rfl, hf1⟩
      have Hf1 := Lib.hid hf1; have Hb1 := Lib.hid (hf1.blk id Hb0.out)
      clear hf1
      have K1' := K1.out
      go_wp2_with (refine wpList_store_row w1 rfl 28 (.tmp 8) (.tmp 26) rfl (w.heap.size + 1) outZ outZ 28 rfl rfl Hb1.out rfl Hi.out outZ_one ?_; intro w2 hb2 hf2; have Hb2 := Lib.hid hb2; have Hf2 := Lib.hid hf2; clear hb2 hf2)
      obtain ⟨t0, t1, t2, t3, t4, t5, t6, t7, t8, t9, t10, t11⟩ := row_cellsZ Hb2.out
      exact bodyPost_ret (v := .tuple #[.agg outZ, .int .i64 1]) (by simp [results, Try.results9, go_sem, t0, t1, t2, t3, t4, t5, t6, t7, t8, t9, t10, t11]) rfl ⟨rfl, Key.out _ _ Hf1.out Hf2.out⟩
    · have k1 : decide (pc < 0) = false := decide_eq_false hp
      have k2 : decide ((n : Int) < pc) = true := decide_eq_true (by omega)
      have K1 := Lib.hid k1; have K2 := Lib.hid k2
      clear k1 k2 hb' hp
      go_enter Try.func9, Try.ntmps9
      go_wp2_with fail
      refine (Hch.out _ Hf0.out).mono ?_
      rintro e w1 ⟨rfl, hf1⟩
      have Hf1 := Lib.hid hf1; have Hb1 := Lib.hid (hf1.blk id Hb0.out)
      clear hf1
      have K1' := K1.out; have K2' := K2.out
      go_wp2_with (refine wpList_store_row w1 rfl 28 (.tmp 8) (.tmp 26) rfl (w.heap.size + 1) outZ outZ 28 rfl rfl Hb1.out rfl Hi.out outZ_one ?_; intro w2 hb2 hf2; have Hb2 := Lib.hid hb2; have Hf2 := Lib.hid hf2; clear hb2 hf2)
      obtain ⟨t0, t1, t2, t3, t4, t5, t6, t7, t8, t9, t10, t11⟩ := row_cellsZ Hb2.out
      exact bodyPost_ret (v := .tuple #[.agg outZ, .int .i64 1]) (by simp [results, Try.results9, go_sem, t0, t1, t2, t3, t4, t5, t6, t7, t8, t9, t10, t11]) rfl ⟨rfl, Key.out _ _ Hf1.out Hf2.out⟩
set_option maxHeartbeats 1000000 in
theorem do_end (hgood : progB ps = true) (hpc : pc = n) :
    Calls Try.prog 9 #[v, .int .i64 pc, .agg (regA r), .int .i64 now] w fun e w' => e = .returned (.tuple #[.agg (outA n r false 0 true), .int .i64 0]) ∧ Fr Nob w w' := by
  obtain ⟨A, c, rfl⟩ : ∃ A c, v = .slice A n c := by obtain ⟨_, _, A, c, rfl, _⟩ := h; exact ⟨_, _, rfl⟩
  have hch := fun W (hf : Fr Nob w W) => check_any W _ ps n hn (h.fr hf) fun i hi => (hok i hi).fr hf
  have hi28 : (Try.prog.info? 28).map (fun i => i.size) = some 12 := by kernel_rfl
  have hf0 : Fr Nob w ((w.alloc (.cells (regA r) 23)).alloc (.cells outZ 28)) := ((Fr.refl _ _).alloc _).alloc _
  have hb0 : ((w.alloc (.cells (regA r) 23)).alloc (.cells outZ 28)).heap[w.heap.size + 1]? = some (.cells outZ 28 (0, 0)) := blk_alloc_eq _ (by simp)
  have hr0 : ((w.alloc (.cells (regA r) 23)).alloc (.cells outZ 28)).heap[w.heap.size]? = some (.cells (regA r) 23 (0, 0)) := (Fr.alloc (Fr.refl Nob _) _).blk id (blk_alloc_eq _ rfl)
  rw [hgood] at hch
  subst hpc
  have hnn : ¬((n : Int) < 0) := by omega
  have Hch := Lib.hid hch; have Hf0 := Lib.hid hf0; have Hb0 := Lib.hid hb0; have Hi := Lib.hid hi28; have Hr0 := Lib.hid hr0
  clear hch h hok hf0 hb0 hi28 hr0
  have key : ∀ w1 w2, Fr Nob ((w.alloc (.cells (regA r) 23)).alloc (.cells outZ 28)) w1 → Fr (fun k => k = w.heap.size + 1) w1 w2 → Fr Nob w w2 := fun w1 w2 f1 f2 => (Hf0.out.trans0 f1).trans f2 fun k hk e => by omega
  have Key := Lib.hid key
  clear key
  go_enter Try.func9, Try.ntmps9
  go_wp2_with fail
  refine (Hch.out _ Hf0.out).mono ?_
  rintro e w1 ⟨rfl, hf1⟩
  have Hf1 := Lib.hid hf1; have Hb1 := Lib.hid (hf1.blk id Hb0.out)
  obtain ⟨r0, r1, r2, r3, r4, r5, r6, r7⟩ := reg_cells (hf1.blk id Hr0.out)
  clear hf1
  have k1 : decide ((n : Int) < 0) = false := decide_eq_false (by omega)
  go_wp2_with (refine wpList_store_row w1 rfl 28 (.tmp 8) (.tmp 34) rfl (w.heap.size + 1) (outA n r false 0 true) outZ 28 rfl rfl Hb1.out rfl Hi.out (outA_one _ _ _ _ _) ?_; intro w2 hb2 hf2; have Hb2 := Lib.hid hb2; have Hf2 := Lib.hid hf2; clear hb2 hf2)
  obtain ⟨t0, t1, t2, t3, t4, t5, t6, t7, t8, t9, t10, t11⟩ := row_cells Hb2.out
  exact bodyPost_ret (v := .tuple #[.agg (outA n r false 0 true), .int .i64 0]) (by simp [results, Try.results9, go_sem, t0, t1, t2, t3, t4, t5, t6, t7, t8, t9, t10, t11]) rfl ⟨rfl, Key.out _ _ Hf1.out Hf2.out⟩
end
end Go.Proofs.Ytgfigahamnokhaa
