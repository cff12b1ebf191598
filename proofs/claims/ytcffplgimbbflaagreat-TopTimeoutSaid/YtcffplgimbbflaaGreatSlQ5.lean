/- Who waits on a channel, from outside; what two laws need. -/
import Derived.Test.YtcffplgimbbflaaGreatSlQ4
set_option linter.unusedVariables false
set_option linter.unusedSimpArgs false
namespace Go.Proofs.YtcffplgimbbflaaGreat
open Go.RowKit
set_option maxRecDepth 100000
/-- A whole block is stored into. -/
theorem wpList_store_row {P : Program} (w : World) {ops : Array Oper} {rest : List Oper} {o : Oper} {a : Act} {Q : Exit → Act → World → Prop} (hgd : o.guard = none) (ty : TypeId) (x y : Operand) (ho : o.op = .store ty x y)
    (b : Nat) (cells old : Array Value) (T : TypeId) (hx : a.eval x = .pointer (some ⟨b, 0, none⟩)) (hy : a.eval y = .agg cells) (hb : w.heap[b]? = some (.cells old T (0, 0))) (hsz : old.size = cells.size)
    (hi : (P.info? ty).map (·.size) = some cells.size) (h1 : cells.all (·.oneCell') = true)
    (h : ∀ w', w'.heap[b]? = some (.cells cells T (0, 0)) → Fr (fun k => k = b) w w' → wpList P ops Q rest (a.put o.dst undef) w') : wpList P ops Q (o :: rest) a w := by
  refine wpList_store_mid hgd ty x y ho b 0 cells hx hy (fun j hj => ?_) hi h1 (h _ ?_ ?_)
  · rw [Nat.zero_add]
    have hj' : j < old.size := by omega
    exact ⟨by rw [blk_cell hb j (Array.getElem?_eq_getElem hj')]; rfl, blk_froz hb j⟩
  · obtain ⟨blk', q1, q2, q3, q4⟩ := setCells_blk b T (0, 0) cells.toList 0 w old hb (by simp; omega)
    have : blk' = cells := by
      apply Array.ext_getElem?
      intro i
      by_cases hi : i < cells.size
      · have := q4 i cells[i] (by simp [hi])
        rw [Nat.zero_add] at this
        rw [this]; simp [hi]
      · rw [Array.getElem?_eq_none (by omega), Array.getElem?_eq_none (by omega)]
    rw [q1, this]
  · exact setCells_fr b _ 0 w
abbrev regA (r : Nat → Int) : Array Value := #[.int .i64 (r 0), .int .i64 (r 1), .int .i64 (r 2), .int .i64 (r 3), .int .i64 (r 4), .int .i64 (r 5), .int .i64 (r 6), .int .i64 (r 7)]
abbrev outA (pc : Int) (r : Nat → Int) (t : Bool) (x : Int) (e : Bool) : Array Value := #[.int .i64 pc, .int .i64 (r 0), .int .i64 (r 1), .int .i64 (r 2), .int .i64 (r 3), .int .i64 (r 4), .int .i64 (r 5), .int .i64 (r 6), .int .i64 (r 7), .bool t, .int .i64 x, .bool e]
abbrev outZ : Array Value := #[.int .i64 0, .int .i64 0, .int .i64 0, .int .i64 0, .int .i64 0, .int .i64 0, .int .i64 0, .int .i64 0, .int .i64 0, .bool false, .int .i64 0, .bool false]
theorem outA_one (pc : Int) (r : Nat → Int) (t : Bool) (x : Int) (e : Bool) : (outA pc r t x e).all (fun v => v.oneCell') = true := by
  refine Array.all_eq_true_iff_forall_mem.2 fun v hv => ?_
  simp at hv
  rcases hv with rfl | rfl | rfl | rfl | rfl | rfl | rfl | rfl | rfl | rfl | rfl | rfl <;> rfl
theorem outZ_one : outZ.all (fun v => v.oneCell') = true := outA_one 0 (fun _ => 0) false 0 false
theorem row_cells {w : World} {b : Nat} {pc : Int} {r : Nat → Int} {t : Bool} {x : Int} {e : Bool} {T : TypeId} (h : w.heap[b]? = some (.cells (outA pc r t x e) T (0, 0))) : w.cell? ⟨b, 0, none⟩ = some (.int .i64 pc) ∧ w.cell? ⟨b, 1, none⟩ = some (.int .i64 (r 0)) ∧ w.cell? ⟨b, 2, none⟩ = some (.int .i64 (r 1)) ∧ w.cell? ⟨b, 3, none⟩ = some (.int .i64 (r 2)) ∧ w.cell? ⟨b, 4, none⟩ = some (.int .i64 (r 3)) ∧ w.cell? ⟨b, 5, none⟩ = some (.int .i64 (r 4)) ∧ w.cell? ⟨b, 6, none⟩ = some (.int .i64 (r 5)) ∧ w.cell? ⟨b, 7, none⟩ = some (.int .i64 (r 6)) ∧ w.cell? ⟨b, 8, none⟩ = some (.int .i64 (r 7)) ∧ w.cell? ⟨b, 9, none⟩ = some (.bool t) ∧ w.cell? ⟨b, 10, none⟩ = some (.int .i64 x) ∧ w.cell? ⟨b, 11, none⟩ = some (.bool e) :=
  ⟨blk_cell h 0 rfl, blk_cell h 1 rfl, blk_cell h 2 rfl, blk_cell h 3 rfl, blk_cell h 4 rfl, blk_cell h 5 rfl, blk_cell h 6 rfl, blk_cell h 7 rfl, blk_cell h 8 rfl, blk_cell h 9 rfl, blk_cell h 10 rfl, blk_cell h 11 rfl⟩
theorem row_cellsZ {w : World} {b : Nat} {T : TypeId} (h : w.heap[b]? = some (.cells outZ T (0, 0))) : w.cell? ⟨b, 0, none⟩ = some (.int .i64 0) ∧ w.cell? ⟨b, 1, none⟩ = some (.int .i64 0) ∧ w.cell? ⟨b, 2, none⟩ = some (.int .i64 0) ∧ w.cell? ⟨b, 3, none⟩ = some (.int .i64 0) ∧ w.cell? ⟨b, 4, none⟩ = some (.int .i64 0) ∧ w.cell? ⟨b, 5, none⟩ = some (.int .i64 0) ∧ w.cell? ⟨b, 6, none⟩ = some (.int .i64 0) ∧ w.cell? ⟨b, 7, none⟩ = some (.int .i64 0) ∧ w.cell? ⟨b, 8, none⟩ = some (.int .i64 0) ∧ w.cell? ⟨b, 9, none⟩ = some (.bool false) ∧ w.cell? ⟨b, 10, none⟩ = some (.int .i64 0) ∧ w.cell? ⟨b, 11, none⟩ = some (.bool false) :=
  ⟨blk_cell h 0 rfl, blk_cell h 1 rfl, blk_cell h 2 rfl, blk_cell h 3 rfl, blk_cell h 4 rfl, blk_cell h 5 rfl, blk_cell h 6 rfl, blk_cell h 7 rfl, blk_cell h 8 rfl, blk_cell h 9 rfl, blk_cell h 10 rfl, blk_cell h 11 rfl⟩
def updR (r : Nat → Int) (a : Nat) (x : Int) : Nat → Int := fun j => if j = a then x else r j
theorem out_set (pc : Int) (r : Nat → Int) (t : Bool) (v : Int) (e : Bool) (a : Nat) (ha : a < 8) (x : Int) : (outA pc r t v e).setIfInBounds (1 + a) (.int .i64 x) = outA pc (updR r a x) t v e := by
  rcases (by omega : a = 0 ∨ a = 1 ∨ a = 2 ∨ a = 3 ∨ a = 4 ∨ a = 5 ∨ a = 6 ∨ a = 7) with rfl | rfl | rfl | rfl | rfl | rfl | rfl | rfl <;> rfl
theorem reg_get (r : Nat → Int) (a : Nat) (ha : a < 8) : (regA r)[a]? = some (.int .i64 (r a)) := by
  rcases (by omega : a = 0 ∨ a = 1 ∨ a = 2 ∨ a = 3 ∨ a = 4 ∨ a = 5 ∨ a = 6 ∨ a = 7) with rfl | rfl | rfl | rfl | rfl | rfl | rfl | rfl <;> rfl
theorem out_get (pc : Int) (r : Nat → Int) (t : Bool) (v : Int) (e : Bool) (a : Nat) (ha : a < 8) : (outA pc r t v e)[1 + a]? = some (.int .i64 (r a)) := by
  rcases (by omega : a = 0 ∨ a = 1 ∨ a = 2 ∨ a = 3 ∨ a = 4 ∨ a = 5 ∨ a = 6 ∨ a = 7) with rfl | rfl | rfl | rfl | rfl | rfl | rfl | rfl <;> rfl
theorem out_pc (pc : Int) (r : Nat → Int) (t : Bool) (v : Int) (e : Bool) (x : Int) : (outA pc r t v e).setIfInBounds 0 (.int .i64 x) = outA x r t v e := rfl
theorem out_told (pc : Int) (r : Nat → Int) (t : Bool) (v : Int) (e b : Bool) : (outA pc r t v e).setIfInBounds 9 (.bool b) = outA pc r b v e := rfl
theorem out_val (pc : Int) (r : Nat → Int) (t : Bool) (v : Int) (e : Bool) (x : Int) : (outA pc r t v e).setIfInBounds 10 (.int .i64 x) = outA pc r t x e := rfl
theorem out_end (pc : Int) (r : Nat → Int) (t : Bool) (v : Int) (e b : Bool) : (outA pc r t v e).setIfInBounds 11 (.bool b) = outA pc r t v b := rfl
theorem reg_cells {w : World} {b : Nat} {r : Nat → Int} {T : TypeId} (h : w.heap[b]? = some (.cells (regA r) T (0, 0))) : w.cell? ⟨b, 0, none⟩ = some (.int .i64 (r 0)) ∧ w.cell? ⟨b, 1, none⟩ = some (.int .i64 (r 1)) ∧ w.cell? ⟨b, 2, none⟩ = some (.int .i64 (r 2)) ∧ w.cell? ⟨b, 3, none⟩ = some (.int .i64 (r 3)) ∧ w.cell? ⟨b, 4, none⟩ = some (.int .i64 (r 4)) ∧ w.cell? ⟨b, 5, none⟩ = some (.int .i64 (r 5)) ∧ w.cell? ⟨b, 6, none⟩ = some (.int .i64 (r 6)) ∧ w.cell? ⟨b, 7, none⟩ = some (.int .i64 (r 7)) :=
  ⟨blk_cell h 0 rfl, blk_cell h 1 rfl, blk_cell h 2 rfl, blk_cell h 3 rfl, blk_cell h 4 rfl, blk_cell h 5 rfl, blk_cell h 6 rfl, blk_cell h 7 rfl⟩
section
variable (w : World) (v : Value) (ps : List Ins) (n : Nat) (pc : Int) (r : Nat → Int) (now : Int) (hn : ps.length = n) (h : Rd w 6 v n (ps.flatMap insEn)) (hok : ∀ i ∈ ps, InsOk w i)
include hn h hok
set_option maxHeartbeats 1000000 in
theorem do_bad (hbad : progB ps = false ∨ pc < 0 ∨ (n : Int) < pc) :
    Calls Tryz.prog 57 #[v, .int .i64 pc, .agg (regA r), .int .i64 now] w fun e w' => e = .returned (.tuple #[.agg outZ, .int .i64 1]) ∧ Fr Nob w w' := by
  obtain ⟨A, c, rfl⟩ : ∃ A c, v = .slice A n c := by obtain ⟨_, _, A, c, rfl, _⟩ := h; exact ⟨_, _, rfl⟩
  have hch := fun W (hf : Fr Nob w W) => check_any W _ ps n hn (h.fr hf) fun i hi => (hok i hi).fr hf
  have hi28 : (Tryz.prog.info? 138).map (fun i => i.size) = some 12 := by kernel_rfl
  have hf0 : Fr Nob w ((w.alloc (.cells (regA r) 74)).alloc (.cells outZ 138)) := ((Fr.refl _ _).alloc _).alloc _
  have hb0 : ((w.alloc (.cells (regA r) 74)).alloc (.cells outZ 138)).heap[w.heap.size + 1]? = some (.cells outZ 138 (0, 0)) := blk_alloc_eq _ (by simp)
  generalize progB ps = q at *
  have Hch := Lib.hid hch; have Hf0 := Lib.hid hf0; have Hb0 := Lib.hid hb0; have Hi := Lib.hid hi28
  clear hch h hok hf0 hb0 hi28
  have key : ∀ w1 w2, Fr Nob ((w.alloc (.cells (regA r) 74)).alloc (.cells outZ 138)) w1 → Fr (fun k => k = w.heap.size + 1) w1 w2 → Fr Nob w w2 := fun w1 w2 f1 f2 => (Hf0.out.trans0 f1).trans f2 fun k hk e => by omega
  have Key := Lib.hid key
  clear key
  cases q with
  | false =>
    clear hbad
    go_enter Tryz.func57, Tryz.ntmps57
    go_wp2_with fail
    refine (Hch.out _ Hf0.out).mono ?_
    rintro e w1 ⟨rfl, hf1⟩
    have Hf1 := Lib.hid hf1; have Hb1 := Lib.hid (hf1.blk id Hb0.out)
    clear hf1
    go_wp2_with (refine wpList_store_row w1 rfl 138 (.tmp 8) (.tmp 26) rfl (w.heap.size + 1) outZ outZ 138 rfl rfl Hb1.out rfl Hi.out outZ_one ?_; intro w2 hb2 hf2; have Hb2 := Lib.hid hb2; have Hf2 := Lib.hid hf2; clear hb2 hf2)
    obtain ⟨t0, t1, t2, t3, t4, t5, t6, t7, t8, t9, t10, t11⟩ := row_cellsZ Hb2.out
    exact bodyPost_ret (v := .tuple #[.agg outZ, .int .i64 1]) (by simp [results, Tryz.results57, go_sem, t0, t1, t2, t3, t4, t5, t6, t7, t8, t9, t10, t11]) rfl ⟨rfl, Key.out _ _ Hf1.out Hf2.out⟩
  | true =>
    have hb' : pc < 0 ∨ (n : Int) < pc := by rcases hbad with h | h; cases h; exact h
    clear hbad
    by_cases hp : pc < 0
    · have k1 : decide (pc < 0) = true := decide_eq_true hp
      have K1 := Lib.hid k1
      clear k1 hb' hp
      go_enter Tryz.func57, Tryz.ntmps57
      go_wp2_with fail
      refine (Hch.out _ Hf0.out).mono ?_
      rintro e w1 ⟨rfl, hf1⟩
      have Hf1 := Lib.hid hf1; have Hb1 := Lib.hid (hf1.blk id Hb0.out)
      clear hf1
      have K1' := K1.out
      go_wp2_with (refine wpList_store_row w1 rfl 138 (.tmp 8) (.tmp 26) rfl (w.heap.size + 1) outZ outZ 138 rfl rfl Hb1.out rfl Hi.out outZ_one ?_; intro w2 hb2 hf2; have Hb2 := Lib.hid hb2; have Hf2 := Lib.hid hf2; clear hb2 hf2)
      obtain ⟨t0, t1, t2, t3, t4, t5, t6, t7, t8, t9, t10, t11⟩ := row_cellsZ Hb2.out
      exact bodyPost_ret (v := .tuple #[.agg outZ, .int .i64 1]) (by simp [results, Tryz.results57, go_sem, t0, t1, t2, t3, t4, t5, t6, t7, t8, t9, t10, t11]) rfl ⟨rfl, Key.out _ _ Hf1.out Hf2.out⟩
    · have k1 : decide (pc < 0) = false := decide_eq_false hp
      have k2 : decide ((n : Int) < pc) = true := decide_eq_true (by omega)
      have K1 := Lib.hid k1; have K2 := Lib.hid k2
      clear k1 k2 hb' hp
      go_enter Tryz.func57, Tryz.ntmps57
      go_wp2_with fail
      refine (Hch.out _ Hf0.out).mono ?_
      rintro e w1 ⟨rfl, hf1⟩
      have Hf1 := Lib.hid hf1; have Hb1 := Lib.hid (hf1.blk id Hb0.out)
      clear hf1
      have K1' := K1.out; have K2' := K2.out
      go_wp2_with (refine wpList_store_row w1 rfl 138 (.tmp 8) (.tmp 26) rfl (w.heap.size + 1) outZ outZ 138 rfl rfl Hb1.out rfl Hi.out outZ_one ?_; intro w2 hb2 hf2; have Hb2 := Lib.hid hb2; have Hf2 := Lib.hid hf2; clear hb2 hf2)
      obtain ⟨t0, t1, t2, t3, t4, t5, t6, t7, t8, t9, t10, t11⟩ := row_cellsZ Hb2.out
      exact bodyPost_ret (v := .tuple #[.agg outZ, .int .i64 1]) (by simp [results, Tryz.results57, go_sem, t0, t1, t2, t3, t4, t5, t6, t7, t8, t9, t10, t11]) rfl ⟨rfl, Key.out _ _ Hf1.out Hf2.out⟩
set_option maxHeartbeats 1000000 in
theorem do_end (hgood : progB ps = true) (hpc : pc = n) :
    Calls Tryz.prog 57 #[v, .int .i64 pc, .agg (regA r), .int .i64 now] w fun e w' => e = .returned (.tuple #[.agg (outA n r false 0 true), .int .i64 0]) ∧ Fr Nob w w' := by
  obtain ⟨A, c, rfl⟩ : ∃ A c, v = .slice A n c := by obtain ⟨_, _, A, c, rfl, _⟩ := h; exact ⟨_, _, rfl⟩
  have hch := fun W (hf : Fr Nob w W) => check_any W _ ps n hn (h.fr hf) fun i hi => (hok i hi).fr hf
  have hi28 : (Tryz.prog.info? 138).map (fun i => i.size) = some 12 := by kernel_rfl
  have hf0 : Fr Nob w ((w.alloc (.cells (regA r) 74)).alloc (.cells outZ 138)) := ((Fr.refl _ _).alloc _).alloc _
  have hb0 : ((w.alloc (.cells (regA r) 74)).alloc (.cells outZ 138)).heap[w.heap.size + 1]? = some (.cells outZ 138 (0, 0)) := blk_alloc_eq _ (by simp)
  have hr0 : ((w.alloc (.cells (regA r) 74)).alloc (.cells outZ 138)).heap[w.heap.size]? = some (.cells (regA r) 74 (0, 0)) := (Fr.alloc (Fr.refl Nob _) _).blk id (blk_alloc_eq _ rfl)
  rw [hgood] at hch
  subst hpc
  have hnn : ¬((n : Int) < 0) := by omega
  have Hch := Lib.hid hch; have Hf0 := Lib.hid hf0; have Hb0 := Lib.hid hb0; have Hi := Lib.hid hi28; have Hr0 := Lib.hid hr0
  clear hch h hok hf0 hb0 hi28 hr0
  have key : ∀ w1 w2, Fr Nob ((w.alloc (.cells (regA r) 74)).alloc (.cells outZ 138)) w1 → Fr (fun k => k = w.heap.size + 1) w1 w2 → Fr Nob w w2 := fun w1 w2 f1 f2 => (Hf0.out.trans0 f1).trans f2 fun k hk e => by omega
  have Key := Lib.hid key
  clear key
  go_enter Tryz.func57, Tryz.ntmps57
  go_wp2_with fail
  refine (Hch.out _ Hf0.out).mono ?_
  rintro e w1 ⟨rfl, hf1⟩
  have Hf1 := Lib.hid hf1; have Hb1 := Lib.hid (hf1.blk id Hb0.out)
  obtain ⟨r0, r1, r2, r3, r4, r5, r6, r7⟩ := reg_cells (hf1.blk id Hr0.out)
  clear hf1
  have k1 : decide ((n : Int) < 0) = false := decide_eq_false (by omega)
  go_wp2_with (refine wpList_store_row w1 rfl 138 (.tmp 8) (.tmp 34) rfl (w.heap.size + 1) (outA n r false 0 true) outZ 138 rfl rfl Hb1.out rfl Hi.out (outA_one _ _ _ _ _) ?_; intro w2 hb2 hf2; have Hb2 := Lib.hid hb2; have Hf2 := Lib.hid hf2; clear hb2 hf2)
  obtain ⟨t0, t1, t2, t3, t4, t5, t6, t7, t8, t9, t10, t11⟩ := row_cells Hb2.out
  exact bodyPost_ret (v := .tuple #[.agg (outA n r false 0 true), .int .i64 0]) (by simp [results, Tryz.results57, go_sem, t0, t1, t2, t3, t4, t5, t6, t7, t8, t9, t10, t11]) rfl ⟨rfl, Key.out _ _ Hf1.out Hf2.out⟩
end
section
variable (w : World) (v : Value) (ps : List Ins) (n k : Nat) (r : Nat → Int) (now : Int) (hn : ps.length = n) (h : Rd w 6 v n (ps.flatMap insEn)) (hok : ∀ i ∈ ps, InsOk w i)
include hn h hok
set_option maxHeartbeats 2000000 in
theorem do_set (a : Nat) (b : Int) (c : Int) (v2 : Value) (cs : List ICs) (d : Bool) (hk : ps[k]? = some (((1, (a : Int), b, c), v2, cs, d) : Ins)) (hgood : progB ps = true) (ha : a < 8) :
    Calls Tryz.prog 57 #[v, .int .i64 k, .agg (regA r), .int .i64 now] w fun e w' => e = .returned (.tuple #[.agg (outA (k + 1) (updR r a b) false 0 false), .int .i64 0]) ∧ Fr Nob w w' := by
  have hio : InsOk w ((1, (a : Int), b, c), v2, cs, d) := hok _ (List.mem_of_getElem? hk)
  have hkn : k < n := by rw [← hn]; exact (List.getElem?_eq_some_iff.1 hk).1
  have hch := fun W (hf : Fr Nob w W) => check_any W _ ps n hn (h.fr hf) fun i hi => (hok i hi).fr hf
  have hm : ∀ W : World, Calls Tryz.prog 84 #[.int .i64 1] W fun e w' => e = .returned (.bool true) ∧ W = w' := fun W => mine_any W 1
  obtain ⟨_, hl, A, c1, rfl, hc1, hc2, hA⟩ := h
  obtain ⟨g, o, rfl, hgl, hc⟩ := hA (by omega)
  unfold maxLen at hl
  obtain ⟨_, _, A2, c2, hv, _⟩ := id hio
  dsimp only at hv
  subst hv
  have q0 := hc _ _ ((insGet ps k 0 _ hk (by omega)).trans rfl)
  have q1 := hc _ _ ((insGet ps k 1 _ hk (by omega)).trans rfl)
  have q2 := hc _ _ ((insGet ps k 2 _ hk (by omega)).trans rfl)
  have q3 := hc _ _ ((insGet ps k 3 _ hk (by omega)).trans rfl)
  have q4 := hc _ _ ((insGet ps k 4 _ hk (by omega)).trans rfl)
  have q5 := hc _ _ ((insGet ps k 5 _ hk (by omega)).trans rfl)
  rw [← Nat.add_assoc] at q1 q2 q3 q4 q5
  rw [Nat.add_zero] at q0
  have hi28 : (Tryz.prog.info? 138).map (fun i => i.size) = some 12 := by kernel_rfl
  have hi39 : (Tryz.prog.info? 25).map (fun i => i.size) = some 6 := by kernel_rfl
  have hf0 : Fr Nob w ((w.alloc (.cells (regA r) 74)).alloc (.cells outZ 138)) := ((Fr.refl _ _).alloc _).alloc _
  have hb0 : ((w.alloc (.cells (regA r) 74)).alloc (.cells outZ 138)).heap[w.heap.size + 1]? = some (.cells outZ 138 (0, 0)) := blk_alloc_eq _ (by simp)
  have hr0 : ((w.alloc (.cells (regA r) 74)).alloc (.cells outZ 138)).heap[w.heap.size]? = some (.cells (regA r) 74 (0, 0)) := (Fr.alloc (Fr.refl Nob _) _).blk id (blk_alloc_eq _ rfl)
  rw [hgood] at hch
  have hki : (k : Int) < n := by omega
  have Hch := Lib.hid hch; have Hf0 := Lib.hid hf0; have Hb0 := Lib.hid hb0; have Hi := Lib.hid hi28; have Hi39 := Lib.hid hi39; have Hr0 := Lib.hid hr0; have Hm := Lib.hid hm
  have Q0 := Lib.hid q0; have Q1 := Lib.hid q1; have Q2 := Lib.hid q2; have Q3 := Lib.hid q3; have Q4 := Lib.hid q4; have Q5 := Lib.hid q5
  clear hch hok hf0 hb0 hi28 hr0 hi39 hio hc hk hm q0 q1 q2 q3 q4 q5
  go_enter Tryz.func57, Tryz.ntmps57
  go_wp2_with fail
  refine (Hch.out _ Hf0.out).mono ?_
  rintro e w1 ⟨rfl, hf1⟩
  have Hf1 := Lib.hid hf1; have Hb1 := Lib.hid (hf1.blk id Hb0.out); have Hr1 := Lib.hid (hf1.blk id Hr0.out); have Hf01 := Lib.hid (Hf0.out.trans0 hf1)
  have Hlt := Lib.hid (lt_of_block Hb1.out)
  obtain ⟨r0, r1, r2, r3, r4, r5, r6, r7⟩ := reg_cells Hr1.out
  have x0 := Hf01.out.cell (p := ⟨g, o + k * 6, none⟩) id Q0.out
  clear hf1
  have k0 : decide (0 ≤ k) = true := decide_eq_true (Nat.zero_le k)
  have k0' : decide ((0 : Int) ≤ k) = true := decide_eq_true (by omega)
  have k1 : decide ((k : Int) < 0) = false := decide_eq_false (by omega)
  have k2 : decide ((n : Int) < k) = false := decide_eq_false (by omega)
  have k2' : decide (n < k) = false := decide_eq_false (by omega)
  have k3 : decide (k < n) = true := decide_eq_true hkn
  have k4 : decide ((k : Int) < n) = true := decide_eq_true hki
  have k5 : ((k : Int) == (n : Int)) = false := beq_eq_false_iff_ne.2 (by omega)
  have k6 : (k == n) = false := beq_eq_false_iff_ne.2 (by omega)
  go_wp2_with fail
  refine (Hm.out _).mono ?_
  rintro e _ ⟨rfl, rfl⟩
  go_wp2_with (first
    | (refine wpList_store_row _ rfl 138 (.tmp 10) (.tmp 47) rfl w1.heap.size (outA (k + 1) r false 0 false) outZ 138 rfl rfl (blk_alloc_eq _ rfl) rfl Hi.out (outA_one _ _ _ _ _) ?_
       intro w2 hb2 hf2
       have Hb2 := Lib.hid hb2; have Hf2 := Lib.hid (((Fr.refl (From w1.heap.size) w1).alloc _).trans0 (hf2.mono fun k _ e => by rw [e]; exact Nat.le_refl _))
       clear hb2 hf2
       have y0 := Hf2.out.cell (p := ⟨g, o + k * 6, none⟩) (by simp [From]; have := Hlt.out; omega) (Hf01.out.cell (p := ⟨g, o + k * 6, none⟩) id Q0.out)
       have y1 := Hf2.out.cell (p := ⟨g, o + k * 6 + 1, none⟩) (by simp [From]; have := Hlt.out; omega) (Hf01.out.cell (p := ⟨g, o + k * 6 + 1, none⟩) id Q1.out)
       have y2 := Hf2.out.cell (p := ⟨g, o + k * 6 + 2, none⟩) (by simp [From]; have := Hlt.out; omega) (Hf01.out.cell (p := ⟨g, o + k * 6 + 2, none⟩) id Q2.out)
       have y3 := Hf2.out.cell (p := ⟨g, o + k * 6 + 3, none⟩) (by simp [From]; have := Hlt.out; omega) (Hf01.out.cell (p := ⟨g, o + k * 6 + 3, none⟩) id Q3.out)
       have y4 := Hf2.out.cell (p := ⟨g, o + k * 6 + 4, none⟩) (by simp [From]; have := Hlt.out; omega) (Hf01.out.cell (p := ⟨g, o + k * 6 + 4, none⟩) id Q4.out)
       have y5 := Hf2.out.cell (p := ⟨g, o + k * 6 + 5, none⟩) (by simp [From]; have := Hlt.out; omega) (Hf01.out.cell (p := ⟨g, o + k * 6 + 5, none⟩) id Q5.out)
       have hlt2 := lt_of_block Hb2.out
       have hf23 : Fr (From w2.heap.size) w2 (w2.alloc (.cells #[.int .i64 1, .int .i64 (a : Int), .int .i64 b, .int .i64 c, .slice A2 cs.length c2, .bool d] 25)) := (Fr.refl (From w2.heap.size) w2).alloc _
       have hf13 : Fr (From w1.heap.size) w1 (w2.alloc (.cells #[.int .i64 1, .int .i64 (a : Int), .int .i64 b, .int .i64 c, .slice A2 cs.length c2, .bool d] 25)) := Hf2.out.trans hf23 fun k hk q => by have := Hf2.out.size; simp [From] at q ⊢; omega
       have Hc3 := Lib.hid (hf23.blk (by simp [From]; omega) Hb2.out); have Hf3 := Lib.hid hf13
       have Hr3 := Lib.hid (hf13.blk (by simp [From]; have := Hlt.out; omega) Hr1.out)
       have Hz3 := Lib.hid (hf13.blk (by simp [From]; have := Hlt.out; omega) Hb1.out)
       have oc := blk_cell Hc3.out (1 + a) (out_get _ _ _ _ _ a ha)
       have of := blk_froz Hc3.out (1 + a)
       clear hlt2 hf23 hf13)
    | (refine wpList_load_row rfl 138 (.tmp 10) rfl w1.heap.size rfl 138 (outA (k + 1) (updR r a b) false 0 false) (0, 0) _ ?_ rfl rfl Hi.out ?_
       focus (rw [blk_set Hc3.out (1 + a) _, out_set _ _ _ _ _ a ha]))
    | (refine wpList_store_row _ rfl 138 (.tmp 8) (.tmp 118) rfl (w.heap.size + 1) (outA (k + 1) (updR r a b) false 0 false) outZ 138 rfl rfl (by rw [blk_set_ne _ _ (by have := Hlt.out; omega)]; exact Hz3.out) rfl Hi.out (outA_one _ _ _ _ _) ?_
       intro w4 hb4 hf4
       have Hb4 := Lib.hid hb4
       have Hf4 := Lib.hid ((((Hf01.out.none (S := fun k => w.heap.size + 1 ≤ k)).trans (Hf3.out.setCell (.inl (Nat.le_refl _)) _) (fun k _ q => by have := Hlt.out; simp [From] at q; omega)).trans hf4 (fun k _ q => by omega)))
       clear hb4 hf4))
  obtain ⟨t0, t1, t2, t3, t4, t5, t6, t7, t8, t9, t10, t11⟩ := row_cells Hb4.out
  exact bodyPost_ret (v := .tuple #[.agg (outA (k + 1) (updR r a b) false 0 false), .int .i64 0]) (by simp [results, Tryz.results57, go_sem, t0, t1, t2, t3, t4, t5, t6, t7, t8, t9, t10, t11]) rfl ⟨rfl, Hf4.out.mono fun k hk q => by omega⟩
end
section
variable (w : World) (v : Value) (ps : List Ins) (n k : Nat) (r : Nat → Int) (now : Int) (hn : ps.length = n) (h : Rd w 6 v n (ps.flatMap insEn)) (hok : ∀ i ∈ ps, InsOk w i)
include hn h hok
set_option maxHeartbeats 2000000 in
theorem do_move (a b : Nat) (c : Int) (v2 : Value) (cs : List ICs) (d : Bool) (hk : ps[k]? = some (((2, (a : Int), (b : Int), c), v2, cs, d) : Ins)) (hgood : progB ps = true) (ha : a < 8) (hb : b < 8) :
    Calls Tryz.prog 57 #[v, .int .i64 k, .agg (regA r), .int .i64 now] w fun e w' => e = .returned (.tuple #[.agg (outA (k + 1) (updR r a (r b)) false 0 false), .int .i64 0]) ∧ Fr Nob w w' := by
  have hio : InsOk w ((2, (a : Int), (b : Int), c), v2, cs, d) := hok _ (List.mem_of_getElem? hk)
  have hkn : k < n := by rw [← hn]; exact (List.getElem?_eq_some_iff.1 hk).1
  have hch := fun W (hf : Fr Nob w W) => check_any W _ ps n hn (h.fr hf) fun i hi => (hok i hi).fr hf
  have hm : ∀ W : World, Calls Tryz.prog 84 #[.int .i64 2] W fun e w' => e = .returned (.bool true) ∧ W = w' := fun W => mine_any W 2
  obtain ⟨_, hl, A, c1, rfl, hc1, hc2, hA⟩ := h
  obtain ⟨g, o, rfl, hgl, hc⟩ := hA (by omega)
  unfold maxLen at hl
  obtain ⟨_, _, A2, c2, hv, _⟩ := id hio
  dsimp only at hv
  subst hv
  have q0 := hc _ _ ((insGet ps k 0 _ hk (by omega)).trans rfl)
  have q1 := hc _ _ ((insGet ps k 1 _ hk (by omega)).trans rfl)
  have q2 := hc _ _ ((insGet ps k 2 _ hk (by omega)).trans rfl)
  have q3 := hc _ _ ((insGet ps k 3 _ hk (by omega)).trans rfl)
  have q4 := hc _ _ ((insGet ps k 4 _ hk (by omega)).trans rfl)
  have q5 := hc _ _ ((insGet ps k 5 _ hk (by omega)).trans rfl)
  rw [← Nat.add_assoc] at q1 q2 q3 q4 q5
  rw [Nat.add_zero] at q0
  have hi28 : (Tryz.prog.info? 138).map (fun i => i.size) = some 12 := by kernel_rfl
  have hi39 : (Tryz.prog.info? 25).map (fun i => i.size) = some 6 := by kernel_rfl
  have hf0 : Fr Nob w ((w.alloc (.cells (regA r) 74)).alloc (.cells outZ 138)) := ((Fr.refl _ _).alloc _).alloc _
  have hb0 : ((w.alloc (.cells (regA r) 74)).alloc (.cells outZ 138)).heap[w.heap.size + 1]? = some (.cells outZ 138 (0, 0)) := blk_alloc_eq _ (by simp)
  have hr0 : ((w.alloc (.cells (regA r) 74)).alloc (.cells outZ 138)).heap[w.heap.size]? = some (.cells (regA r) 74 (0, 0)) := (Fr.alloc (Fr.refl Nob _) _).blk id (blk_alloc_eq _ rfl)
  rw [hgood] at hch
  have hki : (k : Int) < n := by omega
  have Hch := Lib.hid hch; have Hf0 := Lib.hid hf0; have Hb0 := Lib.hid hb0; have Hi := Lib.hid hi28; have Hi39 := Lib.hid hi39; have Hr0 := Lib.hid hr0; have Hm := Lib.hid hm
  have Q0 := Lib.hid q0; have Q1 := Lib.hid q1; have Q2 := Lib.hid q2; have Q3 := Lib.hid q3; have Q4 := Lib.hid q4; have Q5 := Lib.hid q5
  clear hch hok hf0 hb0 hi28 hr0 hi39 hio hc hk hm q0 q1 q2 q3 q4 q5
  go_enter Tryz.func57, Tryz.ntmps57
  go_wp2_with fail
  refine (Hch.out _ Hf0.out).mono ?_
  rintro e w1 ⟨rfl, hf1⟩
  have Hf1 := Lib.hid hf1; have Hb1 := Lib.hid (hf1.blk id Hb0.out); have Hr1 := Lib.hid (hf1.blk id Hr0.out); have Hf01 := Lib.hid (Hf0.out.trans0 hf1)
  have Hlt := Lib.hid (lt_of_block Hb1.out)
  obtain ⟨r0, r1, r2, r3, r4, r5, r6, r7⟩ := reg_cells Hr1.out
  have x0 := Hf01.out.cell (p := ⟨g, o + k * 6, none⟩) id Q0.out
  clear hf1
  have k0 : decide (0 ≤ k) = true := decide_eq_true (Nat.zero_le k)
  have k0' : decide ((0 : Int) ≤ k) = true := decide_eq_true (by omega)
  have k1 : decide ((k : Int) < 0) = false := decide_eq_false (by omega)
  have k2 : decide ((n : Int) < k) = false := decide_eq_false (by omega)
  have k2' : decide (n < k) = false := decide_eq_false (by omega)
  have k3 : decide (k < n) = true := decide_eq_true hkn
  have k4 : decide ((k : Int) < n) = true := decide_eq_true hki
  have k5 : ((k : Int) == (n : Int)) = false := beq_eq_false_iff_ne.2 (by omega)
  have k6 : (k == n) = false := beq_eq_false_iff_ne.2 (by omega)
  go_wp2_with fail
  refine (Hm.out _).mono ?_
  rintro e _ ⟨rfl, rfl⟩
  go_wp2_with (first
    | (refine wpList_store_row _ rfl 138 (.tmp 10) (.tmp 47) rfl w1.heap.size (outA (k + 1) r false 0 false) outZ 138 rfl rfl (blk_alloc_eq _ rfl) rfl Hi.out (outA_one _ _ _ _ _) ?_
       intro w2 hb2 hf2
       have Hb2 := Lib.hid hb2; have Hf2 := Lib.hid (((Fr.refl (From w1.heap.size) w1).alloc _).trans0 (hf2.mono fun k _ e => by rw [e]; exact Nat.le_refl _))
       clear hb2 hf2
       have y0 := Hf2.out.cell (p := ⟨g, o + k * 6, none⟩) (by simp [From]; have := Hlt.out; omega) (Hf01.out.cell (p := ⟨g, o + k * 6, none⟩) id Q0.out)
       have y1 := Hf2.out.cell (p := ⟨g, o + k * 6 + 1, none⟩) (by simp [From]; have := Hlt.out; omega) (Hf01.out.cell (p := ⟨g, o + k * 6 + 1, none⟩) id Q1.out)
       have y2 := Hf2.out.cell (p := ⟨g, o + k * 6 + 2, none⟩) (by simp [From]; have := Hlt.out; omega) (Hf01.out.cell (p := ⟨g, o + k * 6 + 2, none⟩) id Q2.out)
       have y3 := Hf2.out.cell (p := ⟨g, o + k * 6 + 3, none⟩) (by simp [From]; have := Hlt.out; omega) (Hf01.out.cell (p := ⟨g, o + k * 6 + 3, none⟩) id Q3.out)
       have y4 := Hf2.out.cell (p := ⟨g, o + k * 6 + 4, none⟩) (by simp [From]; have := Hlt.out; omega) (Hf01.out.cell (p := ⟨g, o + k * 6 + 4, none⟩) id Q4.out)
       have y5 := Hf2.out.cell (p := ⟨g, o + k * 6 + 5, none⟩) (by simp [From]; have := Hlt.out; omega) (Hf01.out.cell (p := ⟨g, o + k * 6 + 5, none⟩) id Q5.out)
       have hlt2 := lt_of_block Hb2.out
       have hf23 : Fr (From w2.heap.size) w2 (w2.alloc (.cells #[.int .i64 2, .int .i64 (a : Int), .int .i64 (b : Int), .int .i64 c, .slice A2 cs.length c2, .bool d] 25)) := (Fr.refl (From w2.heap.size) w2).alloc _
       have hf13 : Fr (From w1.heap.size) w1 (w2.alloc (.cells #[.int .i64 2, .int .i64 (a : Int), .int .i64 (b : Int), .int .i64 c, .slice A2 cs.length c2, .bool d] 25)) := Hf2.out.trans hf23 fun k hk q => by have := Hf2.out.size; simp [From] at q ⊢; omega
       have Hc3 := Lib.hid (hf23.blk (by simp [From]; omega) Hb2.out); have Hf3 := Lib.hid hf13
       have Hr3 := Lib.hid (hf13.blk (by simp [From]; have := Hlt.out; omega) Hr1.out)
       have Hz3 := Lib.hid (hf13.blk (by simp [From]; have := Hlt.out; omega) Hb1.out)
       have oc := blk_cell Hc3.out (1 + a) (out_get _ _ _ _ _ a ha)
       have of := blk_froz Hc3.out (1 + a)
       have rb := blk_cell Hr3.out b (reg_get r b hb)
       clear hlt2 hf23 hf13)
    | fail)
  go_region
  go_wp2_with (first
    | (refine wpList_load_row rfl 138 (.tmp 10) rfl w1.heap.size rfl 138 (outA (k + 1) (updR r a (r b)) false 0 false) (0, 0) _ ?_ rfl rfl Hi.out ?_
       focus (rw [blk_drew]; rw [blk_set Hc3.out (1 + a) _, out_set _ _ _ _ _ a ha]))
    | (refine wpList_store_row _ rfl 138 (.tmp 8) (.tmp 118) rfl (w.heap.size + 1) (outA (k + 1) (updR r a (r b)) false 0 false) outZ 138 rfl rfl (by rw [blk_drew, blk_set_ne _ _ (by have := Hlt.out; omega)]; exact Hz3.out) rfl Hi.out (outA_one _ _ _ _ _) ?_
       intro w4 hb4 hf4
       have Hb4 := Lib.hid hb4
       have Hf4 := Lib.hid ((((Hf01.out.none (S := fun k => w.heap.size + 1 ≤ k)).trans ((Hf3.out.setCell (.inl (Nat.le_refl _)) _).drew) (fun k _ q => by have := Hlt.out; simp [From] at q; omega)).trans hf4 (fun k _ q => by omega)))
       clear hb4 hf4))
  obtain ⟨t0, t1, t2, t3, t4, t5, t6, t7, t8, t9, t10, t11⟩ := row_cells Hb4.out
  exact bodyPost_ret (v := .tuple #[.agg (outA (k + 1) (updR r a (r b)) false 0 false), .int .i64 0]) (by simp [results, Tryz.results57, go_sem, t0, t1, t2, t3, t4, t5, t6, t7, t8, t9, t10, t11]) rfl ⟨rfl, Hf4.out.mono fun k hk q => by omega⟩
end
section
variable (w : World) (v : Value) (ps : List Ins) (n k : Nat) (r : Nat → Int) (now : Int) (hn : ps.length = n) (h : Rd w 6 v n (ps.flatMap insEn)) (hok : ∀ i ∈ ps, InsOk w i)
include hn h hok
set_option maxHeartbeats 2000000 in
theorem do_inc (a : Nat) (b : Int) (c : Int) (v2 : Value) (cs : List ICs) (d : Bool) (hk : ps[k]? = some (((3, (a : Int), b, c), v2, cs, d) : Ins)) (hgood : progB ps = true) (ha : a < 8) :
    Calls Tryz.prog 57 #[v, .int .i64 k, .agg (regA r), .int .i64 now] w fun e w' => e = .returned (.tuple #[.agg (outA (k + 1) (updR r a (addT (r a) b)) false 0 false), .int .i64 0]) ∧ Fr Nob w w' := by
  have hio : InsOk w ((3, (a : Int), b, c), v2, cs, d) := hok _ (List.mem_of_getElem? hk)
  have hkn : k < n := by rw [← hn]; exact (List.getElem?_eq_some_iff.1 hk).1
  have hch := fun W (hf : Fr Nob w W) => check_any W _ ps n hn (h.fr hf) fun i hi => (hok i hi).fr hf
  have hm : ∀ W : World, Calls Tryz.prog 84 #[.int .i64 3] W fun e w' => e = .returned (.bool true) ∧ W = w' := fun W => mine_any W 3
  obtain ⟨_, hl, A, c1, rfl, hc1, hc2, hA⟩ := h
  obtain ⟨g, o, rfl, hgl, hc⟩ := hA (by omega)
  unfold maxLen at hl
  obtain ⟨_, _, A2, c2, hv, _⟩ := id hio
  dsimp only at hv
  subst hv
  have q0 := hc _ _ ((insGet ps k 0 _ hk (by omega)).trans rfl)
  have q1 := hc _ _ ((insGet ps k 1 _ hk (by omega)).trans rfl)
  have q2 := hc _ _ ((insGet ps k 2 _ hk (by omega)).trans rfl)
  have q3 := hc _ _ ((insGet ps k 3 _ hk (by omega)).trans rfl)
  have q4 := hc _ _ ((insGet ps k 4 _ hk (by omega)).trans rfl)
  have q5 := hc _ _ ((insGet ps k 5 _ hk (by omega)).trans rfl)
  rw [← Nat.add_assoc] at q1 q2 q3 q4 q5
  rw [Nat.add_zero] at q0
  have hi28 : (Tryz.prog.info? 138).map (fun i => i.size) = some 12 := by kernel_rfl
  have hi39 : (Tryz.prog.info? 25).map (fun i => i.size) = some 6 := by kernel_rfl
  have hf0 : Fr Nob w ((w.alloc (.cells (regA r) 74)).alloc (.cells outZ 138)) := ((Fr.refl _ _).alloc _).alloc _
  have hb0 : ((w.alloc (.cells (regA r) 74)).alloc (.cells outZ 138)).heap[w.heap.size + 1]? = some (.cells outZ 138 (0, 0)) := blk_alloc_eq _ (by simp)
  have hr0 : ((w.alloc (.cells (regA r) 74)).alloc (.cells outZ 138)).heap[w.heap.size]? = some (.cells (regA r) 74 (0, 0)) := (Fr.alloc (Fr.refl Nob _) _).blk id (blk_alloc_eq _ rfl)
  rw [hgood] at hch
  have hki : (k : Int) < n := by omega
  have Hch := Lib.hid hch; have Hf0 := Lib.hid hf0; have Hb0 := Lib.hid hb0; have Hi := Lib.hid hi28; have Hi39 := Lib.hid hi39; have Hr0 := Lib.hid hr0; have Hm := Lib.hid hm
  have Q0 := Lib.hid q0; have Q1 := Lib.hid q1; have Q2 := Lib.hid q2; have Q3 := Lib.hid q3; have Q4 := Lib.hid q4; have Q5 := Lib.hid q5
  clear hch hok hf0 hb0 hi28 hr0 hi39 hio hc hk hm q0 q1 q2 q3 q4 q5
  go_enter Tryz.func57, Tryz.ntmps57
  go_wp2_with fail
  refine (Hch.out _ Hf0.out).mono ?_
  rintro e w1 ⟨rfl, hf1⟩
  have Hf1 := Lib.hid hf1; have Hb1 := Lib.hid (hf1.blk id Hb0.out); have Hr1 := Lib.hid (hf1.blk id Hr0.out); have Hf01 := Lib.hid (Hf0.out.trans0 hf1)
  have Hlt := Lib.hid (lt_of_block Hb1.out)
  obtain ⟨r0, r1, r2, r3, r4, r5, r6, r7⟩ := reg_cells Hr1.out
  have x0 := Hf01.out.cell (p := ⟨g, o + k * 6, none⟩) id Q0.out
  clear hf1
  have k0 : decide (0 ≤ k) = true := decide_eq_true (Nat.zero_le k)
  have k0' : decide ((0 : Int) ≤ k) = true := decide_eq_true (by omega)
  have k1 : decide ((k : Int) < 0) = false := decide_eq_false (by omega)
  have k2 : decide ((n : Int) < k) = false := decide_eq_false (by omega)
  have k2' : decide (n < k) = false := decide_eq_false (by omega)
  have k3 : decide (k < n) = true := decide_eq_true hkn
  have k4 : decide ((k : Int) < n) = true := decide_eq_true hki
  have k5 : ((k : Int) == (n : Int)) = false := beq_eq_false_iff_ne.2 (by omega)
  have k6 : (k == n) = false := beq_eq_false_iff_ne.2 (by omega)
  go_wp2_with fail
  refine (Hm.out _).mono ?_
  rintro e _ ⟨rfl, rfl⟩
  go_wp2_with (first
    | (refine wpList_store_row _ rfl 138 (.tmp 10) (.tmp 47) rfl w1.heap.size (outA (k + 1) r false 0 false) outZ 138 rfl rfl (blk_alloc_eq _ rfl) rfl Hi.out (outA_one _ _ _ _ _) ?_
       intro w2 hb2 hf2
       have Hb2 := Lib.hid hb2; have Hf2 := Lib.hid (((Fr.refl (From w1.heap.size) w1).alloc _).trans0 (hf2.mono fun k _ e => by rw [e]; exact Nat.le_refl _))
       clear hb2 hf2
       have y0 := Hf2.out.cell (p := ⟨g, o + k * 6, none⟩) (by simp [From]; have := Hlt.out; omega) (Hf01.out.cell (p := ⟨g, o + k * 6, none⟩) id Q0.out)
       have y1 := Hf2.out.cell (p := ⟨g, o + k * 6 + 1, none⟩) (by simp [From]; have := Hlt.out; omega) (Hf01.out.cell (p := ⟨g, o + k * 6 + 1, none⟩) id Q1.out)
       have y2 := Hf2.out.cell (p := ⟨g, o + k * 6 + 2, none⟩) (by simp [From]; have := Hlt.out; omega) (Hf01.out.cell (p := ⟨g, o + k * 6 + 2, none⟩) id Q2.out)
       have y3 := Hf2.out.cell (p := ⟨g, o + k * 6 + 3, none⟩) (by simp [From]; have := Hlt.out; omega) (Hf01.out.cell (p := ⟨g, o + k * 6 + 3, none⟩) id Q3.out)
       have y4 := Hf2.out.cell (p := ⟨g, o + k * 6 + 4, none⟩) (by simp [From]; have := Hlt.out; omega) (Hf01.out.cell (p := ⟨g, o + k * 6 + 4, none⟩) id Q4.out)
       have y5 := Hf2.out.cell (p := ⟨g, o + k * 6 + 5, none⟩) (by simp [From]; have := Hlt.out; omega) (Hf01.out.cell (p := ⟨g, o + k * 6 + 5, none⟩) id Q5.out)
       have hlt2 := lt_of_block Hb2.out
       have hf23 : Fr (From w2.heap.size) w2 (w2.alloc (.cells #[.int .i64 3, .int .i64 (a : Int), .int .i64 b, .int .i64 c, .slice A2 cs.length c2, .bool d] 25)) := (Fr.refl (From w2.heap.size) w2).alloc _
       have hf13 : Fr (From w1.heap.size) w1 (w2.alloc (.cells #[.int .i64 3, .int .i64 (a : Int), .int .i64 b, .int .i64 c, .slice A2 cs.length c2, .bool d] 25)) := Hf2.out.trans hf23 fun k hk q => by have := Hf2.out.size; simp [From] at q ⊢; omega
       have Hc3 := Lib.hid (hf23.blk (by simp [From]; omega) Hb2.out); have Hf3 := Lib.hid hf13
       have Hr3 := Lib.hid (hf13.blk (by simp [From]; have := Hlt.out; omega) Hr1.out)
       have Hz3 := Lib.hid (hf13.blk (by simp [From]; have := Hlt.out; omega) Hb1.out)
       have oc := blk_cell Hc3.out (1 + a) (out_get _ _ _ _ _ a ha)
       have of := blk_froz Hc3.out (1 + a)
       have rb := blk_cell Hr3.out a (reg_get r a ha)
       have hb3 : (w2.alloc (.cells #[.int .i64 3, .int .i64 (a : Int), .int .i64 b, .int .i64 c, .slice A2 cs.length c2, .bool d] 25)).heap[w2.heap.size]? = _ := blk_alloc_eq _ rfl
       have Z1 := Lib.hid (blk_cell hb3 1 rfl); have Z2 := Lib.hid (blk_cell hb3 2 rfl); have RBH := Lib.hid rb
       have ne1 : w.heap.size ≠ w1.heap.size := by have := Hlt.out; omega
       have ne2 : w2.heap.size ≠ w1.heap.size := by omega
       have ne1b : (w.heap.size == w1.heap.size) = false := beq_eq_false_iff_ne.2 ne1
       have ne2b : (w2.heap.size == w1.heap.size) = false := beq_eq_false_iff_ne.2 ne2
       have ia0 : (0 : Int) ≤ a := by omega
       have ia8 : (a : Int) < 8 := by omega
       clear hb3
       clear hlt2 hf23 hf13)
    | fail)
  go_region_held3 (fun W => W.cell? ⟨w2.heap.size, 1, none⟩ = some (.int .i64 (a : Int)) ∧ W.cell? ⟨w2.heap.size, 2, none⟩ = some (.int .i64 b) ∧ W.cell? ⟨w.heap.size, a, none⟩ = some (.int .i64 (r a)))
    (first | exact ⟨((Fr.refl (fun k => k = w1.heap.size) (w2.alloc (.cells #[.int .i64 3, .int .i64 (a : Int), .int .i64 b, .int .i64 c, .slice A2 cs.length c2, .bool d] 25))).setCell (p := ⟨w1.heap.size, 1 + a, none⟩) (.inl rfl) _).drew.cell (p := ⟨w2.heap.size, 1, none⟩) ne2 Z1.out, ((Fr.refl (fun k => k = w1.heap.size) (w2.alloc (.cells #[.int .i64 3, .int .i64 (a : Int), .int .i64 b, .int .i64 c, .slice A2 cs.length c2, .bool d] 25))).setCell (p := ⟨w1.heap.size, 1 + a, none⟩) (.inl rfl) _).drew.cell (p := ⟨w2.heap.size, 2, none⟩) ne2 Z2.out, ((Fr.refl (fun k => k = w1.heap.size) (w2.alloc (.cells #[.int .i64 3, .int .i64 (a : Int), .int .i64 b, .int .i64 c, .slice A2 cs.length c2, .bool d] 25))).setCell (p := ⟨w1.heap.size, 1 + a, none⟩) (.inl rfl) _).drew.cell (p := ⟨w.heap.size, a, none⟩) ne1 RBH.out⟩ | go_keep)
    ((go_at_call_of 70 (Value.int .i64 (r a)); refine (clock_add _ (r a) b).mono ?_; rintro e _ ⟨rfl, rfl⟩))
  go_wp2_with (first
    | (refine wpList_load_row rfl 138 (.tmp 10) rfl w1.heap.size rfl 138 (outA (k + 1) (updR r a (addT (r a) b)) false 0 false) (0, 0) _ ?_ rfl rfl Hi.out ?_
       focus (rw [blk_drew]; rw [blk_set Hc3.out (1 + a) _, out_set _ _ _ _ _ a ha]))
    | (refine wpList_store_row _ rfl 138 (.tmp 8) (.tmp 118) rfl (w.heap.size + 1) (outA (k + 1) (updR r a (addT (r a) b)) false 0 false) outZ 138 rfl rfl (by rw [blk_drew, blk_set_ne _ _ (by have := Hlt.out; omega)]; exact Hz3.out) rfl Hi.out (outA_one _ _ _ _ _) ?_
       intro w4 hb4 hf4
       have Hb4 := Lib.hid hb4
       have Hf4 := Lib.hid ((((Hf01.out.none (S := fun k => w.heap.size + 1 ≤ k)).trans ((Hf3.out.setCell (.inl (Nat.le_refl _)) _).drew) (fun k _ q => by have := Hlt.out; simp [From] at q; omega)).trans hf4 (fun k _ q => by omega)))
       clear hb4 hf4))
  obtain ⟨t0, t1, t2, t3, t4, t5, t6, t7, t8, t9, t10, t11⟩ := row_cells Hb4.out
  exact bodyPost_ret (v := .tuple #[.agg (outA (k + 1) (updR r a (addT (r a) b)) false 0 false), .int .i64 0]) (by simp [results, Tryz.results57, go_sem, t0, t1, t2, t3, t4, t5, t6, t7, t8, t9, t10, t11]) rfl ⟨rfl, Hf4.out.mono fun k hk q => by omega⟩
end
section
variable (w : World) (v : Value) (ps : List Ins) (n k : Nat) (r : Nat → Int) (now : Int) (hn : ps.length = n) (h : Rd w 6 v n (ps.flatMap insEn)) (hok : ∀ i ∈ ps, InsOk w i)
include hn h hok
set_option maxHeartbeats 2000000 in
theorem do_jump (a b : Int) (c : Int) (v2 : Value) (cs : List ICs) (d : Bool) (hk : ps[k]? = some (((4, a, b, c), v2, cs, d) : Ins)) (hgood : progB ps = true) :
    Calls Tryz.prog 57 #[v, .int .i64 k, .agg (regA r), .int .i64 now] w fun e w' => e = .returned (.tuple #[.agg (outA a r false 0 false), .int .i64 0]) ∧ Fr Nob w w' := by
  have hio : InsOk w ((4, a, b, c), v2, cs, d) := hok _ (List.mem_of_getElem? hk)
  have hkn : k < n := by rw [← hn]; exact (List.getElem?_eq_some_iff.1 hk).1
  have hch := fun W (hf : Fr Nob w W) => check_any W _ ps n hn (h.fr hf) fun i hi => (hok i hi).fr hf
  have hm : ∀ W : World, Calls Tryz.prog 84 #[.int .i64 4] W fun e w' => e = .returned (.bool true) ∧ W = w' := fun W => mine_any W 4
  obtain ⟨_, hl, A, c1, rfl, hc1, hc2, hA⟩ := h
  obtain ⟨g, o, rfl, hgl, hc⟩ := hA (by omega)
  unfold maxLen at hl
  obtain ⟨_, _, A2, c2, hv, _⟩ := id hio
  dsimp only at hv
  subst hv
  have q0 := hc _ _ ((insGet ps k 0 _ hk (by omega)).trans rfl)
  have q1 := hc _ _ ((insGet ps k 1 _ hk (by omega)).trans rfl)
  have q2 := hc _ _ ((insGet ps k 2 _ hk (by omega)).trans rfl)
  have q3 := hc _ _ ((insGet ps k 3 _ hk (by omega)).trans rfl)
  have q4 := hc _ _ ((insGet ps k 4 _ hk (by omega)).trans rfl)
  have q5 := hc _ _ ((insGet ps k 5 _ hk (by omega)).trans rfl)
  rw [← Nat.add_assoc] at q1 q2 q3 q4 q5
  rw [Nat.add_zero] at q0
  have hi28 : (Tryz.prog.info? 138).map (fun i => i.size) = some 12 := by kernel_rfl
  have hi39 : (Tryz.prog.info? 25).map (fun i => i.size) = some 6 := by kernel_rfl
  have hf0 : Fr Nob w ((w.alloc (.cells (regA r) 74)).alloc (.cells outZ 138)) := ((Fr.refl _ _).alloc _).alloc _
  have hb0 : ((w.alloc (.cells (regA r) 74)).alloc (.cells outZ 138)).heap[w.heap.size + 1]? = some (.cells outZ 138 (0, 0)) := blk_alloc_eq _ (by simp)
  have hr0 : ((w.alloc (.cells (regA r) 74)).alloc (.cells outZ 138)).heap[w.heap.size]? = some (.cells (regA r) 74 (0, 0)) := (Fr.alloc (Fr.refl Nob _) _).blk id (blk_alloc_eq _ rfl)
  rw [hgood] at hch
  have hki : (k : Int) < n := by omega
  have Hch := Lib.hid hch; have Hf0 := Lib.hid hf0; have Hb0 := Lib.hid hb0; have Hi := Lib.hid hi28; have Hi39 := Lib.hid hi39; have Hr0 := Lib.hid hr0; have Hm := Lib.hid hm
  have Q0 := Lib.hid q0; have Q1 := Lib.hid q1; have Q2 := Lib.hid q2; have Q3 := Lib.hid q3; have Q4 := Lib.hid q4; have Q5 := Lib.hid q5
  clear hch hok hf0 hb0 hi28 hr0 hi39 hio hc hk hm q0 q1 q2 q3 q4 q5
  go_enter Tryz.func57, Tryz.ntmps57
  go_wp2_with fail
  refine (Hch.out _ Hf0.out).mono ?_
  rintro e w1 ⟨rfl, hf1⟩
  have Hf1 := Lib.hid hf1; have Hb1 := Lib.hid (hf1.blk id Hb0.out); have Hr1 := Lib.hid (hf1.blk id Hr0.out); have Hf01 := Lib.hid (Hf0.out.trans0 hf1)
  have Hlt := Lib.hid (lt_of_block Hb1.out)
  obtain ⟨r0, r1, r2, r3, r4, r5, r6, r7⟩ := reg_cells Hr1.out
  have x0 := Hf01.out.cell (p := ⟨g, o + k * 6, none⟩) id Q0.out
  clear hf1
  have k0 : decide (0 ≤ k) = true := decide_eq_true (Nat.zero_le k)
  have k0' : decide ((0 : Int) ≤ k) = true := decide_eq_true (by omega)
  have k1 : decide ((k : Int) < 0) = false := decide_eq_false (by omega)
  have k2 : decide ((n : Int) < k) = false := decide_eq_false (by omega)
  have k2' : decide (n < k) = false := decide_eq_false (by omega)
  have k3 : decide (k < n) = true := decide_eq_true hkn
  have k4 : decide ((k : Int) < n) = true := decide_eq_true hki
  have k5 : ((k : Int) == (n : Int)) = false := beq_eq_false_iff_ne.2 (by omega)
  have k6 : (k == n) = false := beq_eq_false_iff_ne.2 (by omega)
  go_wp2_with fail
  refine (Hm.out _).mono ?_
  rintro e _ ⟨rfl, rfl⟩
  go_wp2_with (first
    | (refine wpList_store_row _ rfl 138 (.tmp 10) (.tmp 47) rfl w1.heap.size (outA (k + 1) r false 0 false) outZ 138 rfl rfl (blk_alloc_eq _ rfl) rfl Hi.out (outA_one _ _ _ _ _) ?_
       intro w2 hb2 hf2
       have Hb2 := Lib.hid hb2; have Hf2 := Lib.hid (((Fr.refl (From w1.heap.size) w1).alloc _).trans0 (hf2.mono fun k _ e => by rw [e]; exact Nat.le_refl _))
       clear hb2 hf2
       have y0 := Hf2.out.cell (p := ⟨g, o + k * 6, none⟩) (by simp [From]; have := Hlt.out; omega) (Hf01.out.cell (p := ⟨g, o + k * 6, none⟩) id Q0.out)
       have y1 := Hf2.out.cell (p := ⟨g, o + k * 6 + 1, none⟩) (by simp [From]; have := Hlt.out; omega) (Hf01.out.cell (p := ⟨g, o + k * 6 + 1, none⟩) id Q1.out)
       have y2 := Hf2.out.cell (p := ⟨g, o + k * 6 + 2, none⟩) (by simp [From]; have := Hlt.out; omega) (Hf01.out.cell (p := ⟨g, o + k * 6 + 2, none⟩) id Q2.out)
       have y3 := Hf2.out.cell (p := ⟨g, o + k * 6 + 3, none⟩) (by simp [From]; have := Hlt.out; omega) (Hf01.out.cell (p := ⟨g, o + k * 6 + 3, none⟩) id Q3.out)
       have y4 := Hf2.out.cell (p := ⟨g, o + k * 6 + 4, none⟩) (by simp [From]; have := Hlt.out; omega) (Hf01.out.cell (p := ⟨g, o + k * 6 + 4, none⟩) id Q4.out)
       have y5 := Hf2.out.cell (p := ⟨g, o + k * 6 + 5, none⟩) (by simp [From]; have := Hlt.out; omega) (Hf01.out.cell (p := ⟨g, o + k * 6 + 5, none⟩) id Q5.out)
       have hlt2 := lt_of_block Hb2.out
       have hf23 : Fr (From w2.heap.size) w2 (w2.alloc (.cells #[.int .i64 4, .int .i64 a, .int .i64 b, .int .i64 c, .slice A2 cs.length c2, .bool d] 25)) := (Fr.refl (From w2.heap.size) w2).alloc _
       have hf13 : Fr (From w1.heap.size) w1 (w2.alloc (.cells #[.int .i64 4, .int .i64 a, .int .i64 b, .int .i64 c, .slice A2 cs.length c2, .bool d] 25)) := Hf2.out.trans hf23 fun k hk q => by have := Hf2.out.size; simp [From] at q ⊢; omega
       have Hc3 := Lib.hid (hf23.blk (by simp [From]; omega) Hb2.out); have Hf3 := Lib.hid hf13
       have Hr3 := Lib.hid (hf13.blk (by simp [From]; have := Hlt.out; omega) Hr1.out)
       have Hz3 := Lib.hid (hf13.blk (by simp [From]; have := Hlt.out; omega) Hb1.out)
       have oc := blk_cell Hc3.out 0 rfl
       have of := blk_froz Hc3.out 0
       clear hlt2 hf23 hf13)
    | (refine wpList_load_row rfl 138 (.tmp 10) rfl w1.heap.size rfl 138 (outA a r false 0 false) (0, 0) _ ?_ rfl rfl Hi.out ?_
       focus (rw [blk_set Hc3.out 0 _, out_pc]))
    | (refine wpList_store_row _ rfl 138 (.tmp 8) (.tmp 118) rfl (w.heap.size + 1) (outA a r false 0 false) outZ 138 rfl rfl (by rw [blk_set_ne _ _ (by have := Hlt.out; omega)]; exact Hz3.out) rfl Hi.out (outA_one _ _ _ _ _) ?_
       intro w4 hb4 hf4
       have Hb4 := Lib.hid hb4
       have Hf4 := Lib.hid ((((Hf01.out.none (S := fun k => w.heap.size + 1 ≤ k)).trans (Hf3.out.setCell (.inl (Nat.le_refl _)) _) (fun k _ q => by have := Hlt.out; simp [From] at q; omega)).trans hf4 (fun k _ q => by omega)))
       clear hb4 hf4))
  obtain ⟨t0, t1, t2, t3, t4, t5, t6, t7, t8, t9, t10, t11⟩ := row_cells Hb4.out
  exact bodyPost_ret (v := .tuple #[.agg (outA a r false 0 false), .int .i64 0]) (by simp [results, Tryz.results57, go_sem, t0, t1, t2, t3, t4, t5, t6, t7, t8, t9, t10, t11]) rfl ⟨rfl, Hf4.out.mono fun k hk q => by omega⟩
end
section
variable (w : World) (v : Value) (ps : List Ins) (n k : Nat) (r : Nat → Int) (now : Int) (hn : ps.length = n) (h : Rd w 6 v n (ps.flatMap insEn)) (hok : ∀ i ∈ ps, InsOk w i)
include hn h hok
set_option maxHeartbeats 2000000 in
theorem do_stay (a : Nat) (b : Int) (c : Int) (v2 : Value) (cs : List ICs) (d : Bool) (hk : ps[k]? = some (((5, (a : Int), b, c), v2, cs, d) : Ins)) (hgood : progB ps = true) (ha : a < 8) (hz : r a ≠ 0) :
    Calls Tryz.prog 57 #[v, .int .i64 k, .agg (regA r), .int .i64 now] w fun e w' => e = .returned (.tuple #[.agg (outA (k + 1) r false 0 false), .int .i64 0]) ∧ Fr Nob w w' := by
  have hio : InsOk w ((5, (a : Int), b, c), v2, cs, d) := hok _ (List.mem_of_getElem? hk)
  have hkn : k < n := by rw [← hn]; exact (List.getElem?_eq_some_iff.1 hk).1
  have hch := fun W (hf : Fr Nob w W) => check_any W _ ps n hn (h.fr hf) fun i hi => (hok i hi).fr hf
  have hm : ∀ W : World, Calls Tryz.prog 84 #[.int .i64 5] W fun e w' => e = .returned (.bool true) ∧ W = w' := fun W => mine_any W 5
  obtain ⟨_, hl, A, c1, rfl, hc1, hc2, hA⟩ := h
  obtain ⟨g, o, rfl, hgl, hc⟩ := hA (by omega)
  unfold maxLen at hl
  obtain ⟨_, _, A2, c2, hv, _⟩ := id hio
  dsimp only at hv
  subst hv
  have q0 := hc _ _ ((insGet ps k 0 _ hk (by omega)).trans rfl)
  have q1 := hc _ _ ((insGet ps k 1 _ hk (by omega)).trans rfl)
  have q2 := hc _ _ ((insGet ps k 2 _ hk (by omega)).trans rfl)
  have q3 := hc _ _ ((insGet ps k 3 _ hk (by omega)).trans rfl)
  have q4 := hc _ _ ((insGet ps k 4 _ hk (by omega)).trans rfl)
  have q5 := hc _ _ ((insGet ps k 5 _ hk (by omega)).trans rfl)
  rw [← Nat.add_assoc] at q1 q2 q3 q4 q5
  rw [Nat.add_zero] at q0
  have hi28 : (Tryz.prog.info? 138).map (fun i => i.size) = some 12 := by kernel_rfl
  have hi39 : (Tryz.prog.info? 25).map (fun i => i.size) = some 6 := by kernel_rfl
  have hf0 : Fr Nob w ((w.alloc (.cells (regA r) 74)).alloc (.cells outZ 138)) := ((Fr.refl _ _).alloc _).alloc _
  have hb0 : ((w.alloc (.cells (regA r) 74)).alloc (.cells outZ 138)).heap[w.heap.size + 1]? = some (.cells outZ 138 (0, 0)) := blk_alloc_eq _ (by simp)
  have hr0 : ((w.alloc (.cells (regA r) 74)).alloc (.cells outZ 138)).heap[w.heap.size]? = some (.cells (regA r) 74 (0, 0)) := (Fr.alloc (Fr.refl Nob _) _).blk id (blk_alloc_eq _ rfl)
  rw [hgood] at hch
  have hki : (k : Int) < n := by omega
  have Hch := Lib.hid hch; have Hf0 := Lib.hid hf0; have Hb0 := Lib.hid hb0; have Hi := Lib.hid hi28; have Hi39 := Lib.hid hi39; have Hr0 := Lib.hid hr0; have Hm := Lib.hid hm
  have Q0 := Lib.hid q0; have Q1 := Lib.hid q1; have Q2 := Lib.hid q2; have Q3 := Lib.hid q3; have Q4 := Lib.hid q4; have Q5 := Lib.hid q5
  clear hch hok hf0 hb0 hi28 hr0 hi39 hio hc hk hm q0 q1 q2 q3 q4 q5
  have z0 : (r a == 0) = false := beq_eq_false_iff_ne.2 hz
  have z0b : (r a != 0) = true := bne_iff_ne.2 hz
  clear hz
  go_enter Tryz.func57, Tryz.ntmps57
  go_wp2_with fail
  refine (Hch.out _ Hf0.out).mono ?_
  rintro e w1 ⟨rfl, hf1⟩
  have Hf1 := Lib.hid hf1; have Hb1 := Lib.hid (hf1.blk id Hb0.out); have Hr1 := Lib.hid (hf1.blk id Hr0.out); have Hf01 := Lib.hid (Hf0.out.trans0 hf1)
  have Hlt := Lib.hid (lt_of_block Hb1.out)
  obtain ⟨r0, r1, r2, r3, r4, r5, r6, r7⟩ := reg_cells Hr1.out
  have x0 := Hf01.out.cell (p := ⟨g, o + k * 6, none⟩) id Q0.out
  clear hf1
  have k0 : decide (0 ≤ k) = true := decide_eq_true (Nat.zero_le k)
  have k0' : decide ((0 : Int) ≤ k) = true := decide_eq_true (by omega)
  have k1 : decide ((k : Int) < 0) = false := decide_eq_false (by omega)
  have k2 : decide ((n : Int) < k) = false := decide_eq_false (by omega)
  have k2' : decide (n < k) = false := decide_eq_false (by omega)
  have k3 : decide (k < n) = true := decide_eq_true hkn
  have k4 : decide ((k : Int) < n) = true := decide_eq_true hki
  have k5 : ((k : Int) == (n : Int)) = false := beq_eq_false_iff_ne.2 (by omega)
  have k6 : (k == n) = false := beq_eq_false_iff_ne.2 (by omega)
  go_wp2_with fail
  refine (Hm.out _).mono ?_
  rintro e _ ⟨rfl, rfl⟩
  go_wp2_with (first
    | (refine wpList_store_row _ rfl 138 (.tmp 10) (.tmp 47) rfl w1.heap.size (outA (k + 1) r false 0 false) outZ 138 rfl rfl (blk_alloc_eq _ rfl) rfl Hi.out (outA_one _ _ _ _ _) ?_
       intro w2 hb2 hf2
       have Hb2 := Lib.hid hb2; have Hf2 := Lib.hid (((Fr.refl (From w1.heap.size) w1).alloc _).trans0 (hf2.mono fun k _ e => by rw [e]; exact Nat.le_refl _))
       clear hb2 hf2
       have y0 := Hf2.out.cell (p := ⟨g, o + k * 6, none⟩) (by simp [From]; have := Hlt.out; omega) (Hf01.out.cell (p := ⟨g, o + k * 6, none⟩) id Q0.out)
       have y1 := Hf2.out.cell (p := ⟨g, o + k * 6 + 1, none⟩) (by simp [From]; have := Hlt.out; omega) (Hf01.out.cell (p := ⟨g, o + k * 6 + 1, none⟩) id Q1.out)
       have y2 := Hf2.out.cell (p := ⟨g, o + k * 6 + 2, none⟩) (by simp [From]; have := Hlt.out; omega) (Hf01.out.cell (p := ⟨g, o + k * 6 + 2, none⟩) id Q2.out)
       have y3 := Hf2.out.cell (p := ⟨g, o + k * 6 + 3, none⟩) (by simp [From]; have := Hlt.out; omega) (Hf01.out.cell (p := ⟨g, o + k * 6 + 3, none⟩) id Q3.out)
       have y4 := Hf2.out.cell (p := ⟨g, o + k * 6 + 4, none⟩) (by simp [From]; have := Hlt.out; omega) (Hf01.out.cell (p := ⟨g, o + k * 6 + 4, none⟩) id Q4.out)
       have y5 := Hf2.out.cell (p := ⟨g, o + k * 6 + 5, none⟩) (by simp [From]; have := Hlt.out; omega) (Hf01.out.cell (p := ⟨g, o + k * 6 + 5, none⟩) id Q5.out)
       have hlt2 := lt_of_block Hb2.out
       have hf23 : Fr (From w2.heap.size) w2 (w2.alloc (.cells #[.int .i64 5, .int .i64 (a : Int), .int .i64 b, .int .i64 c, .slice A2 cs.length c2, .bool d] 25)) := (Fr.refl (From w2.heap.size) w2).alloc _
       have hf13 : Fr (From w1.heap.size) w1 (w2.alloc (.cells #[.int .i64 5, .int .i64 (a : Int), .int .i64 b, .int .i64 c, .slice A2 cs.length c2, .bool d] 25)) := Hf2.out.trans hf23 fun k hk q => by have := Hf2.out.size; simp [From] at q ⊢; omega
       have Hc3 := Lib.hid (hf23.blk (by simp [From]; omega) Hb2.out); have Hf3 := Lib.hid hf13
       have Hr3 := Lib.hid (hf13.blk (by simp [From]; have := Hlt.out; omega) Hr1.out)
       have Hz3 := Lib.hid (hf13.blk (by simp [From]; have := Hlt.out; omega) Hb1.out)
       have rb := blk_cell Hr3.out a (reg_get r a ha)
       have ia0 : (0 : Int) ≤ a := by omega
       have ia8 : (a : Int) < 8 := by omega
       clear hlt2 hf23 hf13)
    | (refine wpList_load_row rfl 138 (.tmp 10) rfl w1.heap.size rfl 138 (outA (k + 1) r false 0 false) (0, 0) _ ?_ rfl rfl Hi.out ?_
       focus (exact Hc3.out))
    | (refine wpList_store_row _ rfl 138 (.tmp 8) (.tmp 118) rfl (w.heap.size + 1) (outA (k + 1) r false 0 false) outZ 138 rfl rfl (Hz3.out) rfl Hi.out (outA_one _ _ _ _ _) ?_
       intro w4 hb4 hf4
       have Hb4 := Lib.hid hb4
       have Hf4 := Lib.hid ((((Hf01.out.none (S := fun k => w.heap.size + 1 ≤ k)).trans (Hf3.out) (fun k _ q => by have := Hlt.out; simp [From] at q; omega)).trans hf4 (fun k _ q => by omega)))
       clear hb4 hf4))
  obtain ⟨t0, t1, t2, t3, t4, t5, t6, t7, t8, t9, t10, t11⟩ := row_cells Hb4.out
  exact bodyPost_ret (v := .tuple #[.agg (outA (k + 1) r false 0 false), .int .i64 0]) (by simp [results, Tryz.results57, go_sem, t0, t1, t2, t3, t4, t5, t6, t7, t8, t9, t10, t11]) rfl ⟨rfl, Hf4.out.mono fun k hk q => by omega⟩
end
end Go.Proofs.YtcffplgimbbflaaGreat
