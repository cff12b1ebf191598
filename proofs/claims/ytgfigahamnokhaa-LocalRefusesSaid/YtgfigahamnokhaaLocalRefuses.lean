/- LocalRefuses: what Do refuses. -/
import Derived.Test.YtgfigahamnokhaaLocalAwake
import Derived.Test.YtgfigahamnokhaaOpenArr8
import Derived.Test.YtgfigahamnokhaaRound
set_option linter.unusedVariables false
set_option linter.unusedSimpArgs false
namespace Go.Proofs.Ytgfigahamnokhaa
open Go.RowKit
set_option maxRecDepth 100000

abbrev oneA (o : Int) : Array Value := #[.int .i64 o, .int .i64 0, .int .i64 0, .int .i64 0, .slice none 0 0, .bool false]
abbrev twoA (o : Int) : Array Value := #[.int .i64 o, .int .i64 0, .int .i64 0, .int .i64 0, .slice none 0 0, .bool false, .int .i64 33, .int .i64 0, .int .i64 0, .int .i64 0, .slice none 0 0, .bool false]
theorem op_cases {o : Int} (h1 : 1 ≤ o) (h2 : o ≤ 32) (K : Int → Prop) (h : ∀ k : Fin 32, K ((k.val : Int) + 1)) : K o := by
  have := h ⟨(o - 1).toNat, by omega⟩
  have e : (((o - 1).toNat : Nat) : Int) + 1 = o := by omega
  rw [← e]; exact this
theorem prog_one {o : Int} (h1 : 1 ≤ o) (h2 : o ≤ 32) : progB [plainI o 0 0 0] = true := by
  refine op_cases h1 h2 (fun o => progB [plainI o 0 0 0] = true) ?_
  decide
theorem prog_two (o : Int) : progB [plainI o 0 0 0, plainI 33 0 0 0] = false := by
  unfold progB
  have : goodB (plainI 33 0 0 0) 2 = false := by rfl
  simp [this]
theorem one_bad {o pc : Int} (r : Nat → Int) (h : pc < 0 ∨ 1 < pc) : doR [plainI o 0 0 0] pc r 1 = noR 1 := by
  unfold doR; rw [if_pos (.inr h)]
theorem two_bad (o : Int) (r : Nat → Int) : doR [plainI o 0 0 0, plainI 33 0 0 0] 0 r 1 = noR 1 := by
  unfold doR; rw [if_pos (.inl (prog_two o))]
theorem one_end {o : Int} (r : Nat → Int) (h1 : 1 ≤ o) (h2 : o ≤ 32) : doR [plainI o 0 0 0] 1 r 1 = ((1, r, false, 0, true), 0) := by
  unfold doR; rw [if_neg (by rw [prog_one h1 h2]; simp), if_pos (show (1 : Int) = ([plainI o 0 0 0] : List Ins).length from rfl)]
theorem one_not {o : Int} (r : Nat → Int) (h1 : 1 ≤ o) (h2 : o ≤ 32) (hm : mineB o = false) : doR [plainI o 0 0 0] 0 r 1 = noR 7 := by
  unfold doR; rw [if_neg (by rw [prog_one h1 h2]; simp), if_neg (by simp)]
  show (if mineB o = false then noR 7 else _) = _
  rw [if_pos hm]
theorem one_yes {o : Int} (r : Nat → Int) (h1 : 1 ≤ o) (h2 : o ≤ 32) (hm : mineB o = true) : ∃ x, doR [plainI o 0 0 0] 0 r 1 = (x, 0) := by
  unfold doR; rw [if_neg (by rw [prog_one h1 h2]; simp), if_neg (by simp)]
  show ∃ x, (if mineB o = false then noR 7 else (stepR o 0 0 0 r 1, 0)) = _
  rw [hm]; exact ⟨_, rfl⟩
theorem one_cells {w : World} {b : Nat} {o : Int} {T : TypeId} (h : w.heap[b]? = some (.cells (oneA o) T (0, 0))) : w.cell? ⟨b, 0, none⟩ = some (.int .i64 o) ∧ w.cell? ⟨b, 1, none⟩ = some (.int .i64 0) ∧ w.cell? ⟨b, 2, none⟩ = some (.int .i64 0) ∧ w.cell? ⟨b, 3, none⟩ = some (.int .i64 0) ∧ w.cell? ⟨b, 4, none⟩ = some (.slice none 0 0) ∧ w.cell? ⟨b, 5, none⟩ = some (.bool false) :=
  ⟨blk_cell h 0 rfl, blk_cell h 1 rfl, blk_cell h 2 rfl, blk_cell h 3 rfl, blk_cell h 4 rfl, blk_cell h 5 rfl⟩
theorem two_rd {w : World} {b : Nat} {o : Int} {T : TypeId} (h : w.heap[b]? = some (.cells (twoA o) T (0, 0))) : Rd w 6 (.slice (some ⟨b, 0, none⟩) 2 2) 2 ([plainI o 0 0 0, plainI 33 0 0 0].flatMap insEn) := rd_blk h rfl (Nat.le_refl _) (by simp [maxLen])
theorem one_rd {w : World} {b : Nat} {o : Int} {T : TypeId} (h : w.heap[b]? = some (.cells (oneA o) T (0, 0))) : Rd w 6 (.slice (some ⟨b, 0, none⟩) 1 1) 1 ([plainI o 0 0 0].flatMap insEn) := rd_blk h rfl (Nat.le_refl _) (by simp [maxLen])
theorem one_ok {w : World} {o : Int} : ∀ i ∈ [plainI o 0 0 0], InsOk w i := fun i hi => by simp at hi; subst hi; exact plain_ok _ _ _ _ _
theorem two_ok {w : World} {o : Int} : ∀ i ∈ [plainI o 0 0 0, plainI 33 0 0 0], InsOk w i := fun i hi => by simp at hi; rcases hi with rfl | rfl <;> exact plain_ok _ _ _ _ _

set_option maxHeartbeats 1000000 in
theorem refuses_not_lo (w : World) (op : Int) (pc : Int) (r : Nat → Int) (hm : mineB (1 + op % 32) = false) (hpc : pc < 0) :
    Calls Try.prog 6 #[.int .i64 op, .int .i64 pc, .agg (regA r)] w fun e w' => e = .returned (.bool true) ∧ Fr Nob w w' := by
  have hr := fun W => alike_round W op 32 (by omega) (by omega)
  obtain ⟨hq0, hq1⟩ : 0 ≤ op % 32 ∧ op % 32 < 32 := ⟨Int.emod_nonneg _ (by omega), Int.emod_lt_of_pos _ (by omega)⟩
  generalize op % 32 = q at *
  have h1 : 1 ≤ 1 + q := by omega
  have h2 : 1 + q ≤ 32 := by omega
  have hmi := fun W => mine_any W (1 + q)
  have c1 := fun (W : World) (b : Nat) (T : TypeId) (h : W.heap[b]? = some (.cells (oneA (1 + q)) T (0, 0))) => do_any W _ _ 1 r 1 rfl (one_rd h) one_ok 0
  have c2 := fun (W : World) (b : Nat) (T : TypeId) (h : W.heap[b]? = some (.cells (twoA (1 + q)) T (0, 0))) => do_any W _ _ 2 r 1 rfl (two_rd h) two_ok 0
  have c3 := fun (W : World) (b : Nat) (T : TypeId) (h : W.heap[b]? = some (.cells (oneA (1 + q)) T (0, 0))) => do_any W _ _ 1 r 1 rfl (one_rd h) one_ok pc
  rw [two_bad] at c2
  rw [hm] at hmi
  have hx := one_not r h1 h2 hm
  rw [hx] at c1
  rw [one_bad r (.inl hpc)] at c3
  have c1 : ∀ (W : World) (b : Nat) (T : TypeId), W.heap[b]? = some (.cells (oneA (1 + q)) T (0, 0)) → Calls Try.prog 9 #[.slice (some ⟨b, 0, none⟩) 1 1, .int .i64 0, .agg (regA r), .int .i64 1] W fun e w' => e = .returned (.tuple #[.agg (outZ), .int .i64 7]) ∧ Fr Nob W w' := c1
  have c2 : ∀ (W : World) (b : Nat) (T : TypeId), W.heap[b]? = some (.cells (twoA (1 + q)) T (0, 0)) → Calls Try.prog 9 #[.slice (some ⟨b, 0, none⟩) 2 2, .int .i64 0, .agg (regA r), .int .i64 1] W fun e w' => e = .returned (.tuple #[.agg (outZ), .int .i64 1]) ∧ Fr Nob W w' := c2
  have c3 : ∀ (W : World) (b : Nat) (T : TypeId), W.heap[b]? = some (.cells (oneA (1 + q)) T (0, 0)) → Calls Try.prog 9 #[.slice (some ⟨b, 0, none⟩) 1 1, .int .i64 pc, .agg (regA r), .int .i64 1] W fun e w' => e = .returned (.tuple #[.agg (outZ), .int .i64 1]) ∧ Fr Nob W w' := c3
  have p1 : decide (pc < 0) = true := decide_eq_true hpc
  clear hpc
  clear hx hm
  have haw := fun W => awake18 W
  have heqZ : ∀ W : World, _ := fun W => run_equalIn_arr (P := Try.prog) W 9997 23 3 8 [0, 0, 0, 0, 0, 0, 0, 0] Try.underlying23 Try.underlying3 (by kernel_rfl) rfl
  have heqR : ∀ W : World, _ := fun W => run_equalIn_arr (P := Try.prog) W 9997 23 3 8 [r 0, r 1, r 2, r 3, r 4, r 5, r 6, r 7] Try.underlying23 Try.underlying3 (by kernel_rfl) rfl
  have HZ := Lib.hid heqZ; have HR := Lib.hid heqR
  have hb := blk_alloc_eq (w := w) (.cells (regA r) 23) rfl
  have HB := Lib.hid hb; have Hr := Lib.hid hr; have Hmi := Lib.hid hmi; have C1 := Lib.hid c1; have C2 := Lib.hid c2; have C3 := Lib.hid c3; have Haw := Lib.hid haw
  obtain ⟨r0, r1, r2, r3, r4, r5, r6, r7⟩ := reg_cells hb
  clear hr hmi c1 c2 c3 hb haw heqZ heqR
  go_enter Try.func6, Try.ntmps6
  go_wp2_with fail
  refine (Hr.out _).mono ?_
  rintro e _ ⟨rfl, rfl⟩
  have y := Lib.hid (((Fr.refl Nob (w.alloc (.cells (regA r) 23))).alloc (.cells (oneA (1 + q)) 39)).blk id HB.out)
  obtain ⟨s0, s1, s2, s3, s4, s5, s6, s7⟩ := reg_cells (((Fr.refl Nob _).alloc (.cells (oneA (1 + q)) 39)).blk id y.out)
  go_wp2_with fail
  clear r0 r1 r2 r3 r4 r5 r6 r7 s0 s1 s2 s3 s4 s5 s6 s7
  have e0 : Fr Nob w (((w.alloc (.cells (regA r) 23)).alloc (.cells (oneA (1 + q)) 39)).alloc (.cells (oneA (1 + q)) 39)) := (((Fr.refl Nob w).alloc _).alloc _).alloc _
  have bo : ((w.alloc (.cells (regA r) 23)).alloc (.cells (oneA (1 + q)) 39)).heap[w.heap.size + 1]? = some (.cells (oneA (1 + q)) 39 (0, 0)) := blk_alloc_eq _ (by simp)
  refine (C1.out _ (w.heap.size + 1 + 1) _ (blk_alloc_eq _ (by first | rfl | simp))).mono ?_
  rintro e w1 ⟨rfl, hf1⟩
  have F1 := Lib.hid (e0.trans0 hf1)
  have B1 := Lib.hid (hf1.blk id (((Fr.refl Nob _).alloc (.cells (oneA (1 + q)) 39)).blk id y.out))
  have O1 := Lib.hid (hf1.blk id (((Fr.refl Nob _).alloc (.cells (oneA (1 + q)) 39)).blk id bo))
  clear hf1 e0 bo
  have e1 := (Fr.refl Nob w1).alloc (.cells (outZ) 28)
  obtain ⟨o0, o1, o2, o3, o4, o5⟩ := one_cells (e1.blk id O1.out)
  obtain ⟨r0, r1, r2, r3, r4, r5, r6, r7⟩ := reg_cells ((e1.alloc (.cells (twoA (1 + q)) 39)).blk id B1.out)
  have E1 := Lib.hid e1
  clear e1
  go_wp2_with fail
  clear r0 r1 r2 r3 r4 r5 r6 r7 o0 o1 o2 o3 o4 o5
  refine (C2.out _ (w1.heap.size + 1) _ (blk_alloc_eq _ (by first | rfl | simp))).mono ?_
  rintro e w2 ⟨rfl, hf2⟩
  have g2 : Fr Nob (w1.alloc (.cells (outZ) 28)) w2 := ((Fr.refl Nob _).alloc _).trans0 hf2
  have F2 := Lib.hid ((F1.out.alloc _).trans0 g2)
  have B2 := Lib.hid (g2.blk id (E1.out.blk id B1.out)); have O2 := Lib.hid (g2.blk id (E1.out.blk id O1.out))
  have A2 := Lib.hid (g2.blk id (blk_alloc_eq (w := w1) (.cells (outZ) 28) rfl))
  clear hf2 g2
  have e2 := (Fr.refl Nob w2).alloc (.cells outZ 28)
  obtain ⟨o0, o1, o2, o3, o4, o5⟩ := one_cells (e2.blk id O2.out)
  obtain ⟨r0, r1, r2, r3, r4, r5, r6, r7⟩ := reg_cells ((e2.alloc (.cells (oneA (1 + q)) 39)).blk id B2.out)
  have E2 := Lib.hid e2
  clear e2
  go_wp2_with fail
  clear r0 r1 r2 r3 r4 r5 r6 r7 o0 o1 o2 o3 o4 o5
  refine (C3.out _ (w2.heap.size + 1) _ (blk_alloc_eq _ (by first | rfl | simp))).mono ?_
  rintro e w3 ⟨rfl, hf3⟩
  have g3 : Fr Nob (w2.alloc (.cells outZ 28)) w3 := ((Fr.refl Nob _).alloc _).trans0 hf3
  have F3 := Lib.hid ((F2.out.alloc _).trans0 g3)
  have B3 := g3.blk id (E2.out.blk id B2.out); have A3 := g3.blk id (E2.out.blk id A2.out)
  have Z3 := g3.blk id (blk_alloc_eq (w := w2) (.cells outZ 28) rfl)
  clear hf3 g3
  have e3 := (Fr.refl Nob w3).alloc (.cells (outZ) 28)
  obtain ⟨r0, r1, r2, r3, r4, r5, r6, r7⟩ := reg_cells (e3.blk id B3)
  obtain ⟨z0, z1, z2, z3, z4, z5, z6, z7, z8, z9, z10, z11⟩ := row_cellsZ (e3.blk id Z3)
  obtain ⟨a0, a1, a2, a3, a4, a5, a6, a7, a8, a9, a10, a11⟩ := row_cellsZ (e3.blk id A3)
  clear e3 B3 A3 Z3
  have eqZ := HZ.out; have eqR := HR.out
  simp only [ints, List.map] at eqZ eqR
  go_wp2_with fail
  refine (Hmi.out _).mono ?_
  rintro e _ ⟨rfl, rfl⟩
  go_wp2_with fail
  refine (Haw.out _).mono ?_
  rintro e w4 ⟨rfl, hf4⟩
  have F4 := Lib.hid ((F3.out.alloc _).trans0 hf4)
  clear hf4
  go_wp2_with fail
  go_ret
  exact ⟨by simp, F4.out⟩

set_option maxHeartbeats 1000000 in
theorem refuses_not_hi (w : World) (op : Int) (pc : Int) (r : Nat → Int) (hm : mineB (1 + op % 32) = false) (hpc : 1 < pc) :
    Calls Try.prog 6 #[.int .i64 op, .int .i64 pc, .agg (regA r)] w fun e w' => e = .returned (.bool true) ∧ Fr Nob w w' := by
  have hr := fun W => alike_round W op 32 (by omega) (by omega)
  obtain ⟨hq0, hq1⟩ : 0 ≤ op % 32 ∧ op % 32 < 32 := ⟨Int.emod_nonneg _ (by omega), Int.emod_lt_of_pos _ (by omega)⟩
  generalize op % 32 = q at *
  have h1 : 1 ≤ 1 + q := by omega
  have h2 : 1 + q ≤ 32 := by omega
  have hmi := fun W => mine_any W (1 + q)
  have c1 := fun (W : World) (b : Nat) (T : TypeId) (h : W.heap[b]? = some (.cells (oneA (1 + q)) T (0, 0))) => do_any W _ _ 1 r 1 rfl (one_rd h) one_ok 0
  have c2 := fun (W : World) (b : Nat) (T : TypeId) (h : W.heap[b]? = some (.cells (twoA (1 + q)) T (0, 0))) => do_any W _ _ 2 r 1 rfl (two_rd h) two_ok 0
  have c3 := fun (W : World) (b : Nat) (T : TypeId) (h : W.heap[b]? = some (.cells (oneA (1 + q)) T (0, 0))) => do_any W _ _ 1 r 1 rfl (one_rd h) one_ok pc
  rw [two_bad] at c2
  rw [hm] at hmi
  have hx := one_not r h1 h2 hm
  rw [hx] at c1
  rw [one_bad r (.inr hpc)] at c3
  have c1 : ∀ (W : World) (b : Nat) (T : TypeId), W.heap[b]? = some (.cells (oneA (1 + q)) T (0, 0)) → Calls Try.prog 9 #[.slice (some ⟨b, 0, none⟩) 1 1, .int .i64 0, .agg (regA r), .int .i64 1] W fun e w' => e = .returned (.tuple #[.agg (outZ), .int .i64 7]) ∧ Fr Nob W w' := c1
  have c2 : ∀ (W : World) (b : Nat) (T : TypeId), W.heap[b]? = some (.cells (twoA (1 + q)) T (0, 0)) → Calls Try.prog 9 #[.slice (some ⟨b, 0, none⟩) 2 2, .int .i64 0, .agg (regA r), .int .i64 1] W fun e w' => e = .returned (.tuple #[.agg (outZ), .int .i64 1]) ∧ Fr Nob W w' := c2
  have c3 : ∀ (W : World) (b : Nat) (T : TypeId), W.heap[b]? = some (.cells (oneA (1 + q)) T (0, 0)) → Calls Try.prog 9 #[.slice (some ⟨b, 0, none⟩) 1 1, .int .i64 pc, .agg (regA r), .int .i64 1] W fun e w' => e = .returned (.tuple #[.agg (outZ), .int .i64 1]) ∧ Fr Nob W w' := c3
  have p1 : decide (pc < 0) = false := decide_eq_false (by omega)
  have p2 : decide (1 < pc) = true := decide_eq_true hpc
  clear hpc
  clear hx hm
  have haw := fun W => awake18 W
  have heqZ : ∀ W : World, _ := fun W => run_equalIn_arr (P := Try.prog) W 9997 23 3 8 [0, 0, 0, 0, 0, 0, 0, 0] Try.underlying23 Try.underlying3 (by kernel_rfl) rfl
  have heqR : ∀ W : World, _ := fun W => run_equalIn_arr (P := Try.prog) W 9997 23 3 8 [r 0, r 1, r 2, r 3, r 4, r 5, r 6, r 7] Try.underlying23 Try.underlying3 (by kernel_rfl) rfl
  have HZ := Lib.hid heqZ; have HR := Lib.hid heqR
  have hb := blk_alloc_eq (w := w) (.cells (regA r) 23) rfl
  have HB := Lib.hid hb; have Hr := Lib.hid hr; have Hmi := Lib.hid hmi; have C1 := Lib.hid c1; have C2 := Lib.hid c2; have C3 := Lib.hid c3; have Haw := Lib.hid haw
  obtain ⟨r0, r1, r2, r3, r4, r5, r6, r7⟩ := reg_cells hb
  clear hr hmi c1 c2 c3 hb haw heqZ heqR
  go_enter Try.func6, Try.ntmps6
  go_wp2_with fail
  refine (Hr.out _).mono ?_
  rintro e _ ⟨rfl, rfl⟩
  have y := Lib.hid (((Fr.refl Nob (w.alloc (.cells (regA r) 23))).alloc (.cells (oneA (1 + q)) 39)).blk id HB.out)
  obtain ⟨s0, s1, s2, s3, s4, s5, s6, s7⟩ := reg_cells (((Fr.refl Nob _).alloc (.cells (oneA (1 + q)) 39)).blk id y.out)
  go_wp2_with fail
  clear r0 r1 r2 r3 r4 r5 r6 r7 s0 s1 s2 s3 s4 s5 s6 s7
  have e0 : Fr Nob w (((w.alloc (.cells (regA r) 23)).alloc (.cells (oneA (1 + q)) 39)).alloc (.cells (oneA (1 + q)) 39)) := (((Fr.refl Nob w).alloc _).alloc _).alloc _
  have bo : ((w.alloc (.cells (regA r) 23)).alloc (.cells (oneA (1 + q)) 39)).heap[w.heap.size + 1]? = some (.cells (oneA (1 + q)) 39 (0, 0)) := blk_alloc_eq _ (by simp)
  refine (C1.out _ (w.heap.size + 1 + 1) _ (blk_alloc_eq _ (by first | rfl | simp))).mono ?_
  rintro e w1 ⟨rfl, hf1⟩
  have F1 := Lib.hid (e0.trans0 hf1)
  have B1 := Lib.hid (hf1.blk id (((Fr.refl Nob _).alloc (.cells (oneA (1 + q)) 39)).blk id y.out))
  have O1 := Lib.hid (hf1.blk id (((Fr.refl Nob _).alloc (.cells (oneA (1 + q)) 39)).blk id bo))
  clear hf1 e0 bo
  have e1 := (Fr.refl Nob w1).alloc (.cells (outZ) 28)
  obtain ⟨o0, o1, o2, o3, o4, o5⟩ := one_cells (e1.blk id O1.out)
  obtain ⟨r0, r1, r2, r3, r4, r5, r6, r7⟩ := reg_cells ((e1.alloc (.cells (twoA (1 + q)) 39)).blk id B1.out)
  have E1 := Lib.hid e1
  clear e1
  go_wp2_with fail
  clear r0 r1 r2 r3 r4 r5 r6 r7 o0 o1 o2 o3 o4 o5
  refine (C2.out _ (w1.heap.size + 1) _ (blk_alloc_eq _ (by first | rfl | simp))).mono ?_
  rintro e w2 ⟨rfl, hf2⟩
  have g2 : Fr Nob (w1.alloc (.cells (outZ) 28)) w2 := ((Fr.refl Nob _).alloc _).trans0 hf2
  have F2 := Lib.hid ((F1.out.alloc _).trans0 g2)
  have B2 := Lib.hid (g2.blk id (E1.out.blk id B1.out)); have O2 := Lib.hid (g2.blk id (E1.out.blk id O1.out))
  have A2 := Lib.hid (g2.blk id (blk_alloc_eq (w := w1) (.cells (outZ) 28) rfl))
  clear hf2 g2
  have e2 := (Fr.refl Nob w2).alloc (.cells outZ 28)
  obtain ⟨o0, o1, o2, o3, o4, o5⟩ := one_cells (e2.blk id O2.out)
  obtain ⟨r0, r1, r2, r3, r4, r5, r6, r7⟩ := reg_cells ((e2.alloc (.cells (oneA (1 + q)) 39)).blk id B2.out)
  have E2 := Lib.hid e2
  clear e2
  go_wp2_with fail
  clear r0 r1 r2 r3 r4 r5 r6 r7 o0 o1 o2 o3 o4 o5
  refine (C3.out _ (w2.heap.size + 1) _ (blk_alloc_eq _ (by first | rfl | simp))).mono ?_
  rintro e w3 ⟨rfl, hf3⟩
  have g3 : Fr Nob (w2.alloc (.cells outZ 28)) w3 := ((Fr.refl Nob _).alloc _).trans0 hf3
  have F3 := Lib.hid ((F2.out.alloc _).trans0 g3)
  have B3 := g3.blk id (E2.out.blk id B2.out); have A3 := g3.blk id (E2.out.blk id A2.out)
  have Z3 := g3.blk id (blk_alloc_eq (w := w2) (.cells outZ 28) rfl)
  clear hf3 g3
  have e3 := (Fr.refl Nob w3).alloc (.cells (outZ) 28)
  obtain ⟨r0, r1, r2, r3, r4, r5, r6, r7⟩ := reg_cells (e3.blk id B3)
  obtain ⟨z0, z1, z2, z3, z4, z5, z6, z7, z8, z9, z10, z11⟩ := row_cellsZ (e3.blk id Z3)
  obtain ⟨a0, a1, a2, a3, a4, a5, a6, a7, a8, a9, a10, a11⟩ := row_cellsZ (e3.blk id A3)
  clear e3 B3 A3 Z3
  have eqZ := HZ.out; have eqR := HR.out
  simp only [ints, List.map] at eqZ eqR
  go_wp2_with fail
  refine (Hmi.out _).mono ?_
  rintro e _ ⟨rfl, rfl⟩
  go_wp2_with fail
  refine (Haw.out _).mono ?_
  rintro e w4 ⟨rfl, hf4⟩
  have F4 := Lib.hid ((F3.out.alloc _).trans0 hf4)
  clear hf4
  go_wp2_with fail
  go_ret
  exact ⟨by simp, F4.out⟩

set_option maxHeartbeats 1000000 in
theorem refuses_not_at (w : World) (op : Int)  (r : Nat → Int) (hm : mineB (1 + op % 32) = false)  :
    Calls Try.prog 6 #[.int .i64 op, .int .i64 0, .agg (regA r)] w fun e w' => e = .returned (.bool true) ∧ Fr Nob w w' := by
  have hr := fun W => alike_round W op 32 (by omega) (by omega)
  obtain ⟨hq0, hq1⟩ : 0 ≤ op % 32 ∧ op % 32 < 32 := ⟨Int.emod_nonneg _ (by omega), Int.emod_lt_of_pos _ (by omega)⟩
  generalize op % 32 = q at *
  have h1 : 1 ≤ 1 + q := by omega
  have h2 : 1 + q ≤ 32 := by omega
  have hmi := fun W => mine_any W (1 + q)
  have c1 := fun (W : World) (b : Nat) (T : TypeId) (h : W.heap[b]? = some (.cells (oneA (1 + q)) T (0, 0))) => do_any W _ _ 1 r 1 rfl (one_rd h) one_ok 0
  have c2 := fun (W : World) (b : Nat) (T : TypeId) (h : W.heap[b]? = some (.cells (twoA (1 + q)) T (0, 0))) => do_any W _ _ 2 r 1 rfl (two_rd h) two_ok 0
  have c3 := fun (W : World) (b : Nat) (T : TypeId) (h : W.heap[b]? = some (.cells (oneA (1 + q)) T (0, 0))) => do_any W _ _ 1 r 1 rfl (one_rd h) one_ok 0
  rw [two_bad] at c2
  rw [hm] at hmi
  have hx := one_not r h1 h2 hm
  rw [hx] at c1
  rw [hx] at c3
  have c1 : ∀ (W : World) (b : Nat) (T : TypeId), W.heap[b]? = some (.cells (oneA (1 + q)) T (0, 0)) → Calls Try.prog 9 #[.slice (some ⟨b, 0, none⟩) 1 1, .int .i64 0, .agg (regA r), .int .i64 1] W fun e w' => e = .returned (.tuple #[.agg (outZ), .int .i64 7]) ∧ Fr Nob W w' := c1
  have c2 : ∀ (W : World) (b : Nat) (T : TypeId), W.heap[b]? = some (.cells (twoA (1 + q)) T (0, 0)) → Calls Try.prog 9 #[.slice (some ⟨b, 0, none⟩) 2 2, .int .i64 0, .agg (regA r), .int .i64 1] W fun e w' => e = .returned (.tuple #[.agg (outZ), .int .i64 1]) ∧ Fr Nob W w' := c2
  have c3 : ∀ (W : World) (b : Nat) (T : TypeId), W.heap[b]? = some (.cells (oneA (1 + q)) T (0, 0)) → Calls Try.prog 9 #[.slice (some ⟨b, 0, none⟩) 1 1, .int .i64 0, .agg (regA r), .int .i64 1] W fun e w' => e = .returned (.tuple #[.agg (outZ), .int .i64 7]) ∧ Fr Nob W w' := c3
  
  clear hx hm
  have haw := fun W => awake18 W
  have heqZ : ∀ W : World, _ := fun W => run_equalIn_arr (P := Try.prog) W 9997 23 3 8 [0, 0, 0, 0, 0, 0, 0, 0] Try.underlying23 Try.underlying3 (by kernel_rfl) rfl
  have heqR : ∀ W : World, _ := fun W => run_equalIn_arr (P := Try.prog) W 9997 23 3 8 [r 0, r 1, r 2, r 3, r 4, r 5, r 6, r 7] Try.underlying23 Try.underlying3 (by kernel_rfl) rfl
  have HZ := Lib.hid heqZ; have HR := Lib.hid heqR
  have hb := blk_alloc_eq (w := w) (.cells (regA r) 23) rfl
  have HB := Lib.hid hb; have Hr := Lib.hid hr; have Hmi := Lib.hid hmi; have C1 := Lib.hid c1; have C2 := Lib.hid c2; have C3 := Lib.hid c3; have Haw := Lib.hid haw
  obtain ⟨r0, r1, r2, r3, r4, r5, r6, r7⟩ := reg_cells hb
  clear hr hmi c1 c2 c3 hb haw heqZ heqR
  go_enter Try.func6, Try.ntmps6
  go_wp2_with fail
  refine (Hr.out _).mono ?_
  rintro e _ ⟨rfl, rfl⟩
  have y := Lib.hid (((Fr.refl Nob (w.alloc (.cells (regA r) 23))).alloc (.cells (oneA (1 + q)) 39)).blk id HB.out)
  obtain ⟨s0, s1, s2, s3, s4, s5, s6, s7⟩ := reg_cells (((Fr.refl Nob _).alloc (.cells (oneA (1 + q)) 39)).blk id y.out)
  go_wp2_with fail
  clear r0 r1 r2 r3 r4 r5 r6 r7 s0 s1 s2 s3 s4 s5 s6 s7
  have e0 : Fr Nob w (((w.alloc (.cells (regA r) 23)).alloc (.cells (oneA (1 + q)) 39)).alloc (.cells (oneA (1 + q)) 39)) := (((Fr.refl Nob w).alloc _).alloc _).alloc _
  have bo : ((w.alloc (.cells (regA r) 23)).alloc (.cells (oneA (1 + q)) 39)).heap[w.heap.size + 1]? = some (.cells (oneA (1 + q)) 39 (0, 0)) := blk_alloc_eq _ (by simp)
  refine (C1.out _ (w.heap.size + 1 + 1) _ (blk_alloc_eq _ (by first | rfl | simp))).mono ?_
  rintro e w1 ⟨rfl, hf1⟩
  have F1 := Lib.hid (e0.trans0 hf1)
  have B1 := Lib.hid (hf1.blk id (((Fr.refl Nob _).alloc (.cells (oneA (1 + q)) 39)).blk id y.out))
  have O1 := Lib.hid (hf1.blk id (((Fr.refl Nob _).alloc (.cells (oneA (1 + q)) 39)).blk id bo))
  clear hf1 e0 bo
  have e1 := (Fr.refl Nob w1).alloc (.cells (outZ) 28)
  obtain ⟨o0, o1, o2, o3, o4, o5⟩ := one_cells (e1.blk id O1.out)
  obtain ⟨r0, r1, r2, r3, r4, r5, r6, r7⟩ := reg_cells ((e1.alloc (.cells (twoA (1 + q)) 39)).blk id B1.out)
  have E1 := Lib.hid e1
  clear e1
  go_wp2_with fail
  clear r0 r1 r2 r3 r4 r5 r6 r7 o0 o1 o2 o3 o4 o5
  refine (C2.out _ (w1.heap.size + 1) _ (blk_alloc_eq _ (by first | rfl | simp))).mono ?_
  rintro e w2 ⟨rfl, hf2⟩
  have g2 : Fr Nob (w1.alloc (.cells (outZ) 28)) w2 := ((Fr.refl Nob _).alloc _).trans0 hf2
  have F2 := Lib.hid ((F1.out.alloc _).trans0 g2)
  have B2 := Lib.hid (g2.blk id (E1.out.blk id B1.out)); have O2 := Lib.hid (g2.blk id (E1.out.blk id O1.out))
  have A2 := Lib.hid (g2.blk id (blk_alloc_eq (w := w1) (.cells (outZ) 28) rfl))
  clear hf2 g2
  have e2 := (Fr.refl Nob w2).alloc (.cells outZ 28)
  obtain ⟨o0, o1, o2, o3, o4, o5⟩ := one_cells (e2.blk id O2.out)
  obtain ⟨r0, r1, r2, r3, r4, r5, r6, r7⟩ := reg_cells ((e2.alloc (.cells (oneA (1 + q)) 39)).blk id B2.out)
  have E2 := Lib.hid e2
  clear e2
  go_wp2_with fail
  clear r0 r1 r2 r3 r4 r5 r6 r7 o0 o1 o2 o3 o4 o5
  refine (C3.out _ (w2.heap.size + 1) _ (blk_alloc_eq _ (by first | rfl | simp))).mono ?_
  rintro e w3 ⟨rfl, hf3⟩
  have g3 : Fr Nob (w2.alloc (.cells outZ 28)) w3 := ((Fr.refl Nob _).alloc _).trans0 hf3
  have F3 := Lib.hid ((F2.out.alloc _).trans0 g3)
  have B3 := g3.blk id (E2.out.blk id B2.out); have A3 := g3.blk id (E2.out.blk id A2.out)
  have Z3 := g3.blk id (blk_alloc_eq (w := w2) (.cells outZ 28) rfl)
  clear hf3 g3
  have e3 := (Fr.refl Nob w3).alloc (.cells (outZ) 28)
  obtain ⟨r0, r1, r2, r3, r4, r5, r6, r7⟩ := reg_cells (e3.blk id B3)
  obtain ⟨z0, z1, z2, z3, z4, z5, z6, z7, z8, z9, z10, z11⟩ := row_cellsZ (e3.blk id Z3)
  obtain ⟨a0, a1, a2, a3, a4, a5, a6, a7, a8, a9, a10, a11⟩ := row_cellsZ (e3.blk id A3)
  clear e3 B3 A3 Z3
  have eqZ := HZ.out; have eqR := HR.out
  simp only [ints, List.map] at eqZ eqR
  go_wp2_with fail
  refine (Hmi.out _).mono ?_
  rintro e _ ⟨rfl, rfl⟩
  go_wp2_with fail
  refine (Haw.out _).mono ?_
  rintro e w4 ⟨rfl, hf4⟩
  have F4 := Lib.hid ((F3.out.alloc _).trans0 hf4)
  clear hf4
  go_wp2_with fail
  go_ret
  exact ⟨by simp, F4.out⟩

set_option maxHeartbeats 1000000 in
theorem refuses_not_end (w : World) (op : Int)  (r : Nat → Int) (hm : mineB (1 + op % 32) = false)  :
    Calls Try.prog 6 #[.int .i64 op, .int .i64 1, .agg (regA r)] w fun e w' => e = .returned (.bool true) ∧ Fr Nob w w' := by
  have hr := fun W => alike_round W op 32 (by omega) (by omega)
  obtain ⟨hq0, hq1⟩ : 0 ≤ op % 32 ∧ op % 32 < 32 := ⟨Int.emod_nonneg _ (by omega), Int.emod_lt_of_pos _ (by omega)⟩
  generalize op % 32 = q at *
  have h1 : 1 ≤ 1 + q := by omega
  have h2 : 1 + q ≤ 32 := by omega
  have hmi := fun W => mine_any W (1 + q)
  have c1 := fun (W : World) (b : Nat) (T : TypeId) (h : W.heap[b]? = some (.cells (oneA (1 + q)) T (0, 0))) => do_any W _ _ 1 r 1 rfl (one_rd h) one_ok 0
  have c2 := fun (W : World) (b : Nat) (T : TypeId) (h : W.heap[b]? = some (.cells (twoA (1 + q)) T (0, 0))) => do_any W _ _ 2 r 1 rfl (two_rd h) two_ok 0
  have c3 := fun (W : World) (b : Nat) (T : TypeId) (h : W.heap[b]? = some (.cells (oneA (1 + q)) T (0, 0))) => do_any W _ _ 1 r 1 rfl (one_rd h) one_ok 1
  rw [two_bad] at c2
  rw [hm] at hmi
  have hx := one_not r h1 h2 hm
  rw [hx] at c1
  rw [one_end r h1 h2] at c3
  have c1 : ∀ (W : World) (b : Nat) (T : TypeId), W.heap[b]? = some (.cells (oneA (1 + q)) T (0, 0)) → Calls Try.prog 9 #[.slice (some ⟨b, 0, none⟩) 1 1, .int .i64 0, .agg (regA r), .int .i64 1] W fun e w' => e = .returned (.tuple #[.agg (outZ), .int .i64 7]) ∧ Fr Nob W w' := c1
  have c2 : ∀ (W : World) (b : Nat) (T : TypeId), W.heap[b]? = some (.cells (twoA (1 + q)) T (0, 0)) → Calls Try.prog 9 #[.slice (some ⟨b, 0, none⟩) 2 2, .int .i64 0, .agg (regA r), .int .i64 1] W fun e w' => e = .returned (.tuple #[.agg (outZ), .int .i64 1]) ∧ Fr Nob W w' := c2
  have c3 : ∀ (W : World) (b : Nat) (T : TypeId), W.heap[b]? = some (.cells (oneA (1 + q)) T (0, 0)) → Calls Try.prog 9 #[.slice (some ⟨b, 0, none⟩) 1 1, .int .i64 1, .agg (regA r), .int .i64 1] W fun e w' => e = .returned (.tuple #[.agg (outA 1 r false 0 true), .int .i64 0]) ∧ Fr Nob W w' := c3
  
  clear hx hm
  have haw := fun W => awake18 W
  have heqZ : ∀ W : World, _ := fun W => run_equalIn_arr (P := Try.prog) W 9997 23 3 8 [0, 0, 0, 0, 0, 0, 0, 0] Try.underlying23 Try.underlying3 (by kernel_rfl) rfl
  have heqR : ∀ W : World, _ := fun W => run_equalIn_arr (P := Try.prog) W 9997 23 3 8 [r 0, r 1, r 2, r 3, r 4, r 5, r 6, r 7] Try.underlying23 Try.underlying3 (by kernel_rfl) rfl
  have HZ := Lib.hid heqZ; have HR := Lib.hid heqR
  have hb := blk_alloc_eq (w := w) (.cells (regA r) 23) rfl
  have HB := Lib.hid hb; have Hr := Lib.hid hr; have Hmi := Lib.hid hmi; have C1 := Lib.hid c1; have C2 := Lib.hid c2; have C3 := Lib.hid c3; have Haw := Lib.hid haw
  obtain ⟨r0, r1, r2, r3, r4, r5, r6, r7⟩ := reg_cells hb
  clear hr hmi c1 c2 c3 hb haw heqZ heqR
  go_enter Try.func6, Try.ntmps6
  go_wp2_with fail
  refine (Hr.out _).mono ?_
  rintro e _ ⟨rfl, rfl⟩
  have y := Lib.hid (((Fr.refl Nob (w.alloc (.cells (regA r) 23))).alloc (.cells (oneA (1 + q)) 39)).blk id HB.out)
  obtain ⟨s0, s1, s2, s3, s4, s5, s6, s7⟩ := reg_cells (((Fr.refl Nob _).alloc (.cells (oneA (1 + q)) 39)).blk id y.out)
  go_wp2_with fail
  clear r0 r1 r2 r3 r4 r5 r6 r7 s0 s1 s2 s3 s4 s5 s6 s7
  have e0 : Fr Nob w (((w.alloc (.cells (regA r) 23)).alloc (.cells (oneA (1 + q)) 39)).alloc (.cells (oneA (1 + q)) 39)) := (((Fr.refl Nob w).alloc _).alloc _).alloc _
  have bo : ((w.alloc (.cells (regA r) 23)).alloc (.cells (oneA (1 + q)) 39)).heap[w.heap.size + 1]? = some (.cells (oneA (1 + q)) 39 (0, 0)) := blk_alloc_eq _ (by simp)
  refine (C1.out _ (w.heap.size + 1 + 1) _ (blk_alloc_eq _ (by first | rfl | simp))).mono ?_
  rintro e w1 ⟨rfl, hf1⟩
  have F1 := Lib.hid (e0.trans0 hf1)
  have B1 := Lib.hid (hf1.blk id (((Fr.refl Nob _).alloc (.cells (oneA (1 + q)) 39)).blk id y.out))
  have O1 := Lib.hid (hf1.blk id (((Fr.refl Nob _).alloc (.cells (oneA (1 + q)) 39)).blk id bo))
  clear hf1 e0 bo
  have e1 := (Fr.refl Nob w1).alloc (.cells (outZ) 28)
  obtain ⟨o0, o1, o2, o3, o4, o5⟩ := one_cells (e1.blk id O1.out)
  obtain ⟨r0, r1, r2, r3, r4, r5, r6, r7⟩ := reg_cells ((e1.alloc (.cells (twoA (1 + q)) 39)).blk id B1.out)
  have E1 := Lib.hid e1
  clear e1
  go_wp2_with fail
  clear r0 r1 r2 r3 r4 r5 r6 r7 o0 o1 o2 o3 o4 o5
  refine (C2.out _ (w1.heap.size + 1) _ (blk_alloc_eq _ (by first | rfl | simp))).mono ?_
  rintro e w2 ⟨rfl, hf2⟩
  have g2 : Fr Nob (w1.alloc (.cells (outZ) 28)) w2 := ((Fr.refl Nob _).alloc _).trans0 hf2
  have F2 := Lib.hid ((F1.out.alloc _).trans0 g2)
  have B2 := Lib.hid (g2.blk id (E1.out.blk id B1.out)); have O2 := Lib.hid (g2.blk id (E1.out.blk id O1.out))
  have A2 := Lib.hid (g2.blk id (blk_alloc_eq (w := w1) (.cells (outZ) 28) rfl))
  clear hf2 g2
  have e2 := (Fr.refl Nob w2).alloc (.cells outZ 28)
  obtain ⟨o0, o1, o2, o3, o4, o5⟩ := one_cells (e2.blk id O2.out)
  obtain ⟨r0, r1, r2, r3, r4, r5, r6, r7⟩ := reg_cells ((e2.alloc (.cells (oneA (1 + q)) 39)).blk id B2.out)
  have E2 := Lib.hid e2
  clear e2
  go_wp2_with fail
  clear r0 r1 r2 r3 r4 r5 r6 r7 o0 o1 o2 o3 o4 o5
  refine (C3.out _ (w2.heap.size + 1) _ (blk_alloc_eq _ (by first | rfl | simp))).mono ?_
  rintro e w3 ⟨rfl, hf3⟩
  have g3 : Fr Nob (w2.alloc (.cells outZ 28)) w3 := ((Fr.refl Nob _).alloc _).trans0 hf3
  have F3 := Lib.hid ((F2.out.alloc _).trans0 g3)
  have B3 := g3.blk id (E2.out.blk id B2.out); have A3 := g3.blk id (E2.out.blk id A2.out)
  have Z3 := g3.blk id (blk_alloc_eq (w := w2) (.cells outZ 28) rfl)
  clear hf3 g3
  have e3 := (Fr.refl Nob w3).alloc (.cells (outA 1 r false 0 true) 28)
  obtain ⟨r0, r1, r2, r3, r4, r5, r6, r7⟩ := reg_cells (e3.blk id B3)
  obtain ⟨z0, z1, z2, z3, z4, z5, z6, z7, z8, z9, z10, z11⟩ := row_cellsZ (e3.blk id Z3)
  obtain ⟨a0, a1, a2, a3, a4, a5, a6, a7, a8, a9, a10, a11⟩ := row_cellsZ (e3.blk id A3)
  clear e3 B3 A3 Z3
  have eqZ := HZ.out; have eqR := HR.out
  simp only [ints, List.map] at eqZ eqR
  go_wp2_with fail
  refine (Hmi.out _).mono ?_
  rintro e _ ⟨rfl, rfl⟩
  go_wp2_with fail
  refine (Haw.out _).mono ?_
  rintro e w4 ⟨rfl, hf4⟩
  have F4 := Lib.hid ((F3.out.alloc _).trans0 hf4)
  clear hf4
  go_wp2_with fail
  go_ret
  exact ⟨by simp, F4.out⟩

set_option maxHeartbeats 1000000 in
theorem refuses_yes_lo (w : World) (op : Int) (pc : Int) (r : Nat → Int) (hm : mineB (1 + op % 32) = true) (hpc : pc < 0) :
    Calls Try.prog 6 #[.int .i64 op, .int .i64 pc, .agg (regA r)] w fun e w' => e = .returned (.bool true) ∧ Fr Nob w w' := by
  have hr := fun W => alike_round W op 32 (by omega) (by omega)
  obtain ⟨hq0, hq1⟩ : 0 ≤ op % 32 ∧ op % 32 < 32 := ⟨Int.emod_nonneg _ (by omega), Int.emod_lt_of_pos _ (by omega)⟩
  generalize op % 32 = q at *
  have h1 : 1 ≤ 1 + q := by omega
  have h2 : 1 + q ≤ 32 := by omega
  have hmi := fun W => mine_any W (1 + q)
  have c1 := fun (W : World) (b : Nat) (T : TypeId) (h : W.heap[b]? = some (.cells (oneA (1 + q)) T (0, 0))) => do_any W _ _ 1 r 1 rfl (one_rd h) one_ok 0
  have c2 := fun (W : World) (b : Nat) (T : TypeId) (h : W.heap[b]? = some (.cells (twoA (1 + q)) T (0, 0))) => do_any W _ _ 2 r 1 rfl (two_rd h) two_ok 0
  have c3 := fun (W : World) (b : Nat) (T : TypeId) (h : W.heap[b]? = some (.cells (oneA (1 + q)) T (0, 0))) => do_any W _ _ 1 r 1 rfl (one_rd h) one_ok pc
  rw [two_bad] at c2
  rw [hm] at hmi
  obtain ⟨⟨pa, ra, ta, xa, ea⟩, hx⟩ := one_yes r h1 h2 hm
  rw [hx] at c1
  rw [one_bad r (.inl hpc)] at c3
  have c1 : ∀ (W : World) (b : Nat) (T : TypeId), W.heap[b]? = some (.cells (oneA (1 + q)) T (0, 0)) → Calls Try.prog 9 #[.slice (some ⟨b, 0, none⟩) 1 1, .int .i64 0, .agg (regA r), .int .i64 1] W fun e w' => e = .returned (.tuple #[.agg (outA pa ra ta xa ea), .int .i64 0]) ∧ Fr Nob W w' := c1
  have c2 : ∀ (W : World) (b : Nat) (T : TypeId), W.heap[b]? = some (.cells (twoA (1 + q)) T (0, 0)) → Calls Try.prog 9 #[.slice (some ⟨b, 0, none⟩) 2 2, .int .i64 0, .agg (regA r), .int .i64 1] W fun e w' => e = .returned (.tuple #[.agg (outZ), .int .i64 1]) ∧ Fr Nob W w' := c2
  have c3 : ∀ (W : World) (b : Nat) (T : TypeId), W.heap[b]? = some (.cells (oneA (1 + q)) T (0, 0)) → Calls Try.prog 9 #[.slice (some ⟨b, 0, none⟩) 1 1, .int .i64 pc, .agg (regA r), .int .i64 1] W fun e w' => e = .returned (.tuple #[.agg (outZ), .int .i64 1]) ∧ Fr Nob W w' := c3
  have p1 : decide (pc < 0) = true := decide_eq_true hpc
  clear hpc
  clear hx hm
  have haw := fun W => awake18 W
  have heqZ : ∀ W : World, _ := fun W => run_equalIn_arr (P := Try.prog) W 9997 23 3 8 [0, 0, 0, 0, 0, 0, 0, 0] Try.underlying23 Try.underlying3 (by kernel_rfl) rfl
  have heqR : ∀ W : World, _ := fun W => run_equalIn_arr (P := Try.prog) W 9997 23 3 8 [r 0, r 1, r 2, r 3, r 4, r 5, r 6, r 7] Try.underlying23 Try.underlying3 (by kernel_rfl) rfl
  have HZ := Lib.hid heqZ; have HR := Lib.hid heqR
  have hb := blk_alloc_eq (w := w) (.cells (regA r) 23) rfl
  have HB := Lib.hid hb; have Hr := Lib.hid hr; have Hmi := Lib.hid hmi; have C1 := Lib.hid c1; have C2 := Lib.hid c2; have C3 := Lib.hid c3; have Haw := Lib.hid haw
  obtain ⟨r0, r1, r2, r3, r4, r5, r6, r7⟩ := reg_cells hb
  clear hr hmi c1 c2 c3 hb haw heqZ heqR
  go_enter Try.func6, Try.ntmps6
  go_wp2_with fail
  refine (Hr.out _).mono ?_
  rintro e _ ⟨rfl, rfl⟩
  have y := Lib.hid (((Fr.refl Nob (w.alloc (.cells (regA r) 23))).alloc (.cells (oneA (1 + q)) 39)).blk id HB.out)
  obtain ⟨s0, s1, s2, s3, s4, s5, s6, s7⟩ := reg_cells (((Fr.refl Nob _).alloc (.cells (oneA (1 + q)) 39)).blk id y.out)
  go_wp2_with fail
  clear r0 r1 r2 r3 r4 r5 r6 r7 s0 s1 s2 s3 s4 s5 s6 s7
  have e0 : Fr Nob w (((w.alloc (.cells (regA r) 23)).alloc (.cells (oneA (1 + q)) 39)).alloc (.cells (oneA (1 + q)) 39)) := (((Fr.refl Nob w).alloc _).alloc _).alloc _
  have bo : ((w.alloc (.cells (regA r) 23)).alloc (.cells (oneA (1 + q)) 39)).heap[w.heap.size + 1]? = some (.cells (oneA (1 + q)) 39 (0, 0)) := blk_alloc_eq _ (by simp)
  refine (C1.out _ (w.heap.size + 1 + 1) _ (blk_alloc_eq _ (by first | rfl | simp))).mono ?_
  rintro e w1 ⟨rfl, hf1⟩
  have F1 := Lib.hid (e0.trans0 hf1)
  have B1 := Lib.hid (hf1.blk id (((Fr.refl Nob _).alloc (.cells (oneA (1 + q)) 39)).blk id y.out))
  have O1 := Lib.hid (hf1.blk id (((Fr.refl Nob _).alloc (.cells (oneA (1 + q)) 39)).blk id bo))
  clear hf1 e0 bo
  have e1 := (Fr.refl Nob w1).alloc (.cells (outA pa ra ta xa ea) 28)
  obtain ⟨o0, o1, o2, o3, o4, o5⟩ := one_cells (e1.blk id O1.out)
  obtain ⟨r0, r1, r2, r3, r4, r5, r6, r7⟩ := reg_cells ((e1.alloc (.cells (twoA (1 + q)) 39)).blk id B1.out)
  have E1 := Lib.hid e1
  clear e1
  go_wp2_with fail
  clear r0 r1 r2 r3 r4 r5 r6 r7 o0 o1 o2 o3 o4 o5
  refine (C2.out _ (w1.heap.size + 1) _ (blk_alloc_eq _ (by first | rfl | simp))).mono ?_
  rintro e w2 ⟨rfl, hf2⟩
  have g2 : Fr Nob (w1.alloc (.cells (outA pa ra ta xa ea) 28)) w2 := ((Fr.refl Nob _).alloc _).trans0 hf2
  have F2 := Lib.hid ((F1.out.alloc _).trans0 g2)
  have B2 := Lib.hid (g2.blk id (E1.out.blk id B1.out)); have O2 := Lib.hid (g2.blk id (E1.out.blk id O1.out))
  have A2 := Lib.hid (g2.blk id (blk_alloc_eq (w := w1) (.cells (outA pa ra ta xa ea) 28) rfl))
  clear hf2 g2
  have e2 := (Fr.refl Nob w2).alloc (.cells outZ 28)
  obtain ⟨o0, o1, o2, o3, o4, o5⟩ := one_cells (e2.blk id O2.out)
  obtain ⟨r0, r1, r2, r3, r4, r5, r6, r7⟩ := reg_cells ((e2.alloc (.cells (oneA (1 + q)) 39)).blk id B2.out)
  have E2 := Lib.hid e2
  clear e2
  go_wp2_with fail
  clear r0 r1 r2 r3 r4 r5 r6 r7 o0 o1 o2 o3 o4 o5
  refine (C3.out _ (w2.heap.size + 1) _ (blk_alloc_eq _ (by first | rfl | simp))).mono ?_
  rintro e w3 ⟨rfl, hf3⟩
  have g3 : Fr Nob (w2.alloc (.cells outZ 28)) w3 := ((Fr.refl Nob _).alloc _).trans0 hf3
  have F3 := Lib.hid ((F2.out.alloc _).trans0 g3)
  have B3 := g3.blk id (E2.out.blk id B2.out); have A3 := g3.blk id (E2.out.blk id A2.out)
  have Z3 := g3.blk id (blk_alloc_eq (w := w2) (.cells outZ 28) rfl)
  clear hf3 g3
  have e3 := (Fr.refl Nob w3).alloc (.cells (outZ) 28)
  obtain ⟨r0, r1, r2, r3, r4, r5, r6, r7⟩ := reg_cells (e3.blk id B3)
  obtain ⟨z0, z1, z2, z3, z4, z5, z6, z7, z8, z9, z10, z11⟩ := row_cellsZ (e3.blk id Z3)

  clear e3 B3 A3 Z3
  have eqZ := HZ.out; have eqR := HR.out
  simp only [ints, List.map] at eqZ eqR
  go_wp2_with fail
  refine (Hmi.out _).mono ?_
  rintro e _ ⟨rfl, rfl⟩
  go_wp2_with fail
  refine (Haw.out _).mono ?_
  rintro e w4 ⟨rfl, hf4⟩
  have F4 := Lib.hid ((F3.out.alloc _).trans0 hf4)
  clear hf4
  go_wp2_with fail
  go_ret
  exact ⟨by simp, F4.out⟩

set_option maxHeartbeats 1000000 in
theorem refuses_yes_hi (w : World) (op : Int) (pc : Int) (r : Nat → Int) (hm : mineB (1 + op % 32) = true) (hpc : 1 < pc) :
    Calls Try.prog 6 #[.int .i64 op, .int .i64 pc, .agg (regA r)] w fun e w' => e = .returned (.bool true) ∧ Fr Nob w w' := by
  have hr := fun W => alike_round W op 32 (by omega) (by omega)
  obtain ⟨hq0, hq1⟩ : 0 ≤ op % 32 ∧ op % 32 < 32 := ⟨Int.emod_nonneg _ (by omega), Int.emod_lt_of_pos _ (by omega)⟩
  generalize op % 32 = q at *
  have h1 : 1 ≤ 1 + q := by omega
  have h2 : 1 + q ≤ 32 := by omega
  have hmi := fun W => mine_any W (1 + q)
  have c1 := fun (W : World) (b : Nat) (T : TypeId) (h : W.heap[b]? = some (.cells (oneA (1 + q)) T (0, 0))) => do_any W _ _ 1 r 1 rfl (one_rd h) one_ok 0
  have c2 := fun (W : World) (b : Nat) (T : TypeId) (h : W.heap[b]? = some (.cells (twoA (1 + q)) T (0, 0))) => do_any W _ _ 2 r 1 rfl (two_rd h) two_ok 0
  have c3 := fun (W : World) (b : Nat) (T : TypeId) (h : W.heap[b]? = some (.cells (oneA (1 + q)) T (0, 0))) => do_any W _ _ 1 r 1 rfl (one_rd h) one_ok pc
  rw [two_bad] at c2
  rw [hm] at hmi
  obtain ⟨⟨pa, ra, ta, xa, ea⟩, hx⟩ := one_yes r h1 h2 hm
  rw [hx] at c1
  rw [one_bad r (.inr hpc)] at c3
  have c1 : ∀ (W : World) (b : Nat) (T : TypeId), W.heap[b]? = some (.cells (oneA (1 + q)) T (0, 0)) → Calls Try.prog 9 #[.slice (some ⟨b, 0, none⟩) 1 1, .int .i64 0, .agg (regA r), .int .i64 1] W fun e w' => e = .returned (.tuple #[.agg (outA pa ra ta xa ea), .int .i64 0]) ∧ Fr Nob W w' := c1
  have c2 : ∀ (W : World) (b : Nat) (T : TypeId), W.heap[b]? = some (.cells (twoA (1 + q)) T (0, 0)) → Calls Try.prog 9 #[.slice (some ⟨b, 0, none⟩) 2 2, .int .i64 0, .agg (regA r), .int .i64 1] W fun e w' => e = .returned (.tuple #[.agg (outZ), .int .i64 1]) ∧ Fr Nob W w' := c2
  have c3 : ∀ (W : World) (b : Nat) (T : TypeId), W.heap[b]? = some (.cells (oneA (1 + q)) T (0, 0)) → Calls Try.prog 9 #[.slice (some ⟨b, 0, none⟩) 1 1, .int .i64 pc, .agg (regA r), .int .i64 1] W fun e w' => e = .returned (.tuple #[.agg (outZ), .int .i64 1]) ∧ Fr Nob W w' := c3
  have p1 : decide (pc < 0) = false := decide_eq_false (by omega)
  have p2 : decide (1 < pc) = true := decide_eq_true hpc
  clear hpc
  clear hx hm
  have haw := fun W => awake18 W
  have heqZ : ∀ W : World, _ := fun W => run_equalIn_arr (P := Try.prog) W 9997 23 3 8 [0, 0, 0, 0, 0, 0, 0, 0] Try.underlying23 Try.underlying3 (by kernel_rfl) rfl
  have heqR : ∀ W : World, _ := fun W => run_equalIn_arr (P := Try.prog) W 9997 23 3 8 [r 0, r 1, r 2, r 3, r 4, r 5, r 6, r 7] Try.underlying23 Try.underlying3 (by kernel_rfl) rfl
  have HZ := Lib.hid heqZ; have HR := Lib.hid heqR
  have hb := blk_alloc_eq (w := w) (.cells (regA r) 23) rfl
  have HB := Lib.hid hb; have Hr := Lib.hid hr; have Hmi := Lib.hid hmi; have C1 := Lib.hid c1; have C2 := Lib.hid c2; have C3 := Lib.hid c3; have Haw := Lib.hid haw
  obtain ⟨r0, r1, r2, r3, r4, r5, r6, r7⟩ := reg_cells hb
  clear hr hmi c1 c2 c3 hb haw heqZ heqR
  go_enter Try.func6, Try.ntmps6
  go_wp2_with fail
  refine (Hr.out _).mono ?_
  rintro e _ ⟨rfl, rfl⟩
  have y := Lib.hid (((Fr.refl Nob (w.alloc (.cells (regA r) 23))).alloc (.cells (oneA (1 + q)) 39)).blk id HB.out)
  obtain ⟨s0, s1, s2, s3, s4, s5, s6, s7⟩ := reg_cells (((Fr.refl Nob _).alloc (.cells (oneA (1 + q)) 39)).blk id y.out)
  go_wp2_with fail
  clear r0 r1 r2 r3 r4 r5 r6 r7 s0 s1 s2 s3 s4 s5 s6 s7
  have e0 : Fr Nob w (((w.alloc (.cells (regA r) 23)).alloc (.cells (oneA (1 + q)) 39)).alloc (.cells (oneA (1 + q)) 39)) := (((Fr.refl Nob w).alloc _).alloc _).alloc _
  have bo : ((w.alloc (.cells (regA r) 23)).alloc (.cells (oneA (1 + q)) 39)).heap[w.heap.size + 1]? = some (.cells (oneA (1 + q)) 39 (0, 0)) := blk_alloc_eq _ (by simp)
  refine (C1.out _ (w.heap.size + 1 + 1) _ (blk_alloc_eq _ (by first | rfl | simp))).mono ?_
  rintro e w1 ⟨rfl, hf1⟩
  have F1 := Lib.hid (e0.trans0 hf1)
  have B1 := Lib.hid (hf1.blk id (((Fr.refl Nob _).alloc (.cells (oneA (1 + q)) 39)).blk id y.out))
  have O1 := Lib.hid (hf1.blk id (((Fr.refl Nob _).alloc (.cells (oneA (1 + q)) 39)).blk id bo))
  clear hf1 e0 bo
  have e1 := (Fr.refl Nob w1).alloc (.cells (outA pa ra ta xa ea) 28)
  obtain ⟨o0, o1, o2, o3, o4, o5⟩ := one_cells (e1.blk id O1.out)
  obtain ⟨r0, r1, r2, r3, r4, r5, r6, r7⟩ := reg_cells ((e1.alloc (.cells (twoA (1 + q)) 39)).blk id B1.out)
  have E1 := Lib.hid e1
  clear e1
  go_wp2_with fail
  clear r0 r1 r2 r3 r4 r5 r6 r7 o0 o1 o2 o3 o4 o5
  refine (C2.out _ (w1.heap.size + 1) _ (blk_alloc_eq _ (by first | rfl | simp))).mono ?_
  rintro e w2 ⟨rfl, hf2⟩
  have g2 : Fr Nob (w1.alloc (.cells (outA pa ra ta xa ea) 28)) w2 := ((Fr.refl Nob _).alloc _).trans0 hf2
  have F2 := Lib.hid ((F1.out.alloc _).trans0 g2)
  have B2 := Lib.hid (g2.blk id (E1.out.blk id B1.out)); have O2 := Lib.hid (g2.blk id (E1.out.blk id O1.out))
  have A2 := Lib.hid (g2.blk id (blk_alloc_eq (w := w1) (.cells (outA pa ra ta xa ea) 28) rfl))
  clear hf2 g2
  have e2 := (Fr.refl Nob w2).alloc (.cells outZ 28)
  obtain ⟨o0, o1, o2, o3, o4, o5⟩ := one_cells (e2.blk id O2.out)
  obtain ⟨r0, r1, r2, r3, r4, r5, r6, r7⟩ := reg_cells ((e2.alloc (.cells (oneA (1 + q)) 39)).blk id B2.out)
  have E2 := Lib.hid e2
  clear e2
  go_wp2_with fail
  clear r0 r1 r2 r3 r4 r5 r6 r7 o0 o1 o2 o3 o4 o5
  refine (C3.out _ (w2.heap.size + 1) _ (blk_alloc_eq _ (by first | rfl | simp))).mono ?_
  rintro e w3 ⟨rfl, hf3⟩
  have g3 : Fr Nob (w2.alloc (.cells outZ 28)) w3 := ((Fr.refl Nob _).alloc _).trans0 hf3
  have F3 := Lib.hid ((F2.out.alloc _).trans0 g3)
  have B3 := g3.blk id (E2.out.blk id B2.out); have A3 := g3.blk id (E2.out.blk id A2.out)
  have Z3 := g3.blk id (blk_alloc_eq (w := w2) (.cells outZ 28) rfl)
  clear hf3 g3
  have e3 := (Fr.refl Nob w3).alloc (.cells (outZ) 28)
  obtain ⟨r0, r1, r2, r3, r4, r5, r6, r7⟩ := reg_cells (e3.blk id B3)
  obtain ⟨z0, z1, z2, z3, z4, z5, z6, z7, z8, z9, z10, z11⟩ := row_cellsZ (e3.blk id Z3)

  clear e3 B3 A3 Z3
  have eqZ := HZ.out; have eqR := HR.out
  simp only [ints, List.map] at eqZ eqR
  go_wp2_with fail
  refine (Hmi.out _).mono ?_
  rintro e _ ⟨rfl, rfl⟩
  go_wp2_with fail
  refine (Haw.out _).mono ?_
  rintro e w4 ⟨rfl, hf4⟩
  have F4 := Lib.hid ((F3.out.alloc _).trans0 hf4)
  clear hf4
  go_wp2_with fail
  go_ret
  exact ⟨by simp, F4.out⟩

set_option maxHeartbeats 1000000 in
theorem refuses_yes_at (w : World) (op : Int)  (r : Nat → Int) (hm : mineB (1 + op % 32) = true)  :
    Calls Try.prog 6 #[.int .i64 op, .int .i64 0, .agg (regA r)] w fun e w' => e = .returned (.bool true) ∧ Fr Nob w w' := by
  have hr := fun W => alike_round W op 32 (by omega) (by omega)
  obtain ⟨hq0, hq1⟩ : 0 ≤ op % 32 ∧ op % 32 < 32 := ⟨Int.emod_nonneg _ (by omega), Int.emod_lt_of_pos _ (by omega)⟩
  generalize op % 32 = q at *
  have h1 : 1 ≤ 1 + q := by omega
  have h2 : 1 + q ≤ 32 := by omega
  have hmi := fun W => mine_any W (1 + q)
  have c1 := fun (W : World) (b : Nat) (T : TypeId) (h : W.heap[b]? = some (.cells (oneA (1 + q)) T (0, 0))) => do_any W _ _ 1 r 1 rfl (one_rd h) one_ok 0
  have c2 := fun (W : World) (b : Nat) (T : TypeId) (h : W.heap[b]? = some (.cells (twoA (1 + q)) T (0, 0))) => do_any W _ _ 2 r 1 rfl (two_rd h) two_ok 0
  have c3 := fun (W : World) (b : Nat) (T : TypeId) (h : W.heap[b]? = some (.cells (oneA (1 + q)) T (0, 0))) => do_any W _ _ 1 r 1 rfl (one_rd h) one_ok 0
  rw [two_bad] at c2
  rw [hm] at hmi
  obtain ⟨⟨pa, ra, ta, xa, ea⟩, hx⟩ := one_yes r h1 h2 hm
  rw [hx] at c1
  rw [hx] at c3
  have c1 : ∀ (W : World) (b : Nat) (T : TypeId), W.heap[b]? = some (.cells (oneA (1 + q)) T (0, 0)) → Calls Try.prog 9 #[.slice (some ⟨b, 0, none⟩) 1 1, .int .i64 0, .agg (regA r), .int .i64 1] W fun e w' => e = .returned (.tuple #[.agg (outA pa ra ta xa ea), .int .i64 0]) ∧ Fr Nob W w' := c1
  have c2 : ∀ (W : World) (b : Nat) (T : TypeId), W.heap[b]? = some (.cells (twoA (1 + q)) T (0, 0)) → Calls Try.prog 9 #[.slice (some ⟨b, 0, none⟩) 2 2, .int .i64 0, .agg (regA r), .int .i64 1] W fun e w' => e = .returned (.tuple #[.agg (outZ), .int .i64 1]) ∧ Fr Nob W w' := c2
  have c3 : ∀ (W : World) (b : Nat) (T : TypeId), W.heap[b]? = some (.cells (oneA (1 + q)) T (0, 0)) → Calls Try.prog 9 #[.slice (some ⟨b, 0, none⟩) 1 1, .int .i64 0, .agg (regA r), .int .i64 1] W fun e w' => e = .returned (.tuple #[.agg (outA pa ra ta xa ea), .int .i64 0]) ∧ Fr Nob W w' := c3
  
  clear hx hm
  have haw := fun W => awake18 W
  have heqZ : ∀ W : World, _ := fun W => run_equalIn_arr (P := Try.prog) W 9997 23 3 8 [0, 0, 0, 0, 0, 0, 0, 0] Try.underlying23 Try.underlying3 (by kernel_rfl) rfl
  have heqR : ∀ W : World, _ := fun W => run_equalIn_arr (P := Try.prog) W 9997 23 3 8 [r 0, r 1, r 2, r 3, r 4, r 5, r 6, r 7] Try.underlying23 Try.underlying3 (by kernel_rfl) rfl
  have HZ := Lib.hid heqZ; have HR := Lib.hid heqR
  have hb := blk_alloc_eq (w := w) (.cells (regA r) 23) rfl
  have HB := Lib.hid hb; have Hr := Lib.hid hr; have Hmi := Lib.hid hmi; have C1 := Lib.hid c1; have C2 := Lib.hid c2; have C3 := Lib.hid c3; have Haw := Lib.hid haw
  obtain ⟨r0, r1, r2, r3, r4, r5, r6, r7⟩ := reg_cells hb
  clear hr hmi c1 c2 c3 hb haw heqZ heqR
  go_enter Try.func6, Try.ntmps6
  go_wp2_with fail
  refine (Hr.out _).mono ?_
  rintro e _ ⟨rfl, rfl⟩
  have y := Lib.hid (((Fr.refl Nob (w.alloc (.cells (regA r) 23))).alloc (.cells (oneA (1 + q)) 39)).blk id HB.out)
  obtain ⟨s0, s1, s2, s3, s4, s5, s6, s7⟩ := reg_cells (((Fr.refl Nob _).alloc (.cells (oneA (1 + q)) 39)).blk id y.out)
  go_wp2_with fail
  clear r0 r1 r2 r3 r4 r5 r6 r7 s0 s1 s2 s3 s4 s5 s6 s7
  have e0 : Fr Nob w (((w.alloc (.cells (regA r) 23)).alloc (.cells (oneA (1 + q)) 39)).alloc (.cells (oneA (1 + q)) 39)) := (((Fr.refl Nob w).alloc _).alloc _).alloc _
  have bo : ((w.alloc (.cells (regA r) 23)).alloc (.cells (oneA (1 + q)) 39)).heap[w.heap.size + 1]? = some (.cells (oneA (1 + q)) 39 (0, 0)) := blk_alloc_eq _ (by simp)
  refine (C1.out _ (w.heap.size + 1 + 1) _ (blk_alloc_eq _ (by first | rfl | simp))).mono ?_
  rintro e w1 ⟨rfl, hf1⟩
  have F1 := Lib.hid (e0.trans0 hf1)
  have B1 := Lib.hid (hf1.blk id (((Fr.refl Nob _).alloc (.cells (oneA (1 + q)) 39)).blk id y.out))
  have O1 := Lib.hid (hf1.blk id (((Fr.refl Nob _).alloc (.cells (oneA (1 + q)) 39)).blk id bo))
  clear hf1 e0 bo
  have e1 := (Fr.refl Nob w1).alloc (.cells (outA pa ra ta xa ea) 28)
  obtain ⟨o0, o1, o2, o3, o4, o5⟩ := one_cells (e1.blk id O1.out)
  obtain ⟨r0, r1, r2, r3, r4, r5, r6, r7⟩ := reg_cells ((e1.alloc (.cells (twoA (1 + q)) 39)).blk id B1.out)
  have E1 := Lib.hid e1
  clear e1
  go_wp2_with fail
  clear r0 r1 r2 r3 r4 r5 r6 r7 o0 o1 o2 o3 o4 o5
  refine (C2.out _ (w1.heap.size + 1) _ (blk_alloc_eq _ (by first | rfl | simp))).mono ?_
  rintro e w2 ⟨rfl, hf2⟩
  have g2 : Fr Nob (w1.alloc (.cells (outA pa ra ta xa ea) 28)) w2 := ((Fr.refl Nob _).alloc _).trans0 hf2
  have F2 := Lib.hid ((F1.out.alloc _).trans0 g2)
  have B2 := Lib.hid (g2.blk id (E1.out.blk id B1.out)); have O2 := Lib.hid (g2.blk id (E1.out.blk id O1.out))
  have A2 := Lib.hid (g2.blk id (blk_alloc_eq (w := w1) (.cells (outA pa ra ta xa ea) 28) rfl))
  clear hf2 g2
  have e2 := (Fr.refl Nob w2).alloc (.cells outZ 28)
  obtain ⟨o0, o1, o2, o3, o4, o5⟩ := one_cells (e2.blk id O2.out)
  obtain ⟨r0, r1, r2, r3, r4, r5, r6, r7⟩ := reg_cells ((e2.alloc (.cells (oneA (1 + q)) 39)).blk id B2.out)
  have E2 := Lib.hid e2
  clear e2
  go_wp2_with fail
  clear r0 r1 r2 r3 r4 r5 r6 r7 o0 o1 o2 o3 o4 o5
  refine (C3.out _ (w2.heap.size + 1) _ (blk_alloc_eq _ (by first | rfl | simp))).mono ?_
  rintro e w3 ⟨rfl, hf3⟩
  have g3 : Fr Nob (w2.alloc (.cells outZ 28)) w3 := ((Fr.refl Nob _).alloc _).trans0 hf3
  have F3 := Lib.hid ((F2.out.alloc _).trans0 g3)
  have B3 := g3.blk id (E2.out.blk id B2.out); have A3 := g3.blk id (E2.out.blk id A2.out)
  have Z3 := g3.blk id (blk_alloc_eq (w := w2) (.cells outZ 28) rfl)
  clear hf3 g3
  have e3 := (Fr.refl Nob w3).alloc (.cells (outA pa ra ta xa ea) 28)
  obtain ⟨r0, r1, r2, r3, r4, r5, r6, r7⟩ := reg_cells (e3.blk id B3)
  obtain ⟨z0, z1, z2, z3, z4, z5, z6, z7, z8, z9, z10, z11⟩ := row_cellsZ (e3.blk id Z3)

  clear e3 B3 A3 Z3
  have eqZ := HZ.out; have eqR := HR.out
  simp only [ints, List.map] at eqZ eqR
  go_wp2_with fail
  refine (Hmi.out _).mono ?_
  rintro e _ ⟨rfl, rfl⟩
  go_wp2_with fail
  refine (Haw.out _).mono ?_
  rintro e w4 ⟨rfl, hf4⟩
  have F4 := Lib.hid ((F3.out.alloc _).trans0 hf4)
  clear hf4
  go_wp2_with fail
  go_ret
  exact ⟨by simp, F4.out⟩

set_option maxHeartbeats 1000000 in
theorem refuses_yes_end (w : World) (op : Int)  (r : Nat → Int) (hm : mineB (1 + op % 32) = true)  :
    Calls Try.prog 6 #[.int .i64 op, .int .i64 1, .agg (regA r)] w fun e w' => e = .returned (.bool true) ∧ Fr Nob w w' := by
  have hr := fun W => alike_round W op 32 (by omega) (by omega)
  obtain ⟨hq0, hq1⟩ : 0 ≤ op % 32 ∧ op % 32 < 32 := ⟨Int.emod_nonneg _ (by omega), Int.emod_lt_of_pos _ (by omega)⟩
  generalize op % 32 = q at *
  have h1 : 1 ≤ 1 + q := by omega
  have h2 : 1 + q ≤ 32 := by omega
  have hmi := fun W => mine_any W (1 + q)
  have c1 := fun (W : World) (b : Nat) (T : TypeId) (h : W.heap[b]? = some (.cells (oneA (1 + q)) T (0, 0))) => do_any W _ _ 1 r 1 rfl (one_rd h) one_ok 0
  have c2 := fun (W : World) (b : Nat) (T : TypeId) (h : W.heap[b]? = some (.cells (twoA (1 + q)) T (0, 0))) => do_any W _ _ 2 r 1 rfl (two_rd h) two_ok 0
  have c3 := fun (W : World) (b : Nat) (T : TypeId) (h : W.heap[b]? = some (.cells (oneA (1 + q)) T (0, 0))) => do_any W _ _ 1 r 1 rfl (one_rd h) one_ok 1
  rw [two_bad] at c2
  rw [hm] at hmi
  obtain ⟨⟨pa, ra, ta, xa, ea⟩, hx⟩ := one_yes r h1 h2 hm
  rw [hx] at c1
  rw [one_end r h1 h2] at c3
  have c1 : ∀ (W : World) (b : Nat) (T : TypeId), W.heap[b]? = some (.cells (oneA (1 + q)) T (0, 0)) → Calls Try.prog 9 #[.slice (some ⟨b, 0, none⟩) 1 1, .int .i64 0, .agg (regA r), .int .i64 1] W fun e w' => e = .returned (.tuple #[.agg (outA pa ra ta xa ea), .int .i64 0]) ∧ Fr Nob W w' := c1
  have c2 : ∀ (W : World) (b : Nat) (T : TypeId), W.heap[b]? = some (.cells (twoA (1 + q)) T (0, 0)) → Calls Try.prog 9 #[.slice (some ⟨b, 0, none⟩) 2 2, .int .i64 0, .agg (regA r), .int .i64 1] W fun e w' => e = .returned (.tuple #[.agg (outZ), .int .i64 1]) ∧ Fr Nob W w' := c2
  have c3 : ∀ (W : World) (b : Nat) (T : TypeId), W.heap[b]? = some (.cells (oneA (1 + q)) T (0, 0)) → Calls Try.prog 9 #[.slice (some ⟨b, 0, none⟩) 1 1, .int .i64 1, .agg (regA r), .int .i64 1] W fun e w' => e = .returned (.tuple #[.agg (outA 1 r false 0 true), .int .i64 0]) ∧ Fr Nob W w' := c3
  
  clear hx hm
  have haw := fun W => awake18 W
  have heqZ : ∀ W : World, _ := fun W => run_equalIn_arr (P := Try.prog) W 9997 23 3 8 [0, 0, 0, 0, 0, 0, 0, 0] Try.underlying23 Try.underlying3 (by kernel_rfl) rfl
  have heqR : ∀ W : World, _ := fun W => run_equalIn_arr (P := Try.prog) W 9997 23 3 8 [r 0, r 1, r 2, r 3, r 4, r 5, r 6, r 7] Try.underlying23 Try.underlying3 (by kernel_rfl) rfl
  have HZ := Lib.hid heqZ; have HR := Lib.hid heqR
  have hb := blk_alloc_eq (w := w) (.cells (regA r) 23) rfl
  have HB := Lib.hid hb; have Hr := Lib.hid hr; have Hmi := Lib.hid hmi; have C1 := Lib.hid c1; have C2 := Lib.hid c2; have C3 := Lib.hid c3; have Haw := Lib.hid haw
  obtain ⟨r0, r1, r2, r3, r4, r5, r6, r7⟩ := reg_cells hb
  clear hr hmi c1 c2 c3 hb haw heqZ heqR
  go_enter Try.func6, Try.ntmps6
  go_wp2_with fail
  refine (Hr.out _).mono ?_
  rintro e _ ⟨rfl, rfl⟩
  have y := Lib.hid (((Fr.refl Nob (w.alloc (.cells (regA r) 23))).alloc (.cells (oneA (1 + q)) 39)).blk id HB.out)
  obtain ⟨s0, s1, s2, s3, s4, s5, s6, s7⟩ := reg_cells (((Fr.refl Nob _).alloc (.cells (oneA (1 + q)) 39)).blk id y.out)
  go_wp2_with fail
  clear r0 r1 r2 r3 r4 r5 r6 r7 s0 s1 s2 s3 s4 s5 s6 s7
  have e0 : Fr Nob w (((w.alloc (.cells (regA r) 23)).alloc (.cells (oneA (1 + q)) 39)).alloc (.cells (oneA (1 + q)) 39)) := (((Fr.refl Nob w).alloc _).alloc _).alloc _
  have bo : ((w.alloc (.cells (regA r) 23)).alloc (.cells (oneA (1 + q)) 39)).heap[w.heap.size + 1]? = some (.cells (oneA (1 + q)) 39 (0, 0)) := blk_alloc_eq _ (by simp)
  refine (C1.out _ (w.heap.size + 1 + 1) _ (blk_alloc_eq _ (by first | rfl | simp))).mono ?_
  rintro e w1 ⟨rfl, hf1⟩
  have F1 := Lib.hid (e0.trans0 hf1)
  have B1 := Lib.hid (hf1.blk id (((Fr.refl Nob _).alloc (.cells (oneA (1 + q)) 39)).blk id y.out))
  have O1 := Lib.hid (hf1.blk id (((Fr.refl Nob _).alloc (.cells (oneA (1 + q)) 39)).blk id bo))
  clear hf1 e0 bo
  have e1 := (Fr.refl Nob w1).alloc (.cells (outA pa ra ta xa ea) 28)
  obtain ⟨o0, o1, o2, o3, o4, o5⟩ := one_cells (e1.blk id O1.out)
  obtain ⟨r0, r1, r2, r3, r4, r5, r6, r7⟩ := reg_cells ((e1.alloc (.cells (twoA (1 + q)) 39)).blk id B1.out)
  have E1 := Lib.hid e1
  clear e1
  go_wp2_with fail
  clear r0 r1 r2 r3 r4 r5 r6 r7 o0 o1 o2 o3 o4 o5
  refine (C2.out _ (w1.heap.size + 1) _ (blk_alloc_eq _ (by first | rfl | simp))).mono ?_
  rintro e w2 ⟨rfl, hf2⟩
  have g2 : Fr Nob (w1.alloc (.cells (outA pa ra ta xa ea) 28)) w2 := ((Fr.refl Nob _).alloc _).trans0 hf2
  have F2 := Lib.hid ((F1.out.alloc _).trans0 g2)
  have B2 := Lib.hid (g2.blk id (E1.out.blk id B1.out)); have O2 := Lib.hid (g2.blk id (E1.out.blk id O1.out))
  have A2 := Lib.hid (g2.blk id (blk_alloc_eq (w := w1) (.cells (outA pa ra ta xa ea) 28) rfl))
  clear hf2 g2
  have e2 := (Fr.refl Nob w2).alloc (.cells outZ 28)
  obtain ⟨o0, o1, o2, o3, o4, o5⟩ := one_cells (e2.blk id O2.out)
  obtain ⟨r0, r1, r2, r3, r4, r5, r6, r7⟩ := reg_cells ((e2.alloc (.cells (oneA (1 + q)) 39)).blk id B2.out)
  have E2 := Lib.hid e2
  clear e2
  go_wp2_with fail
  clear r0 r1 r2 r3 r4 r5 r6 r7 o0 o1 o2 o3 o4 o5
  refine (C3.out _ (w2.heap.size + 1) _ (blk_alloc_eq _ (by first | rfl | simp))).mono ?_
  rintro e w3 ⟨rfl, hf3⟩
  have g3 : Fr Nob (w2.alloc (.cells outZ 28)) w3 := ((Fr.refl Nob _).alloc _).trans0 hf3
  have F3 := Lib.hid ((F2.out.alloc _).trans0 g3)
  have B3 := g3.blk id (E2.out.blk id B2.out); have A3 := g3.blk id (E2.out.blk id A2.out)
  have Z3 := g3.blk id (blk_alloc_eq (w := w2) (.cells outZ 28) rfl)
  clear hf3 g3
  have e3 := (Fr.refl Nob w3).alloc (.cells (outA 1 r false 0 true) 28)
  obtain ⟨r0, r1, r2, r3, r4, r5, r6, r7⟩ := reg_cells (e3.blk id B3)
  obtain ⟨z0, z1, z2, z3, z4, z5, z6, z7, z8, z9, z10, z11⟩ := row_cellsZ (e3.blk id Z3)

  clear e3 B3 A3 Z3
  have eqZ := HZ.out; have eqR := HR.out
  simp only [ints, List.map] at eqZ eqR
  go_wp2_with fail
  refine (Hmi.out _).mono ?_
  rintro e _ ⟨rfl, rfl⟩
  go_wp2_with fail
  refine (Haw.out _).mono ?_
  rintro e w4 ⟨rfl, hf4⟩
  have F4 := Lib.hid ((F3.out.alloc _).trans0 hf4)
  clear hf4
  go_wp2_with fail
  go_ret
  exact ⟨by simp, F4.out⟩

theorem localRefuses_walk (a0 a1 : Int) (v2 : Value) (r : Nat → Int) (w : World) (w0 : (Lit.int .i64 a0).wf = true) (w1 : (Lit.int .i64 a1).wf = true) (g2 : IsArr8 w v2 r) :
    Calls Try.prog 6 #[.int .i64 a0, .int .i64 a1, v2] w fun e w' => e = .returned (.bool true) ∧ Below w.heap.size w w' := by
  obtain ⟨rfl, _⟩ := g2
  have key : Calls Try.prog 6 #[.int .i64 a0, .int .i64 a1, .agg (regA r)] w fun e w' => e = .returned (.bool true) ∧ Fr Nob w w' := by
    have hc : a1 < 0 ∨ 1 < a1 ∨ a1 = 0 ∨ a1 = 1 := by omega
    cases hm : mineB (1 + a0 % 32) with
    | false =>
      rcases hc with h | h | rfl | rfl
      · exact refuses_not_lo w a0 a1 r hm h
      · exact refuses_not_hi w a0 a1 r hm h
      · exact refuses_not_at w a0 r hm
      · exact refuses_not_end w a0 r hm
    | true =>
      rcases hc with h | h | rfl | rfl
      · exact refuses_yes_lo w a0 a1 r hm h
      · exact refuses_yes_hi w a0 a1 r hm h
      · exact refuses_yes_at w a0 r hm
      · exact refuses_yes_end w a0 r hm
  exact key.mono fun e w' ⟨h1, h2⟩ => ⟨h1, h2.below (Nat.le_refl _) fun _ q => q.elim⟩

/-! The row: out of the walk above. -/
namespace localRefuses
open Go.ChangeShapes Go.WideShapes Go.ChangeAt Go.RowKit
open Go.ChangeMaps (open_string shut_string)
theorem own : ownKnob Try.prog.godebug = none := by kernel_rfl
theorem laidOut : laidOutB Try.prog = true := by kernel_rfl
set_option maxRecDepth 100000 in
theorem lifted (os : Os) (started : os.Started) (H : Type) (enc : TypeId × Value → H) :
    ReturnsInHanded {} Try.checked os 6 .any (Rows.localRefusesSpec.pre6 enc Try.prog Try.f6 Rows.localRefusesRow.domain false) (Rows.localRefusesSpec.post enc Try.prog Try.f6 false true false false) := by
  refine returnsInHanded_of_change (C := Try.checked) own started (by kernel_rfl) Try.func6
    (ChangeSpec.witness6 (enc := enc) (C := Try.checked) false ⟨#[], #[.int .i64 0, .int .i64 0, .agg #[.int .i64 0, .int .i64 0, .int .i64 0, .int .i64 0, .int .i64 0, .int .i64 0, .int .i64 0, .int .i64 0]], []⟩ 8 (by kernel_rfl) (by kernel_rfl) (by kernel_rfl) (by kernel_rfl)) ?_
  intro W base args ds gs before hval0 hW hcnd _
  have hval : ∀ (j : Nat) t v, Try.f6.params[j]? = some t → args[j]? = some v → Value.okWide Try.prog W .any base t v := hval0
  have hW' := hW
  obtain ⟨p, q, hA0, hV, rfl, hfz, hnd⟩ := hW
  have hA : DataW.TrodAll enc Try.prog W 0 (fun _ => true) true Try.f6.params.toList args.toList ds p := hA0
  rw [Try.params6] at hA hval
  obtain ⟨v0, vs0, d0, ds0, p0, q0, hargs, rfl, rfl, h0, r0⟩ := trodAll_cons hA
  obtain ⟨v1, vs1, d1, ds1, p1, q1, rfl, rfl, rfl, h1, r1⟩ := trodAll_cons r0
  obtain ⟨v2, vs2, d2, ds2, p2, q2, rfl, rfl, rfl, h2, r2⟩ := trodAll_cons r1
  obtain ⟨rfl, rfl, rfl⟩ := trodAll_nil r2
  obtain rfl : args = #[v0, v1, v2] := by cases args; simp_all
  obtain ⟨rfl, rfl⟩ := trodVars_none hV
  obtain ⟨a0, rfl, rfl, rfl, w0⟩ := open_int Try.underlying3 (hval 0 3 v0 rfl rfl) h0
  obtain ⟨a1, rfl, rfl, rfl, w1⟩ := open_int Try.underlying3 (hval 1 3 v1 rfl rfl) h1
  have k2 := h2
  have lt2 : ∀ x ∈ p2, x.block < W.heap.size := by obtain ⟨m, hm⟩ := k2; exact DataW.trod_lt m _ _ _ hm
  obtain ⟨x2, g2⟩ := opn_arr8 (hval 2 23 v2 rfl rfl) h2
  clear hA0 hval0
  refine (localRefuses_walk a0 a1 v2 x2 W w0 w1 g2).mono fun e W' ⟨he, bel⟩ => ?_
  subst he
  exact ⟨_, rfl, _, _, _, [], _, [], hW', trodAll_mk1 (shut_bool Try.underlying4 _), (trodAll_cons_mk (shut_int Try.underlying3 w0) (trodAll_cons_mk (shut_int Try.underlying3 w1) (trodAll_cons_mk (Below.trod laidOut (by kernel_rfl) (of_decide_eq_true (by kernel_rfl)) k2 bel lt2) trodAll_mk0))), rfl, bel.frame _, fun h => by cases h⟩
theorem over : Rows.localRefusesRow.holds Try.pinned (OpenSpec.ofChange Rows.localRefusesSpec) :=
  OpenClaim.holds_of_wide 6 Try.f6 rfl rfl rfl rfl rfl rfl rfl ⟨rfl, rfl, rfl, rfl, rfl⟩ rfl rfl rfl rfl rfl (by kernel_rfl) Try.func6 (by kernel_rfl)
    (of_decide_eq_true (by kernel_rfl)) (by unfold Func.isWrapper; first | (rw [if_pos (by decide +kernel)]; kernel_rfl) | (rw [if_neg (by decide +kernel)]; exact ⟨rfl, rfl⟩))
    (fun os started H enc _ => lifted os started H enc)
end localRefuses
/-- THE STATEMENT. -/
theorem localRefuses_holds : Rows.LocalRefusesSaid := localRefuses.over
#print axioms localRefuses_holds
end Go.Proofs.Ytgfigahamnokhaa
