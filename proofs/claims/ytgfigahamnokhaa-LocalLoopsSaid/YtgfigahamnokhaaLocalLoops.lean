/- LocalLoops: a loop that counts down. -/
import Derived.Test.YtgfigahamnokhaaLocalAwake
import Derived.Test.YtgfigahamnokhaaOpen
set_option linter.unusedVariables false
set_option linter.unusedSimpArgs false
namespace Go.Proofs.Ytgfigahamnokhaa
open Go.RowKit
set_option maxRecDepth 100000

abbrev loopP (N m : Int) : List Ins := [plainI 1 0 N 0, plainI 5 0 5 0, plainI 6 0 0 0, plainI 3 0 m 0, plainI 4 1 0 0]
abbrev loopA (N m : Int) : Array Value := #[.int .i64 1, .int .i64 0, .int .i64 N, .int .i64 0, .slice none 0 0, .bool false, .int .i64 5, .int .i64 0, .int .i64 5, .int .i64 0, .slice none 0 0, .bool false, .int .i64 6, .int .i64 0, .int .i64 0, .int .i64 0, .slice none 0 0, .bool false, .int .i64 3, .int .i64 0, .int .i64 m, .int .i64 0, .slice none 0 0, .bool false, .int .i64 4, .int .i64 1, .int .i64 0, .int .i64 0, .slice none 0 0, .bool false]
abbrev rowA (x : Int) : Array Value := #[.int .i64 x, .int .i64 0, .int .i64 0, .int .i64 0, .int .i64 0, .int .i64 0, .int .i64 0, .int .i64 0]
abbrev resA (pc x : Int) (t : Bool) (v : Int) (e : Bool) : Array Value := #[.int .i64 pc, .int .i64 x, .int .i64 0, .int .i64 0, .int .i64 0, .int .i64 0, .int .i64 0, .int .i64 0, .int .i64 0, .bool t, .int .i64 v, .bool e]
abbrev regX (x : Int) : Nat → Int := fun j => if j = 0 then x else 0
theorem loop_ok (w : World) (N m : Int) : ∀ i ∈ loopP N m, InsOk w i := fun i hi => by
  simp [loopP] at hi
  rcases hi with rfl | rfl | rfl | rfl | rfl <;> exact plain_ok _ _ _ _ _
section
variable (W : World) (g : Nat) (T : TypeId) (N m x : Int) (h : W.heap[g]? = some (.cells (loopA N m) T (0, 0)))
include h
theorem lp (pc : Int) : Calls Try.prog 9 #[.slice (some ⟨g, 0, none⟩) 5 5, .int .i64 pc, .agg (rowA x), .int .i64 0] W fun e w' => e = .returned (resV (doR (loopP N m) pc (regX x) 0)) ∧ Fr Nob W w' :=
  do_any W _ _ 5 (regX x) 0 rfl (rd_blk h rfl (Nat.le_refl _) (by simp [maxLen])) (loop_ok W N m) pc
theorem lp0 : Calls Try.prog 9 #[.slice (some ⟨g, 0, none⟩) 5 5, .int .i64 0, .agg (rowA x), .int .i64 0] W fun e w' => e = .returned (.tuple #[.agg (resA 1 N false 0 false), .int .i64 0]) ∧ Fr Nob W w' := lp W g T N m x h 0
theorem lp1z : Calls Try.prog 9 #[.slice (some ⟨g, 0, none⟩) 5 5, .int .i64 1, .agg (rowA 0), .int .i64 0] W fun e w' => e = .returned (.tuple #[.agg (resA 5 0 false 0 false), .int .i64 0]) ∧ Fr Nob W w' := lp W g T N m 0 h 1
theorem lp1 (hx : x ≠ 0) : Calls Try.prog 9 #[.slice (some ⟨g, 0, none⟩) 5 5, .int .i64 1, .agg (rowA x), .int .i64 0] W fun e w' => e = .returned (.tuple #[.agg (resA 2 x false 0 false), .int .i64 0]) ∧ Fr Nob W w' := by
  have e : doR (loopP N m) 1 (regX x) 0 = ((if x = 0 then 5 else 2, regX x, false, 0, false), 0) := rfl
  have := lp W g T N m x h 1
  rw [e, if_neg hx] at this
  exact this
theorem lp2 : Calls Try.prog 9 #[.slice (some ⟨g, 0, none⟩) 5 5, .int .i64 2, .agg (rowA x), .int .i64 0] W fun e w' => e = .returned (.tuple #[.agg (resA 3 x true x false), .int .i64 0]) ∧ Fr Nob W w' := lp W g T N m x h 2
theorem lp3 : Calls Try.prog 9 #[.slice (some ⟨g, 0, none⟩) 5 5, .int .i64 3, .agg (rowA x), .int .i64 0] W fun e w' => e = .returned (.tuple #[.agg (resA 4 (addT x m) false 0 false), .int .i64 0]) ∧ Fr Nob W w' := lp W g T N m x h 3
theorem lp4 : Calls Try.prog 9 #[.slice (some ⟨g, 0, none⟩) 5 5, .int .i64 4, .agg (rowA x), .int .i64 0] W fun e w' => e = .returned (.tuple #[.agg (resA 1 x false 0 false), .int .i64 0]) ∧ Fr Nob W w' := lp W g T N m x h 4
theorem lp5 : Calls Try.prog 9 #[.slice (some ⟨g, 0, none⟩) 5 5, .int .i64 5, .agg (rowA x), .int .i64 0] W fun e w' => e = .returned (.tuple #[.agg (resA 5 x false 0 true), .int .i64 0]) ∧ Fr Nob W w' := lp W g T N m x h 5
end
theorem row8_cells {w : World} {b : Nat} {x : Int} {T : TypeId} (h : w.heap[b]? = some (.cells (rowA x) T (0, 0))) : w.cell? ⟨b, 0, none⟩ = some (.int .i64 x) ∧ w.cell? ⟨b, 1, none⟩ = some (.int .i64 0) ∧ w.cell? ⟨b, 2, none⟩ = some (.int .i64 0) ∧ w.cell? ⟨b, 3, none⟩ = some (.int .i64 0) ∧ w.cell? ⟨b, 4, none⟩ = some (.int .i64 0) ∧ w.cell? ⟨b, 5, none⟩ = some (.int .i64 0) ∧ w.cell? ⟨b, 6, none⟩ = some (.int .i64 0) ∧ w.cell? ⟨b, 7, none⟩ = some (.int .i64 0) :=
  ⟨blk_cell h 0 rfl, blk_cell h 1 rfl, blk_cell h 2 rfl, blk_cell h 3 rfl, blk_cell h 4 rfl, blk_cell h 5 rfl, blk_cell h 6 rfl, blk_cell h 7 rfl⟩
theorem row8_froz {w : World} {b : Nat} {x : Int} {T : TypeId} (h : w.heap[b]? = some (.cells (rowA x) T (0, 0))) : w.frozen? ⟨b, 0, none⟩ = false ∧ w.frozen? ⟨b, 1, none⟩ = false ∧ w.frozen? ⟨b, 2, none⟩ = false ∧ w.frozen? ⟨b, 3, none⟩ = false ∧ w.frozen? ⟨b, 4, none⟩ = false ∧ w.frozen? ⟨b, 5, none⟩ = false ∧ w.frozen? ⟨b, 6, none⟩ = false ∧ w.frozen? ⟨b, 7, none⟩ = false :=
  ⟨blk_froz h 0, blk_froz h 1, blk_froz h 2, blk_froz h 3, blk_froz h 4, blk_froz h 5, blk_froz h 6, blk_froz h 7⟩
/-- Where the loop stands before a round. -/
def StL (n b i pc t : Nat) (x : Int) : Prop :=
  (i = 0 ∧ pc = 0 ∧ t = 0 ∧ x = 0) ∨ (∃ j, j ≤ n ∧ i = 1 + 4 * j ∧ pc = 1 ∧ t = j ∧ x = ((n : Int) - j) * b) ∨ (∃ j, j < n ∧ i = 2 + 4 * j ∧ pc = 2 ∧ t = j ∧ x = ((n : Int) - j) * b) ∨
  (∃ j, j < n ∧ i = 3 + 4 * j ∧ pc = 3 ∧ t = j + 1 ∧ x = ((n : Int) - j) * b) ∨ (∃ j, j < n ∧ i = 4 + 4 * j ∧ pc = 4 ∧ t = j + 1 ∧ x = ((n : Int) - (j + 1)) * b) ∨ (i = 2 + 4 * n ∧ pc = 5 ∧ t = n ∧ x = 0)
theorem prod_bd {n b j : Nat} (hn : n ≤ 50) (hb : b ≤ 5) (hj : j ≤ n) : 0 ≤ ((n : Int) - j) * b ∧ ((n : Int) - j) * b ≤ 250 := by
  obtain ⟨d, hd⟩ : ∃ d : Nat, (n : Int) - j = d := ⟨n - j, by omega⟩
  rw [hd]
  have : d * b ≤ 50 * 5 := Nat.mul_le_mul (by omega) hb
  exact ⟨by exact_mod_cast Nat.zero_le _, by exact_mod_cast this⟩
theorem prod_ne {n b j : Nat} (hb : 1 ≤ b) (hj : j < n) : ((n : Int) - j) * b ≠ 0 := by
  intro h
  rcases Int.mul_eq_zero.1 h with h | h <;> omega

abbrev put8W (w : World) (b : Nat) (y : Int) : World := ((((((((w.setCell ⟨b, 0, none⟩ (.int .i64 y)).setCell ⟨b, 1, none⟩ (.int .i64 0)).setCell ⟨b, 2, none⟩ (.int .i64 0)).setCell ⟨b, 3, none⟩ (.int .i64 0)).setCell ⟨b, 4, none⟩ (.int .i64 0)).setCell ⟨b, 5, none⟩ (.int .i64 0)).setCell ⟨b, 6, none⟩ (.int .i64 0)).setCell ⟨b, 7, none⟩ (.int .i64 0)).drew
theorem put8 {w : World} {b : Nat} {x : Int} {T : TypeId} (h : w.heap[b]? = some (.cells (rowA x) T (0, 0))) (y : Int) : (put8W w b y).heap[b]? = some (.cells (rowA y) T (0, 0)) := by
  have h0 := blk_set h 0 (.int .i64 y)
  have h1 := blk_set h0 1 (.int .i64 0)
  have h2 := blk_set h1 2 (.int .i64 0)
  have h3 := blk_set h2 3 (.int .i64 0)
  have h4 := blk_set h3 4 (.int .i64 0)
  have h5 := blk_set h4 5 (.int .i64 0)
  have h6 := blk_set h5 6 (.int .i64 0)
  have h7 := blk_set h6 7 (.int .i64 0)
  rw [blk_drew, h7]
  simp
theorem put8F (w : World) (b : Nat) (y : Int) : Fr (fun k => k = b) w (put8W w b y) :=
  (((((((((Fr.refl (fun k => k = b) w).setCell (.inl rfl) _).setCell (.inl rfl) _).setCell (.inl rfl) _).setCell (.inl rfl) _).setCell (.inl rfl) _).setCell (.inl rfl) _).setCell (.inl rfl) _).setCell (.inl rfl) _).drew
theorem add_back {n b j : Nat} (hn : n ≤ 50) (hb1 : 1 ≤ b) (hb5 : b ≤ 5) (hj : j < n) : addT (((n : Int) - j) * b) (-(b : Int)) = ((n : Int) - (j + 1)) * b := by
  have h1 := prod_bd hn hb5 (Nat.le_of_lt hj)
  have h2 : ((n : Int) - (j + 1)) * b = ((n : Int) - j) * b - b := by
    rw [show (n : Int) - (j + 1) = ((n : Int) - j) - 1 by omega, Int.sub_mul (_ - _), Int.one_mul]
  rw [h2]
  generalize ((n : Int) - j) * b = X at *
  unfold addT heldT
  omega

set_option maxHeartbeats 40000000 in
theorem loops_main (w : World) (n b : Nat) (hn : n ≤ 50) (hb1 : 1 ≤ b) (hb5 : b ≤ 5) :
    Calls Try.prog 4 #[.int .i64 n, .int .i64 b] w fun e w' => e = .returned (.bool true) ∧ Fr Nob w w' := by
  have hnb := prod_bd (j := 0) hn hb5 (Nat.zero_le _)
  simp only [Int.natCast_zero, Int.sub_zero] at hnb
  have haw := fun W => awake18 W
  have Haw := Lib.hid haw
  clear haw
  have d0 : decide ((n : Int) < 0) = false := decide_eq_false (by omega)
  have d1 : decide (50 < (n : Int)) = false := decide_eq_false (by omega)
  have d1' : decide (50 < n) = false := decide_eq_false (by omega)
  have d2 : decide ((b : Int) < 1) = false := decide_eq_false (by omega)
  have d2' : decide (b < 1) = false := decide_eq_false (by omega)
  have d3 : decide (5 < (b : Int)) = false := decide_eq_false (by omega)
  have d3' : decide (5 < b) = false := decide_eq_false (by omega)
  have hi8 : (Try.prog.info? 23).map (fun i => i.size) = some 8 := by kernel_rfl
  have Hi8 := Lib.hid hi8
  clear hi8
  go_enter Try.func4, Try.ntmps4
  go_wp2_with fail
  go_loopw [6, 8, 9] (fun vp vt vi wr => ∃ (i pc t : Nat) (x : Int), vp = .int .i64 pc ∧ vt = .int .i64 t ∧ vi = .int .i64 i ∧ Hid (StL n b i pc t x) ∧ Fr Nob w wr ∧ Hid (wr.heap[w.heap.size]? = some (.cells (loopA ((n : Int) * b) (-(b : Int))) 39 (0, 0))) ∧ Hid (wr.heap[w.heap.size + 1]? = some (.cells (rowA x) 23 (0, 0)))) (fun vp vt vi _ => 5 * n + 10 - (intOf vi).toNat)
  case atStart => exact ⟨0, 0, 0, 0, rfl, rfl, rfl, Lib.hid (.inl ⟨rfl, rfl, rfl, rfl⟩), ((Fr.refl _ _).alloc _).alloc _, Lib.hid (((Fr.refl Nob _).alloc _).blk id (blk_alloc_eq _ rfl)), Lib.hid (blk_alloc_eq _ (by simp))⟩
  case round =>
    obtain ⟨i, pc, t, x, rfl, rfl, rfl, Hst, hfr, Hp, Hr⟩ := hrel
    have Hfr := Lib.hid hfr
    clear hfr
    have hst := Hst.out
    obtain ⟨r0, r1, r2, r3, r4, r5, r6, r7⟩ := row8_cells Hr.out
    have hlt : i < 5 * n + 10 := by
      rcases hst with ⟨h, _⟩ | ⟨j, _, h, _⟩ | ⟨j, _, h, _⟩ | ⟨j, _, h, _⟩ | ⟨j, _, h, _⟩ | ⟨h, _⟩ <;> omega
    have hlti : (i : Int) < 5 * (n : Int) + 10 := by omega
    have l1 : decide ((i : Int) < 5 * (n : Int) + 10) = true := decide_eq_true hlti
    have l2 : decide (i < 5 * n + 10) = true := decide_eq_true hlt
    clear Hst
    rcases hst with ⟨hi, rfl, rfl, rfl⟩ | ⟨j, hj, hi, rfl, ht, hx⟩ | ⟨j, hj, hi, rfl, ht, hx⟩ | ⟨j, hj, hi, rfl, rfl, hx⟩ | ⟨j, hj, hi, rfl, rfl, hx⟩ | ⟨hi, rfl, rfl, rfl⟩
    · skip
      go_wp2_with fail
      refine (lp0 wr w.heap.size _ _ _ 0 Hp.out).mono ?_
      rintro e w1 ⟨rfl, hf1⟩
      have F1 := Lib.hid (Hfr.out.trans0 hf1)
      have P1 := Lib.hid (hf1.blk id Hp.out)
      have G1 := Lib.hid (((Fr.refl Nob w1).alloc (.cells (resA 1 ((n : Int) * b) false 0 false) 28)).blk id (hf1.blk id Hr.out))
      clear hf1 r0 r1 r2 r3 r4 r5 r6 r7
      obtain ⟨u0, u1, u2, u3, u4, u5, u6, u7⟩ := row8_cells G1.out
      obtain ⟨f0, f1, f2, f3, f4, f5, f6, f7⟩ := row8_froz G1.out
      go_wp2_with fail
      go_region
      have Q1 := Lib.hid (put8F (w1.alloc (.cells (resA 1 ((n : Int) * b) false 0 false) 28)) (w.heap.size + 1) ((n : Int) * b))
      have Q2 := Lib.hid (put8 G1.out ((n : Int) * b))
      clear u0 u1 u2 u3 u4 u5 u6 u7 f0 f1 f2 f3 f4 f5 f6 f7
      go_wp2_with fail
      go_roundw
      case rel => exact ⟨i + 1, 1, 0, (n : Int) * b, rfl, by go_num, by go_num, Lib.hid (.inr (.inl ⟨0, Nat.zero_le _, by omega, rfl, rfl, by simp⟩)), (F1.out.alloc _).trans Q1.out (fun k hk q => by omega), Lib.hid (Q1.out.blk (by omega) (((Fr.refl Nob w1).alloc _).blk id P1.out)), Q2⟩
      case measure => simp [intOf]; omega
    · have ht' := ht.symm
      subst ht'
      have Hx := Lib.hid hx
      clear hx
      by_cases hjn : j = n
      · obtain rfl : x = 0 := by rw [Hx.out, hjn]; simp
        go_wp2_with fail
        refine (lp1z wr w.heap.size _ _ _ Hp.out).mono ?_
        rintro e w1 ⟨rfl, hf1⟩
        have F1 := Lib.hid (Hfr.out.trans0 hf1)
        have P1 := Lib.hid (hf1.blk id Hp.out)
        have G1 := Lib.hid (((Fr.refl Nob w1).alloc (.cells (resA 5 0 false 0 false) 28)).blk id (hf1.blk id Hr.out))
        clear hf1 r0 r1 r2 r3 r4 r5 r6 r7
        obtain ⟨u0, u1, u2, u3, u4, u5, u6, u7⟩ := row8_cells G1.out
        obtain ⟨f0, f1, f2, f3, f4, f5, f6, f7⟩ := row8_froz G1.out
        go_wp2_with fail
        go_region
        have Q1 := Lib.hid (put8F (w1.alloc (.cells (resA 5 0 false 0 false) 28)) (w.heap.size + 1) (0))
        have Q2 := Lib.hid (put8 G1.out (0))
        clear u0 u1 u2 u3 u4 u5 u6 u7 f0 f1 f2 f3 f4 f5 f6 f7
        go_wp2_with fail
        go_roundw
        case rel => exact ⟨i + 1, 5, j, 0, rfl, by go_num, by go_num, Lib.hid (.inr (.inr (.inr (.inr (.inr ⟨by omega, rfl, hjn, rfl⟩))))), (F1.out.alloc _).trans Q1.out (fun k hk q => by omega), Lib.hid (Q1.out.blk (by omega) (((Fr.refl Nob w1).alloc _).blk id P1.out)), Q2⟩
        case measure => simp [intOf]; omega
      · have hjn2 : j < n := by omega
        have hx0 : x ≠ 0 := by rw [Hx.out]; exact prod_ne hb1 hjn2
        have Hx0 := Lib.hid hx0
        clear hx0
        go_wp2_with fail
        refine (lp1 wr w.heap.size _ _ _ x Hp.out Hx0.out).mono ?_
        rintro e w1 ⟨rfl, hf1⟩
        have F1 := Lib.hid (Hfr.out.trans0 hf1)
        have P1 := Lib.hid (hf1.blk id Hp.out)
        have G1 := Lib.hid (((Fr.refl Nob w1).alloc (.cells (resA 2 x false 0 false) 28)).blk id (hf1.blk id Hr.out))
        clear hf1 r0 r1 r2 r3 r4 r5 r6 r7
        obtain ⟨u0, u1, u2, u3, u4, u5, u6, u7⟩ := row8_cells G1.out
        obtain ⟨f0, f1, f2, f3, f4, f5, f6, f7⟩ := row8_froz G1.out
        go_wp2_with fail
        go_region
        have Q1 := Lib.hid (put8F (w1.alloc (.cells (resA 2 x false 0 false) 28)) (w.heap.size + 1) (x))
        have Q2 := Lib.hid (put8 G1.out (x))
        clear u0 u1 u2 u3 u4 u5 u6 u7 f0 f1 f2 f3 f4 f5 f6 f7
        go_wp2_with fail
        go_roundw
        case rel => exact ⟨i + 1, 2, j, x, rfl, by go_num, by go_num, Lib.hid (.inr (.inr (.inl ⟨j, hjn2, by omega, rfl, rfl, Hx.out⟩))), (F1.out.alloc _).trans Q1.out (fun k hk q => by omega), Lib.hid (Q1.out.blk (by omega) (((Fr.refl Nob w1).alloc _).blk id P1.out)), Q2⟩
        case measure => simp [intOf]; omega
    · subst hx
      have hbd := prod_bd hn hb5 (Nat.le_of_lt hj)
      go_wp2_with fail
      refine (lp2 wr w.heap.size _ _ _ _ Hp.out).mono ?_
      rintro e w1 ⟨rfl, hf1⟩
      have F1 := Lib.hid (Hfr.out.trans0 hf1)
      have P1 := Lib.hid (hf1.blk id Hp.out)
      have G1 := Lib.hid (((Fr.refl Nob w1).alloc (.cells (resA 3 (((n : Int) - j) * b) true (((n : Int) - j) * b) false) 28)).blk id (hf1.blk id Hr.out))
      clear hf1 r0 r1 r2 r3 r4 r5 r6 r7
      obtain ⟨u0, u1, u2, u3, u4, u5, u6, u7⟩ := row8_cells G1.out
      obtain ⟨f0, f1, f2, f3, f4, f5, f6, f7⟩ := row8_froz G1.out
      go_wp2_with fail
      go_region
      have Q1 := Lib.hid (put8F (w1.alloc (.cells (resA 3 (((n : Int) - j) * b) true (((n : Int) - j) * b) false) 28)) (w.heap.size + 1) (((n : Int) - j) * b))
      have Q2 := Lib.hid (put8 G1.out (((n : Int) - j) * b))
      clear u0 u1 u2 u3 u4 u5 u6 u7 f0 f1 f2 f3 f4 f5 f6 f7
      go_wp2_with fail
      go_roundw
      case rel => exact ⟨i + 1, 3, j + 1, ((n : Int) - j) * b, rfl, by go_num, by go_num, Lib.hid (.inr (.inr (.inr (.inl ⟨j, hj, by omega, rfl, rfl, rfl⟩)))), (F1.out.alloc _).trans Q1.out (fun k hk q => by omega), Lib.hid (Q1.out.blk (by omega) (((Fr.refl Nob w1).alloc _).blk id P1.out)), Q2⟩
      case measure => simp [intOf]; omega
    · have h3 := lp3 wr w.heap.size _ _ _ x Hp.out
      rw [hx, add_back hn hb1 hb5 hj, ← hx] at h3
      obtain ⟨y, hy⟩ : ∃ y, y = ((n : Int) - (j + 1)) * b := ⟨_, rfl⟩
      rw [← hy] at h3
      have Hy := Lib.hid hy; have H3 := Lib.hid h3
      clear hx hy h3
      go_wp2_with fail
      refine (H3.out).mono ?_
      rintro e w1 ⟨rfl, hf1⟩
      have F1 := Lib.hid (Hfr.out.trans0 hf1)
      have P1 := Lib.hid (hf1.blk id Hp.out)
      have G1 := Lib.hid (((Fr.refl Nob w1).alloc (.cells (resA 4 y false 0 false) 28)).blk id (hf1.blk id Hr.out))
      clear hf1 r0 r1 r2 r3 r4 r5 r6 r7
      obtain ⟨u0, u1, u2, u3, u4, u5, u6, u7⟩ := row8_cells G1.out
      obtain ⟨f0, f1, f2, f3, f4, f5, f6, f7⟩ := row8_froz G1.out
      go_wp2_with fail
      go_region
      have Q1 := Lib.hid (put8F (w1.alloc (.cells (resA 4 y false 0 false) 28)) (w.heap.size + 1) (y))
      have Q2 := Lib.hid (put8 G1.out (y))
      clear u0 u1 u2 u3 u4 u5 u6 u7 f0 f1 f2 f3 f4 f5 f6 f7
      go_wp2_with fail
      go_roundw
      case rel => exact ⟨i + 1, 4, j + 1, y, rfl, by go_num, by go_num, Lib.hid (.inr (.inr (.inr (.inr (.inl ⟨j, hj, by omega, rfl, rfl, Hy.out⟩))))), (F1.out.alloc _).trans Q1.out (fun k hk q => by omega), Lib.hid (Q1.out.blk (by omega) (((Fr.refl Nob w1).alloc _).blk id P1.out)), Q2⟩
      case measure => simp [intOf]; omega
    · have Hx := Lib.hid hx
      clear hx
      go_wp2_with fail
      refine (lp4 wr w.heap.size _ _ _ x Hp.out).mono ?_
      rintro e w1 ⟨rfl, hf1⟩
      have F1 := Lib.hid (Hfr.out.trans0 hf1)
      have P1 := Lib.hid (hf1.blk id Hp.out)
      have G1 := Lib.hid (((Fr.refl Nob w1).alloc (.cells (resA 1 x false 0 false) 28)).blk id (hf1.blk id Hr.out))
      clear hf1 r0 r1 r2 r3 r4 r5 r6 r7
      obtain ⟨u0, u1, u2, u3, u4, u5, u6, u7⟩ := row8_cells G1.out
      obtain ⟨f0, f1, f2, f3, f4, f5, f6, f7⟩ := row8_froz G1.out
      go_wp2_with fail
      go_region
      have Q1 := Lib.hid (put8F (w1.alloc (.cells (resA 1 x false 0 false) 28)) (w.heap.size + 1) (x))
      have Q2 := Lib.hid (put8 G1.out (x))
      clear u0 u1 u2 u3 u4 u5 u6 u7 f0 f1 f2 f3 f4 f5 f6 f7
      go_wp2_with fail
      go_roundw
      case rel => exact ⟨i + 1, 1, j + 1, x, rfl, by go_num, by go_num, Lib.hid (.inr (.inl ⟨j + 1, hj, by omega, rfl, rfl, by rw [Hx.out]; simp⟩)), (F1.out.alloc _).trans Q1.out (fun k hk q => by omega), Lib.hid (Q1.out.blk (by omega) (((Fr.refl Nob w1).alloc _).blk id P1.out)), Q2⟩
      case measure => simp [intOf]; omega
    · go_wp2_with fail
      refine (lp5 wr w.heap.size _ _ _ 0 Hp.out).mono ?_
      rintro e w1 ⟨rfl, hf1⟩
      have F1 := Lib.hid (Hfr.out.trans0 hf1)
      clear hf1 r0 r1 r2 r3 r4 r5 r6 r7
      go_wp2_with fail
      refine (Haw.out _).mono ?_
      rintro e w2 ⟨rfl, hf2⟩
      have F2 := Lib.hid ((F1.out.alloc _).trans0 hf2)
      clear hf2
      go_wp2_with fail
      go_ret
      exact ⟨rfl, F2.out⟩

theorem loops_bad (w : World) (a0 a1 : Int) (h : a0 < 0 ∨ 50 < a0 ∨ a1 < 1 ∨ 5 < a1) :
    Calls Try.prog 4 #[.int .i64 a0, .int .i64 a1] w fun e w' => e = .returned (.bool true) ∧ Fr Nob w w' := by
  have Haw := Lib.hid (fun W => awake18 W)
  by_cases h0 : a0 < 0
  · have d0 : decide (a0 < 0) = true := decide_eq_true h0
    clear h h0
    go_enter Try.func4, Try.ntmps4
    go_wp2_with fail
    refine (Haw.out _).mono ?_
    rintro e w2 ⟨rfl, hf2⟩
    have F2 := Lib.hid hf2
    clear hf2
    go_wp2_with fail
    go_ret
    exact ⟨rfl, F2.out⟩
  · have d0 : decide (a0 < 0) = false := decide_eq_false h0
    by_cases h1 : 50 < a0
    · have d1 : decide (50 < a0) = true := decide_eq_true h1
      clear h h0 h1
      go_enter Try.func4, Try.ntmps4
      go_wp2_with fail
      refine (Haw.out _).mono ?_
      rintro e w2 ⟨rfl, hf2⟩
      have F2 := Lib.hid hf2
      clear hf2
      go_wp2_with fail
      go_ret
      exact ⟨rfl, F2.out⟩
    · have d1 : decide (50 < a0) = false := decide_eq_false h1
      by_cases h2 : a1 < 1
      · have d2 : decide (a1 < 1) = true := decide_eq_true h2
        clear h h0 h1 h2
        go_enter Try.func4, Try.ntmps4
        go_wp2_with fail
        refine (Haw.out _).mono ?_
        rintro e w2 ⟨rfl, hf2⟩
        have F2 := Lib.hid hf2
        clear hf2
        go_wp2_with fail
        go_ret
        exact ⟨rfl, F2.out⟩
      · have d2 : decide (a1 < 1) = false := decide_eq_false h2
        have d3 : decide (5 < a1) = true := decide_eq_true (by omega)
        clear h h0 h1 h2
        go_enter Try.func4, Try.ntmps4
        go_wp2_with fail
        refine (Haw.out _).mono ?_
        rintro e w2 ⟨rfl, hf2⟩
        have F2 := Lib.hid hf2
        clear hf2
        go_wp2_with fail
        go_ret
        exact ⟨rfl, F2.out⟩
theorem localLoops_walk (a0 a1 : Int) (w : World) (w0 : (Lit.int .i64 a0).wf = true) (w1 : (Lit.int .i64 a1).wf = true) :
    Calls Try.prog 4 #[.int .i64 a0, .int .i64 a1] w fun e w' => e = .returned (.bool true) ∧ Below w.heap.size w w' := by
  have key : Calls Try.prog 4 #[.int .i64 a0, .int .i64 a1] w fun e w' => e = .returned (.bool true) ∧ Fr Nob w w' := by
    by_cases h : a0 < 0 ∨ 50 < a0 ∨ a1 < 1 ∨ 5 < a1
    · exact loops_bad w a0 a1 h
    · obtain ⟨n, rfl⟩ : ∃ n : Nat, a0 = n := ⟨a0.toNat, by omega⟩
      obtain ⟨b, rfl⟩ : ∃ b : Nat, a1 = b := ⟨a1.toNat, by omega⟩
      exact loops_main w n b (by omega) (by omega) (by omega)
  exact key.mono fun e w' ⟨h1, h2⟩ => ⟨h1, h2.below (Nat.le_refl _) fun _ q => q.elim⟩

/-! The row: out of the walk above. -/
namespace localLoops
open Go.ChangeShapes Go.WideShapes Go.ChangeAt Go.RowKit
open Go.ChangeMaps (open_string shut_string)
theorem own : ownKnob Try.prog.godebug = none := by kernel_rfl
theorem laidOut : laidOutB Try.prog = true := by kernel_rfl
set_option maxRecDepth 100000 in
theorem lifted (os : Os) (started : os.Started) (H : Type) (enc : TypeId × Value → H) :
    ReturnsInHanded {} Try.checked os 4 .any (Rows.localLoopsSpec.pre6 enc Try.prog Try.f4 Rows.localLoopsRow.domain false) (Rows.localLoopsSpec.post enc Try.prog Try.f4 false true false false) := by
  refine returnsInHanded_of_change (C := Try.checked) own started (by kernel_rfl) Try.func4
    (ChangeSpec.witness6 (enc := enc) (C := Try.checked) false ⟨#[], #[.int .i64 0, .int .i64 0], []⟩ 8 (by kernel_rfl) (by kernel_rfl) (by kernel_rfl) (by kernel_rfl)) ?_
  intro W base args ds gs before hval0 hW hcnd _
  have hval : ∀ (j : Nat) t v, Try.f4.params[j]? = some t → args[j]? = some v → Value.okWide Try.prog W .any base t v := hval0
  have hW' := hW
  obtain ⟨p, q, hA0, hV, rfl, hfz, hnd⟩ := hW
  have hA : DataW.TrodAll enc Try.prog W 0 (fun _ => true) true Try.f4.params.toList args.toList ds p := hA0
  rw [Try.params4] at hA hval
  obtain ⟨v0, vs0, d0, ds0, p0, q0, hargs, rfl, rfl, h0, r0⟩ := trodAll_cons hA
  obtain ⟨v1, vs1, d1, ds1, p1, q1, rfl, rfl, rfl, h1, r1⟩ := trodAll_cons r0
  obtain ⟨rfl, rfl, rfl⟩ := trodAll_nil r1
  obtain rfl : args = #[v0, v1] := by cases args; simp_all
  obtain ⟨rfl, rfl⟩ := trodVars_none hV
  obtain ⟨a0, rfl, rfl, rfl, w0⟩ := open_int Try.underlying3 (hval 0 3 v0 rfl rfl) h0
  obtain ⟨a1, rfl, rfl, rfl, w1⟩ := open_int Try.underlying3 (hval 1 3 v1 rfl rfl) h1
  clear hA0 hval0
  refine (localLoops_walk a0 a1 W w0 w1).mono fun e W' ⟨he, bel⟩ => ?_
  subst he
  exact ⟨_, rfl, _, _, _, [], _, [], hW', trodAll_mk1 (shut_bool Try.underlying4 _), (trodAll_cons_mk (shut_int Try.underlying3 w0) (trodAll_cons_mk (shut_int Try.underlying3 w1) trodAll_mk0)), rfl, bel.frame _, fun h => by cases h⟩
theorem over : Rows.localLoopsRow.holds Try.pinned (OpenSpec.ofChange Rows.localLoopsSpec) :=
  OpenClaim.holds_of_wide 4 Try.f4 rfl rfl rfl rfl rfl rfl rfl ⟨rfl, rfl, rfl, rfl, rfl⟩ rfl rfl rfl rfl rfl (by kernel_rfl) Try.func4 (by kernel_rfl)
    (of_decide_eq_true (by kernel_rfl)) (by unfold Func.isWrapper; first | (rw [if_pos (by decide +kernel)]; kernel_rfl) | (rw [if_neg (by decide +kernel)]; exact ⟨rfl, rfl⟩))
    (fun os started H enc _ => lifted os started H enc)
end localLoops
/-- THE STATEMENT. -/
theorem localLoops_holds : Rows.LocalLoopsSaid := localLoops.over
#print axioms localLoops_holds
end Go.Proofs.Ytgfigahamnokhaa
