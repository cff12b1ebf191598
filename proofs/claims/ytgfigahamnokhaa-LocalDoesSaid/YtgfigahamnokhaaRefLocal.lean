/- What Prog of the reference does, and Local where it does nothing. -/
import Derived.Test.YtgfigahamnokhaaRefOne
import Derived.Test.YtgfigahamnokhaaLocal
set_option linter.unusedVariables false
set_option linter.unusedSimpArgs false
namespace Go.Proofs.Ytgfigahamnokhaa
open Go.RowKit
set_option maxRecDepth 100000

theorem prog_any (w : World) (v : Value) (ps : List Ins) (n : Nat) (hn : ps.length = n) (h : Rd w 6 v n (ps.flatMap insEn)) (hok : ∀ i ∈ ps, InsOk w i) :
    Calls Try.prog 17 #[v] w fun e w' => e = .returned (.bool (progB ps)) ∧ Fr Nob w w' := by
  obtain ⟨_, hl, A, c, rfl, hc1, hc2, hA⟩ := h
  unfold maxLen at hl
  by_cases h1 : n ≤ 100
  · have e1 : decide ((100 : Int) < (n : Int)) = false := by simp; omega
    have e2 : decide (100 < n) = false := by simp; omega
    have hyes : ∀ (k : Nat) (x : Ins), ps[k]? = some x → goodB x n = false → progB ps = false := fun k x hk e => by
      unfold progB; rw [hn, List.all_eq_false.2 ⟨x, List.mem_of_getElem? hk, by simp [e]⟩]; simp
    have hno : (∀ (k : Nat) (x : Ins), k < n → ps[k]? = some x → goodB x n = true) → progB ps = true := fun hh => by
      unfold progB
      rw [hn, decide_eq_true h1, Bool.true_and]
      exact List.all_eq_true.2 fun y hy => by
        obtain ⟨k, hk, e⟩ := List.mem_iff_getElem.1 hy
        exact hh k y (by omega) (by rw [List.getElem?_eq_getElem hk, e])
    have hg : ∀ k, k < n → ∃ x : Ins, ps[k]? = some x ∧ InsOk w x ∧ ∀ j u, j < 6 → (insEn x)[j]? = some u → (ps.flatMap insEn)[k * 6 + j]? = some u := fun k hk => by
      have h0 : ps[k]? = some (ps[k]'(by omega)) := by simp
      exact ⟨_, h0, hok _ (List.mem_of_getElem? h0), fun j u hj hu => (insGet ps k j _ h0 hj).trans hu⟩
    have HA := Lib.hid hA; have Hyes := Lib.hid hyes; have Hno := Lib.hid hno; have Hg := Lib.hid hg
    generalize progB ps = P at *
    clear hA hyes hno hg hok
    go_enter Try.func17, Try.ntmps17
    go_wp2_with fail
    go_loopw [3] (fun i wr => ∃ k : Nat, k ≤ n ∧ i = .int .i64 k ∧ Fr Nob w wr ∧ Hid (∀ (j : Nat) (x : Ins), j < k → ps[j]? = some x → goodB x n = true)) (fun i _ => n - (intOf i).toNat)
    case atStart => exact ⟨0, Nat.zero_le _, rfl, Fr.refl _ _, Lib.hid fun j x hj => by omega⟩
    case round =>
      obtain ⟨k, hk, rfl, hfr, hall⟩ := hrel
      have Hfr := Lib.hid hfr
      clear hfr
      by_cases hlt : k < n
      · obtain ⟨x, hx, hio, hq⟩ := Hg.out k hlt
        obtain ⟨g, o, rfl, hgl, hc⟩ := HA.out (by omega)
        have hbc := fun W (hf : Fr Nob w W) => one_any W x n (hio.fr hf)
        have hy := Hyes.out k x hx
        have hall2 : goodB x n = true → ∀ (j : Nat) (y : Ins), j < k + 1 → ps[j]? = some y → goodB y n = true := fun hb j y hj hy => by
          by_cases hjk : j = k
          · subst hjk; rw [hx] at hy; cases hy; exact hb
          · exact hall.out j y (by omega) hy
        generalize goodB x n = r at *
        obtain ⟨⟨op, a, b, e⟩, v, cs, d⟩ := x
        obtain ⟨_, _, A2, c2, hv, _⟩ := id hio
        dsimp only at hv
        subst hv
        have x0 := Hfr.out.cell (p := ⟨g, o + (k * 6 + 0), none⟩) id (hc _ _ (hq 0 _ (by omega) rfl))
        have x1 := Hfr.out.cell (p := ⟨g, o + (k * 6 + 1), none⟩) id (hc _ _ (hq 1 _ (by omega) rfl))
        have x2 := Hfr.out.cell (p := ⟨g, o + (k * 6 + 2), none⟩) id (hc _ _ (hq 2 _ (by omega) rfl))
        have x3 := Hfr.out.cell (p := ⟨g, o + (k * 6 + 3), none⟩) id (hc _ _ (hq 3 _ (by omega) rfl))
        have x4 := Hfr.out.cell (p := ⟨g, o + (k * 6 + 4), none⟩) id (hc _ _ (hq 4 _ (by omega) rfl))
        have x5 := Hfr.out.cell (p := ⟨g, o + (k * 6 + 5), none⟩) id (hc _ _ (hq 5 _ (by omega) rfl))
        rw [← Nat.add_assoc] at x1 x2 x3 x4 x5
        rw [Nat.add_zero] at x0
        dsimp only at x0 x1 x2 x3 x4 x5 hbc
        have Hbc := Lib.hid hbc; have Hy := Lib.hid hy; have Hall2 := Lib.hid hall2
        have hki : (k : Int) < n := by omega
        clear hc hq hx hbc hy hall2 hio
        cases r with
        | true =>
          have Hn2 := Lib.hid (Hall2.out rfl)
          go_wp2_with fail
          refine (Hbc.out _ Hfr.out).mono ?_
          rintro e w2 ⟨rfl, hf2⟩
          have Hf2 := Lib.hid (Hfr.out.trans0 hf2)
          clear hf2
          go_wp2_with fail
          go_roundw
          case rel => exact ⟨k + 1, by omega, by go_num, Hf2.out, Hn2⟩
          case measure => simp [intOf]; omega
        | false =>
          have hP := Hy.out rfl
          have HP := Lib.hid hP
          clear hP
          go_wp2_with fail
          refine (Hbc.out _ Hfr.out).mono ?_
          rintro e w2 ⟨rfl, hf2⟩
          have Hf2 := Lib.hid (Hfr.out.trans0 hf2)
          clear hf2
          go_wp2_with fail
          go_ret
          exact ⟨by rw [HP.out]; rfl, Hf2.out⟩
      · obtain rfl : k = n := by omega
        have HP := Lib.hid (Hno.out fun j x hj hx => hall.out j x hj hx)
        go_wp2_with fail
        go_ret
        exact ⟨by rw [HP.out]; rfl, Hfr.out⟩
  · have e1 : decide ((100 : Int) < (n : Int)) = true := by simp; omega
    have e2 : decide (100 < n) = true := by simp; omega
    have e3 : progB ps = false := by unfold progB; rw [hn, decide_eq_false h1]; rfl
    have E3 := Lib.hid e3
    clear e3 h1 hA hok
    go_enter Try.func17, Try.ntmps17
    go_wp2_with fail
    go_ret
    exact ⟨by rw [E3.out]; rfl, Fr.refl _ _⟩

section
variable (w : World) (v : Value) (ps : List Ins) (n : Nat) (pc : Int) (r : Nat → Int) (now : Int) (hn : ps.length = n) (h : Rd w 6 v n (ps.flatMap insEn)) (hok : ∀ i ∈ ps, InsOk w i)
include hn h hok
set_option maxHeartbeats 1000000 in
theorem rl_bad (hbad : progB ps = false ∨ pc < 0 ∨ (n : Int) < pc) :
    Calls Try.prog 10 #[v, .int .i64 pc, .agg (regA r), .int .i64 now] w fun e w' => e = .returned (.tuple #[.agg outZ, .int .i64 1]) ∧ Fr Nob w w' := by
  obtain ⟨A, c, rfl⟩ : ∃ A c, v = .slice A n c := by obtain ⟨_, _, A, c, rfl, _⟩ := h; exact ⟨_, _, rfl⟩
  have hch := fun W (hf : Fr Nob w W) => prog_any W _ ps n hn (h.fr hf) fun i hi => (hok i hi).fr hf
  have hi28 : (Try.prog.info? 32).map (fun i => i.size) = some 12 := by kernel_rfl
  have hf0 : Fr Nob w ((w.alloc (.cells (regA r) 23)).alloc (.cells outZ 32)) := ((Fr.refl _ _).alloc _).alloc _
  have hb0 : ((w.alloc (.cells (regA r) 23)).alloc (.cells outZ 32)).heap[w.heap.size + 1]? = some (.cells outZ 32 (0, 0)) := blk_alloc_eq _ (by simp)
  generalize progB ps = q at *
  have Hch := Lib.hid hch; have Hf0 := Lib.hid hf0; have Hb0 := Lib.hid hb0; have Hi := Lib.hid hi28
  clear hch h hok hf0 hb0 hi28
  have key : ∀ w1 w2, Fr Nob ((w.alloc (.cells (regA r) 23)).alloc (.cells outZ 32)) w1 → Fr (fun k => k = w.heap.size + 1) w1 w2 → Fr Nob w w2 := fun w1 w2 f1 f2 => (Hf0.out.trans0 f1).trans f2 fun k hk e => by omega
  have Key := Lib.hid key
  clear key
  cases q with
  | false =>
    clear hbad
    go_enter Try.func10, Try.ntmps10
    go_wp2_with fail
    refine (Hch.out _ Hf0.out).mono ?_
    rintro e w1 ⟨rfl, hf1⟩
    have Hf1 := Lib.hid hf1; have Hb1 := Lib.hid (hf1.blk id Hb0.out)
    clear hf1
    go_wp2_with (refine wpList_store_row w1 rfl 32 (.tmp 8) (.tmp 25) rfl (w.heap.size + 1) outZ outZ 32 rfl rfl Hb1.out rfl Hi.out outZ_one ?_; intro w2 hb2 hf2; have Hb2 := Lib.hid hb2; have Hf2 := Lib.hid hf2; clear hb2 hf2)
    obtain ⟨t0, t1, t2, t3, t4, t5, t6, t7, t8, t9, t10, t11⟩ := row_cellsZ Hb2.out
    exact bodyPost_ret (v := .tuple #[.agg outZ, .int .i64 1]) (by simp [results, Try.results10, go_sem, t0, t1, t2, t3, t4, t5, t6, t7, t8, t9, t10, t11]) rfl ⟨rfl, Key.out _ _ Hf1.out Hf2.out⟩
  | true =>
    have hb' : pc < 0 ∨ (n : Int) < pc := by rcases hbad with h | h; cases h; exact h
    clear hbad
    by_cases hp : pc < 0
    · have k1 : decide (pc < 0) = true := decide_eq_true hp
      have K1 := Lib.hid k1
      clear k1 hb' hp
      go_enter Try.func10, Try.ntmps10
      go_wp2_with fail
      refine (Hch.out _ Hf0.out).mono ?_
      rintro e w1 ⟨rfl, hf1⟩
      have Hf1 := Lib.hid hf1; have Hb1 := Lib.hid (hf1.blk id Hb0.out)
      clear hf1
      have K1' := K1.out
      go_wp2_with (refine wpList_store_row w1 rfl 32 (.tmp 8) (.tmp 25) rfl (w.heap.size + 1) outZ outZ 32 rfl rfl Hb1.out rfl Hi.out outZ_one ?_; intro w2 hb2 hf2; have Hb2 := Lib.hid hb2; have Hf2 := Lib.hid hf2; clear hb2 hf2)
      obtain ⟨t0, t1, t2, t3, t4, t5, t6, t7, t8, t9, t10, t11⟩ := row_cellsZ Hb2.out
      exact bodyPost_ret (v := .tuple #[.agg outZ, .int .i64 1]) (by simp [results, Try.results10, go_sem, t0, t1, t2, t3, t4, t5, t6, t7, t8, t9, t10, t11]) rfl ⟨rfl, Key.out _ _ Hf1.out Hf2.out⟩
    · have k1 : decide (pc < 0) = false := decide_eq_false hp
      have k2 : decide ((n : Int) < pc) = true := decide_eq_true (by omega)
      have K1 := Lib.hid k1; have K2 := Lib.hid k2
      clear k1 k2 hb' hp
      go_enter Try.func10, Try.ntmps10
      go_wp2_with fail
      refine (Hch.out _ Hf0.out).mono ?_
      rintro e w1 ⟨rfl, hf1⟩
      have Hf1 := Lib.hid hf1; have Hb1 := Lib.hid (hf1.blk id Hb0.out)
      clear hf1
      have K1' := K1.out; have K2' := K2.out
      go_wp2_with (refine wpList_store_row w1 rfl 32 (.tmp 8) (.tmp 25) rfl (w.heap.size + 1) outZ outZ 32 rfl rfl Hb1.out rfl Hi.out outZ_one ?_; intro w2 hb2 hf2; have Hb2 := Lib.hid hb2; have Hf2 := Lib.hid hf2; clear hb2 hf2)
      obtain ⟨t0, t1, t2, t3, t4, t5, t6, t7, t8, t9, t10, t11⟩ := row_cellsZ Hb2.out
      exact bodyPost_ret (v := .tuple #[.agg outZ, .int .i64 1]) (by simp [results, Try.results10, go_sem, t0, t1, t2, t3, t4, t5, t6, t7, t8, t9, t10, t11]) rfl ⟨rfl, Key.out _ _ Hf1.out Hf2.out⟩
set_option maxHeartbeats 1000000 in
theorem rl_end (hgood : progB ps = true) (hpc : pc = n) :
    Calls Try.prog 10 #[v, .int .i64 pc, .agg (regA r), .int .i64 now] w fun e w' => e = .returned (.tuple #[.agg (outA n r false 0 true), .int .i64 0]) ∧ Fr Nob w w' := by
  obtain ⟨A, c, rfl⟩ : ∃ A c, v = .slice A n c := by obtain ⟨_, _, A, c, rfl, _⟩ := h; exact ⟨_, _, rfl⟩
  have hch := fun W (hf : Fr Nob w W) => prog_any W _ ps n hn (h.fr hf) fun i hi => (hok i hi).fr hf
  have hi28 : (Try.prog.info? 32).map (fun i => i.size) = some 12 := by kernel_rfl
  have hf0 : Fr Nob w ((w.alloc (.cells (regA r) 23)).alloc (.cells outZ 32)) := ((Fr.refl _ _).alloc _).alloc _
  have hb0 : ((w.alloc (.cells (regA r) 23)).alloc (.cells outZ 32)).heap[w.heap.size + 1]? = some (.cells outZ 32 (0, 0)) := blk_alloc_eq _ (by simp)
  have hr0 : ((w.alloc (.cells (regA r) 23)).alloc (.cells outZ 32)).heap[w.heap.size]? = some (.cells (regA r) 23 (0, 0)) := (Fr.alloc (Fr.refl Nob _) _).blk id (blk_alloc_eq _ rfl)
  rw [hgood] at hch
  subst hpc
  have hnn : ¬((n : Int) < 0) := by omega
  have Hch := Lib.hid hch; have Hf0 := Lib.hid hf0; have Hb0 := Lib.hid hb0; have Hi := Lib.hid hi28; have Hr0 := Lib.hid hr0
  clear hch h hok hf0 hb0 hi28 hr0
  have key : ∀ w1 w2, Fr Nob ((w.alloc (.cells (regA r) 23)).alloc (.cells outZ 32)) w1 → Fr (fun k => k = w.heap.size + 1) w1 w2 → Fr Nob w w2 := fun w1 w2 f1 f2 => (Hf0.out.trans0 f1).trans f2 fun k hk e => by omega
  have Key := Lib.hid key
  clear key
  go_enter Try.func10, Try.ntmps10
  go_wp2_with fail
  refine (Hch.out _ Hf0.out).mono ?_
  rintro e w1 ⟨rfl, hf1⟩
  have Hf1 := Lib.hid hf1; have Hb1 := Lib.hid (hf1.blk id Hb0.out)
  obtain ⟨r0, r1, r2, r3, r4, r5, r6, r7⟩ := reg_cells (hf1.blk id Hr0.out)
  clear hf1
  have k1 : decide ((n : Int) < 0) = false := decide_eq_false (by omega)
  have Hlt := Lib.hid (lt_of_block Hb1.out)
  have k5 : ((n : Int) == (n : Int)) = true := beq_self_eq_true _
  go_wp2_with (first
    | (refine wpList_store_row _ rfl 32 (.tmp 10) (.tmp 28) rfl w1.heap.size (outA n r false 0 false) outZ 32 rfl rfl (blk_alloc_eq _ rfl) rfl Hi.out (outA_one _ _ _ _ _) ?_
       intro w2 hb2 hf2
       have Hb2 := Lib.hid hb2; have Hf2 := Lib.hid (((Fr.refl (From w1.heap.size) w1).alloc _).trans0 (hf2.mono fun k _ e => by rw [e]; exact Nat.le_refl _))
       have oc := blk_cell hb2 11 rfl
       have of := blk_froz hb2 11
       have Hz2 := Lib.hid (Hf2.out.blk (by simp [From]; have := Hlt.out; omega) Hb1.out)
       clear hb2 hf2)
    | (refine wpList_load_row rfl 32 (.tmp 10) rfl w1.heap.size rfl 32 (outA n r false 0 true) (0, 0) _ ?_ rfl rfl Hi.out ?_
       focus (rw [blk_set Hb2.out 11 _, out_end]))
    | (refine wpList_store_row _ rfl 32 (.tmp 8) (.tmp 34) rfl (w.heap.size + 1) (outA n r false 0 true) outZ 32 rfl rfl (by rw [blk_set_ne _ _ (by have := Hlt.out; omega)]; exact Hz2.out) rfl Hi.out (outA_one _ _ _ _ _) ?_
       intro w4 hb4 hf4
       have Hb4 := Lib.hid hb4
       have Hf4 := Lib.hid ((((Hf1.out.none (S := fun k => w.heap.size + 1 ≤ k)).trans (Hf2.out.setCell (.inl (Nat.le_refl _)) _) (fun k _ q => by have := Hlt.out; simp [From] at q; omega)).trans hf4 (fun k _ q => by omega)))
       clear hb4 hf4))
  obtain ⟨t0, t1, t2, t3, t4, t5, t6, t7, t8, t9, t10, t11⟩ := row_cells Hb4.out
  exact bodyPost_ret (v := .tuple #[.agg (outA n r false 0 true), .int .i64 0]) (by simp [results, Try.results10, go_sem, t0, t1, t2, t3, t4, t5, t6, t7, t8, t9, t10, t11]) rfl ⟨rfl, Hf0.out.trans Hf4.out (fun k hk q => by omega)⟩
end
end Go.Proofs.Ytgfigahamnokhaa
