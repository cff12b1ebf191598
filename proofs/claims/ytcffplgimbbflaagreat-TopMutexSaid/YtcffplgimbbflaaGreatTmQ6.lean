/- TopTimes answers true whatever its inputs are: no condition. -/
import Derived.Test.YtcffplgimbbflaaGreatTmQ5
set_option linter.unusedVariables false
set_option linter.unusedSimpArgs false
namespace Go.Proofs.YtcffplgimbbflaaGreat
open Go.RowKit
set_option maxRecDepth 100000
section
variable (w : World) (v : Value) (ps : List Ins) (n k : Nat) (r : Nat → Int) (now : Int) (hn : ps.length = n) (h : Rd w 6 v n (ps.flatMap insEn)) (hok : ∀ i ∈ ps, InsOk w i)
include hn h hok
set_option maxHeartbeats 2000000 in
theorem do_now (a : Nat) (b : Int) (c : Int) (v2 : Value) (cs : List ICs) (d : Bool) (hk : ps[k]? = some (((16, (a : Int), b, c), v2, cs, d) : Ins)) (hgood : progB ps = true) (ha : a < 8) :
    Calls Tryz.prog 57 #[v, .int .i64 k, .agg (regA r), .int .i64 now] w fun e w' => e = .returned (.tuple #[.agg (outA (k + 1) (updR r a now) false 0 false), .int .i64 0]) ∧ Fr Nob w w' := by
  have hio : InsOk w ((16, (a : Int), b, c), v2, cs, d) := hok _ (List.mem_of_getElem? hk)
  have hkn : k < n := by rw [← hn]; exact (List.getElem?_eq_some_iff.1 hk).1
  have hch := fun W (hf : Fr Nob w W) => check_any W _ ps n hn (h.fr hf) fun i hi => (hok i hi).fr hf
  have hm : ∀ W : World, Calls Tryz.prog 84 #[.int .i64 16] W fun e w' => e = .returned (.bool true) ∧ W = w' := fun W => mine_any W 16
  obtain ⟨_, hl, A, c1, rfl, hc1, hc2, hA⟩ := h
  obtain ⟨g, o, rfl, hgl, hc⟩ := hA (by omega)
  unfold maxLen at hl
  obtain ⟨_, _, A2, c2, hv, _⟩ := id hio
  dsimp only at hv
  subst hv
  have q0 := hc _ _ ((insGet ps k 0 _ hk (by omega)).trans rfl)
  have q1 := hc _ _ ((insGet ps k 1 _ hk (by omega)).trans rfl)
  have q2 := hc _ _ ((insGet ps k 2 _ hk (by omega)).trans rfl)
  have q3 := hc _ _ ((insGet ps k 3 _ hk (by omega)).trans rfl)
  have q4 := hc _ _ ((insGet ps k 4 _ hk (by omega)).trans rfl)
  have q5 := hc _ _ ((insGet ps k 5 _ hk (by omega)).trans rfl)
  rw [← Nat.add_assoc] at q1 q2 q3 q4 q5
  rw [Nat.add_zero] at q0
  have hi28 : (Tryz.prog.info? 138).map (fun i => i.size) = some 12 := by kernel_rfl
  have hi39 : (Tryz.prog.info? 25).map (fun i => i.size) = some 6 := by kernel_rfl
  have hf0 : Fr Nob w ((w.alloc (.cells (regA r) 74)).alloc (.cells outZ 138)) := ((Fr.refl _ _).alloc _).alloc _
  have hb0 : ((w.alloc (.cells (regA r) 74)).alloc (.cells outZ 138)).heap[w.heap.size + 1]? = some (.cells outZ 138 (0, 0)) := blk_alloc_eq _ (by simp)
  have hr0 : ((w.alloc (.cells (regA r) 74)).alloc (.cells outZ 138)).heap[w.heap.size]? = some (.cells (regA r) 74 (0, 0)) := (Fr.alloc (Fr.refl Nob _) _).blk id (blk_alloc_eq _ rfl)
  rw [hgood] at hch
  have hki : (k : Int) < n := by omega
  have Hch := Lib.hid hch; have Hf0 := Lib.hid hf0; have Hb0 := Lib.hid hb0; have Hi := Lib.hid hi28; have Hi39 := Lib.hid hi39; have Hr0 := Lib.hid hr0; have Hm := Lib.hid hm
  have Q0 := Lib.hid q0; have Q1 := Lib.hid q1; have Q2 := Lib.hid q2; have Q3 := Lib.hid q3; have Q4 := Lib.hid q4; have Q5 := Lib.hid q5
  clear hch hok hf0 hb0 hi28 hr0 hi39 hio hc hk hm q0 q1 q2 q3 q4 q5
  go_enter Tryz.func57, Tryz.ntmps57
  go_wp2_with fail
  refine (Hch.out _ Hf0.out).mono ?_
  rintro e w1 ⟨rfl, hf1⟩
  have Hf1 := Lib.hid hf1; have Hb1 := Lib.hid (hf1.blk id Hb0.out); have Hr1 := Lib.hid (hf1.blk id Hr0.out); have Hf01 := Lib.hid (Hf0.out.trans0 hf1)
  have Hlt := Lib.hid (lt_of_block Hb1.out)
  obtain ⟨r0, r1, r2, r3, r4, r5, r6, r7⟩ := reg_cells Hr1.out
  have x0 := Hf01.out.cell (p := ⟨g, o + k * 6, none⟩) id Q0.out
  clear hf1
  have k0 : decide (0 ≤ k) = true := decide_eq_true (Nat.zero_le k)
  have k0' : decide ((0 : Int) ≤ k) = true := decide_eq_true (by omega)
  have k1 : decide ((k : Int) < 0) = false := decide_eq_false (by omega)
  have k2 : decide ((n : Int) < k) = false := decide_eq_false (by omega)
  have k2' : decide (n < k) = false := decide_eq_false (by omega)
  have k3 : decide (k < n) = true := decide_eq_true hkn
  have k4 : decide ((k : Int) < n) = true := decide_eq_true hki
  have k5 : ((k : Int) == (n : Int)) = false := beq_eq_false_iff_ne.2 (by omega)
  have k6 : (k == n) = false := beq_eq_false_iff_ne.2 (by omega)
  go_wp2_with fail
  refine (Hm.out _).mono ?_
  rintro e _ ⟨rfl, rfl⟩
  go_wp2_with (first
    | (refine wpList_store_row _ rfl 138 (.tmp 10) (.tmp 47) rfl w1.heap.size (outA (k + 1) r false 0 false) outZ 138 rfl rfl (blk_alloc_eq _ rfl) rfl Hi.out (outA_one _ _ _ _ _) ?_
       intro w2 hb2 hf2
       have Hb2 := Lib.hid hb2; have Hf2 := Lib.hid (((Fr.refl (From w1.heap.size) w1).alloc _).trans0 (hf2.mono fun k _ e => by rw [e]; exact Nat.le_refl _))
       clear hb2 hf2
       have y0 := Hf2.out.cell (p := ⟨g, o + k * 6, none⟩) (by simp [From]; have := Hlt.out; omega) (Hf01.out.cell (p := ⟨g, o + k * 6, none⟩) id Q0.out)
       have y1 := Hf2.out.cell (p := ⟨g, o + k * 6 + 1, none⟩) (by simp [From]; have := Hlt.out; omega) (Hf01.out.cell (p := ⟨g, o + k * 6 + 1, none⟩) id Q1.out)
       have y2 := Hf2.out.cell (p := ⟨g, o + k * 6 + 2, none⟩) (by simp [From]; have := Hlt.out; omega) (Hf01.out.cell (p := ⟨g, o + k * 6 + 2, none⟩) id Q2.out)
       have y3 := Hf2.out.cell (p := ⟨g, o + k * 6 + 3, none⟩) (by simp [From]; have := Hlt.out; omega) (Hf01.out.cell (p := ⟨g, o + k * 6 + 3, none⟩) id Q3.out)
       have y4 := Hf2.out.cell (p := ⟨g, o + k * 6 + 4, none⟩) (by simp [From]; have := Hlt.out; omega) (Hf01.out.cell (p := ⟨g, o + k * 6 + 4, none⟩) id Q4.out)
       have y5 := Hf2.out.cell (p := ⟨g, o + k * 6 + 5, none⟩) (by simp [From]; have := Hlt.out; omega) (Hf01.out.cell (p := ⟨g, o + k * 6 + 5, none⟩) id Q5.out)
       have hlt2 := lt_of_block Hb2.out
       have hf23 : Fr (From w2.heap.size) w2 (w2.alloc (.cells #[.int .i64 16, .int .i64 (a : Int), .int .i64 b, .int .i64 c, .slice A2 cs.length c2, .bool d] 25)) := (Fr.refl (From w2.heap.size) w2).alloc _
       have hf13 : Fr (From w1.heap.size) w1 (w2.alloc (.cells #[.int .i64 16, .int .i64 (a : Int), .int .i64 b, .int .i64 c, .slice A2 cs.length c2, .bool d] 25)) := Hf2.out.trans hf23 fun k hk q => by have := Hf2.out.size; simp [From] at q ⊢; omega
       have Hc3 := Lib.hid (hf23.blk (by simp [From]; omega) Hb2.out); have Hf3 := Lib.hid hf13
       have Hr3 := Lib.hid (hf13.blk (by simp [From]; have := Hlt.out; omega) Hr1.out)
       have Hz3 := Lib.hid (hf13.blk (by simp [From]; have := Hlt.out; omega) Hb1.out)
       have oc := blk_cell Hc3.out (1 + a) (out_get _ _ _ _ _ a ha)
       have of := blk_froz Hc3.out (1 + a)
       clear hlt2 hf23 hf13)
    | (refine wpList_load_row rfl 138 (.tmp 10) rfl w1.heap.size rfl 138 (outA (k + 1) (updR r a now) false 0 false) (0, 0) _ ?_ rfl rfl Hi.out ?_
       focus (rw [blk_set Hc3.out (1 + a) _, out_set _ _ _ _ _ a ha]))
    | (refine wpList_store_row _ rfl 138 (.tmp 8) (.tmp 118) rfl (w.heap.size + 1) (outA (k + 1) (updR r a now) false 0 false) outZ 138 rfl rfl (by rw [blk_set_ne _ _ (by have := Hlt.out; omega)]; exact Hz3.out) rfl Hi.out (outA_one _ _ _ _ _) ?_
       intro w4 hb4 hf4
       have Hb4 := Lib.hid hb4
       have Hf4 := Lib.hid ((((Hf01.out.none (S := fun k => w.heap.size + 1 ≤ k)).trans (Hf3.out.setCell (.inl (Nat.le_refl _)) _) (fun k _ q => by have := Hlt.out; simp [From] at q; omega)).trans hf4 (fun k _ q => by omega)))
       clear hb4 hf4))
  obtain ⟨t0, t1, t2, t3, t4, t5, t6, t7, t8, t9, t10, t11⟩ := row_cells Hb4.out
  exact bodyPost_ret (v := .tuple #[.agg (outA (k + 1) (updR r a now) false 0 false), .int .i64 0]) (by simp [results, Tryz.results57, go_sem, t0, t1, t2, t3, t4, t5, t6, t7, t8, t9, t10, t11]) rfl ⟨rfl, Hf4.out.mono fun k hk q => by omega⟩
end
abbrev LRes := (Int × (Nat → Int) × Bool × Int × Bool) × Int
abbrev lresV (o : LRes) : Value := .tuple #[.agg (outA o.1.1 o.1.2.1 o.1.2.2.1 o.1.2.2.2.1 o.1.2.2.2.2), .int .i64 o.2]
def noR (e : Int) : LRes := ((0, fun _ => 0, false, 0, false), e)
def stepR (op a b : Int) (k : Nat) (r : Nat → Int) (now : Int) : Int × (Nat → Int) × Bool × Int × Bool :=
  if op = 1 then (k + 1, updR r a.toNat b, false, 0, false)
  else if op = 2 then (k + 1, updR r a.toNat (r b.toNat), false, 0, false)
  else if op = 3 then (k + 1, updR r a.toNat (addT (r a.toNat) b), false, 0, false)
  else if op = 4 then (a, r, false, 0, false)
  else if op = 5 then (if r a.toNat = 0 then b else k + 1, r, false, 0, false)
  else if op = 6 then (k + 1, r, true, r a.toNat, false)
  else if op = 7 then (k, r, false, 0, true)
  else (k + 1, updR r a.toNat now, false, 0, false)
def doR (ps : List Ins) (pc : Int) (r : Nat → Int) (now : Int) : LRes :=
  if progB ps = false ∨ pc < 0 ∨ (ps.length : Int) < pc then noR 1
  else if pc = ps.length then ((pc, r, false, 0, true), 0)
  else match ps[pc.toNat]? with
    | none => noR 1
    | some y => if mineB y.1.1 = false then noR 7 else (stepR y.1.1 y.1.2.1 y.1.2.2.1 pc.toNat r now, 0)
theorem good_of {ps : List Ins} {k : Nat} {y : Ins} (hp : progB ps = true) (hk : ps[k]? = some y) : goodB y ps.length = true := by
  unfold progB at hp
  simp only [Bool.and_eq_true, List.all_eq_true] at hp
  exact hp.2 y (List.mem_of_getElem? hk)
theorem reg_of {n : Int} (h : regB n = true) : ∃ a : Nat, n = a ∧ a < 8 := by
  simp [regB] at h
  exact ⟨n.toNat, by omega, by omega⟩
section
variable (w : World) (v : Value) (ps : List Ins) (n k : Nat) (r : Nat → Int) (now : Int) (hn : ps.length = n) (h : Rd w 6 v n (ps.flatMap insEn)) (hok : ∀ i ∈ ps, InsOk w i)
include hn h hok
set_option maxHeartbeats 2000000 in
theorem do_other (op a b c : Int) (v2 : Value) (cs : List ICs) (d : Bool) (hk : ps[k]? = some (((op, a, b, c), v2, cs, d) : Ins)) (hgood : progB ps = true) (hmi : mineB op = false) :
    Calls Tryz.prog 57 #[v, .int .i64 k, .agg (regA r), .int .i64 now] w fun e w' => e = .returned (.tuple #[.agg outZ, .int .i64 7]) ∧ Fr Nob w w' := by
  have hkn : k < n := by rw [← hn]; exact (List.getElem?_eq_some_iff.1 hk).1
  have hch := fun W (hf : Fr Nob w W) => check_any W _ ps n hn (h.fr hf) fun i hi => (hok i hi).fr hf
  have hm : ∀ W : World, Calls Tryz.prog 84 #[.int .i64 op] W fun e w' => e = .returned (.bool false) ∧ W = w' := fun W => by have := mine_any W op; rwa [hmi] at this
  obtain ⟨_, hl, A, c1, rfl, hc1, hc2, hA⟩ := h
  obtain ⟨g, o, rfl, hgl, hc⟩ := hA (by omega)
  unfold maxLen at hl
  have q0 := hc _ _ ((insGet ps k 0 _ hk (by omega)).trans rfl)
  rw [Nat.add_zero] at q0
  have hi28 : (Tryz.prog.info? 138).map (fun i => i.size) = some 12 := by kernel_rfl
  have hf0 : Fr Nob w ((w.alloc (.cells (regA r) 74)).alloc (.cells outZ 138)) := ((Fr.refl _ _).alloc _).alloc _
  have hb0 : ((w.alloc (.cells (regA r) 74)).alloc (.cells outZ 138)).heap[w.heap.size + 1]? = some (.cells outZ 138 (0, 0)) := blk_alloc_eq _ (by simp)
  rw [hgood] at hch
  have hki : (k : Int) < n := by omega
  have key : ∀ w1 w2, Fr Nob ((w.alloc (.cells (regA r) 74)).alloc (.cells outZ 138)) w1 → Fr (fun k => k = w.heap.size + 1) w1 w2 → Fr Nob w w2 := fun w1 w2 f1 f2 => (hf0.trans0 f1).trans f2 fun k hk e => by omega
  have Hch := Lib.hid hch; have Hf0 := Lib.hid hf0; have Hb0 := Lib.hid hb0; have Hi := Lib.hid hi28; have Hm := Lib.hid hm; have Q0 := Lib.hid q0; have Key := Lib.hid key
  clear hch hok hf0 hb0 hi28 hc hk hm q0 key hmi
  go_enter Tryz.func57, Tryz.ntmps57
  go_wp2_with fail
  refine (Hch.out _ Hf0.out).mono ?_
  rintro e w1 ⟨rfl, hf1⟩
  have Hf1 := Lib.hid hf1; have Hb1 := Lib.hid (hf1.blk id Hb0.out)
  have x0 := (Hf0.out.trans0 hf1).cell (p := ⟨g, o + k * 6, none⟩) id Q0.out
  clear hf1
  have k0 : decide (0 ≤ k) = true := decide_eq_true (Nat.zero_le k)
  have k0' : decide ((0 : Int) ≤ k) = true := decide_eq_true (by omega)
  have k1 : decide ((k : Int) < 0) = false := decide_eq_false (by omega)
  have k2 : decide ((n : Int) < k) = false := decide_eq_false (by omega)
  have k2' : decide (n < k) = false := decide_eq_false (by omega)
  have k3 : decide (k < n) = true := decide_eq_true hkn
  have k4 : decide ((k : Int) < n) = true := decide_eq_true hki
  have k5 : ((k : Int) == (n : Int)) = false := beq_eq_false_iff_ne.2 (by omega)
  have k6 : (k == n) = false := beq_eq_false_iff_ne.2 (by omega)
  go_wp2_with fail
  refine (Hm.out _).mono ?_
  rintro e _ ⟨rfl, rfl⟩
  go_wp2_with (refine wpList_store_row w1 rfl 138 (.tmp 8) (.tmp 43) rfl (w.heap.size + 1) outZ outZ 138 rfl rfl Hb1.out rfl Hi.out outZ_one ?_; intro w2 hb2 hf2; have Hb2 := Lib.hid hb2; have Hf2 := Lib.hid hf2; clear hb2 hf2)
  obtain ⟨t0, t1, t2, t3, t4, t5, t6, t7, t8, t9, t10, t11⟩ := row_cellsZ Hb2.out
  exact bodyPost_ret (v := .tuple #[.agg outZ, .int .i64 7]) (by simp [results, Tryz.results57, go_sem, t0, t1, t2, t3, t4, t5, t6, t7, t8, t9, t10, t11]) rfl ⟨rfl, Key.out _ _ Hf1.out Hf2.out⟩
theorem do_any (pc : Int) : Calls Tryz.prog 57 #[v, .int .i64 pc, .agg (regA r), .int .i64 now] w fun e w' => e = .returned (lresV (doR ps pc r now)) ∧ Fr Nob w w' := by
  unfold doR
  by_cases hbad : progB ps = false ∨ pc < 0 ∨ (ps.length : Int) < pc
  · rw [if_pos hbad]
    exact do_bad w v ps n pc r now hn h hok (by rwa [hn] at hbad)
  · rw [if_neg hbad]
    have hg : progB ps = true := by cases hq : progB ps; exact absurd (.inl hq) hbad; rfl
    have hp0 : 0 ≤ pc := Int.not_lt.1 fun q => hbad (.inr (.inl q))
    have hp1 : pc ≤ ps.length := Int.not_lt.1 fun q => hbad (.inr (.inr q))
    by_cases he : pc = ps.length
    · rw [if_pos he]
      subst he
      have := do_end w v ps n (ps.length : Int) r now hn h hok hg (by rw [hn])
      rw [← hn] at this
      exact this
    · rw [if_neg he]
      obtain ⟨k, rfl⟩ : ∃ k : Nat, pc = k := ⟨pc.toNat, by omega⟩
      have hk : ps[k]? = some (ps[k]'(by omega)) := List.getElem?_eq_getElem _
      rw [Int.toNat_natCast, hk]
      dsimp only
      generalize ps[k] = y at hk ⊢
      have hgd := good_of hg hk
      obtain ⟨⟨op, a, b, c⟩, v2, cs, d⟩ := y
      dsimp only at hgd ⊢
      by_cases hm : mineB op = false
      · rw [if_pos hm]
        exact do_other w v ps n k r now hn h hok op a b c v2 cs d hk hg hm
      · rw [if_neg hm]
        have hm' : mineB op = true := by simpa using hm
        have hop : op = 1 ∨ op = 2 ∨ op = 3 ∨ op = 4 ∨ op = 5 ∨ op = 6 ∨ op = 7 ∨ op = 16 := by
          simp [mineB] at hm'
          omega
        unfold goodB at hgd
        dsimp only at hgd
        simp only [Bool.and_eq_true] at hgd
        obtain ⟨⟨⟨⟨_, ha⟩, hb⟩, _⟩, _⟩ := hgd
        rcases hop with rfl | rfl | rfl | rfl | rfl | rfl | rfl | rfl
        · obtain ⟨a, rfl, ha8⟩ := reg_of (n := a) ha
          exact do_set w v ps n k r now hn h hok a b c v2 cs d hk hg ha8
        · obtain ⟨a, rfl, ha8⟩ := reg_of (n := a) ha
          obtain ⟨b, rfl, hb8⟩ := reg_of (n := b) hb
          exact do_move w v ps n k r now hn h hok a b c v2 cs d hk hg ha8 hb8
        · obtain ⟨a, rfl, ha8⟩ := reg_of (n := a) ha
          exact do_inc w v ps n k r now hn h hok a b c v2 cs d hk hg ha8
        · exact do_jump w v ps n k r now hn h hok a b c v2 cs d hk hg
        · obtain ⟨a, rfl, ha8⟩ := reg_of (n := a) ha
          by_cases hz : r a = 0
          · have := do_zero w v ps n k r now hn h hok a b c v2 cs d hk hg ha8 hz
            simp only [stepR, lresV]
            simp [hz]
            exact this
          · have := do_stay w v ps n k r now hn h hok a b c v2 cs d hk hg ha8 hz
            simp only [stepR, lresV]
            simp [hz]
            exact this
        · obtain ⟨a, rfl, ha8⟩ := reg_of (n := a) ha
          exact do_emit w v ps n k r now hn h hok a b c v2 cs d hk hg ha8
        · exact do_exit w v ps n k r now hn h hok a b c v2 cs d hk hg
        · obtain ⟨a, rfl, ha8⟩ := reg_of (n := a) ha
          exact do_now w v ps n k r now hn h hok a b c v2 cs d hk hg ha8
end
/-- An arena: T its struct's type, E its things' type, sz their cells. -/
def ArenaAt (T E sz : Nat) (w : World) (S : Nat → Prop) (b : Nat) (most : Nat) (n : Nat) (cs : List Value) : Prop :=
  ∃ v, S b ∧ w.heap[b]? = some (.cells #[v, .int .i64 (most : Int)] T (0, 0)) ∧ Sl w (fun k => S k ∧ k ≠ b) E sz v n cs ∧ n ≤ most ∧ most ≤ 1000
section
variable {T E sz : Nat}
theorem ArenaAt.fr {w w' : World} {S F : Nat → Prop} {b most n : Nat} {cs : List Value} (h : ArenaAt T E sz w S b most n cs) (hf : Fr F w w') (hd : ∀ k, S k → F k → False) : ArenaAt T E sz w' S b most n cs := by
  obtain ⟨v, hS, hb, hs, r⟩ := h
  exact ⟨v, hS, hf.blk (hd _ hS) hb, hs.fr hf (fun k q => hd k q.1), r⟩
theorem ArenaAt.mono {w : World} {S S' : Nat → Prop} {b most n : Nat} {cs : List Value} (h : ArenaAt T E sz w S b most n cs) (hs : ∀ k, k < w.heap.size → S k → S' k) : ArenaAt T E sz w S' b most n cs := by
  obtain ⟨v, hS, hb, hsl, r⟩ := h
  exact ⟨v, hs _ (lt_of_block hb) hS, hb, hsl.mono (fun k hk q => ⟨hs k hk q.1, q.2⟩), r⟩
end
/-- A task: its 16 numbers (prog, pc, state, how, 8 registers, its instruction's 4), its instruction's default; no cases. -/
abbrev tkA (t : Nat → Int) (d : Bool) : Array Value := #[.int .i64 (t 0), .int .i64 (t 1), .int .i64 (t 2), .int .i64 (t 3), .int .i64 (t 4), .int .i64 (t 5), .int .i64 (t 6), .int .i64 (t 7), .int .i64 (t 8), .int .i64 (t 9), .int .i64 (t 10), .int .i64 (t 11), .int .i64 (t 12), .int .i64 (t 13), .int .i64 (t 14), .int .i64 (t 15), .slice none 0 0, .bool d]
abbrev tkL (t : Nat → Int) (d : Bool) : List Value := [.int .i64 (t 0), .int .i64 (t 1), .int .i64 (t 2), .int .i64 (t 3), .int .i64 (t 4), .int .i64 (t 5), .int .i64 (t 6), .int .i64 (t 7), .int .i64 (t 8), .int .i64 (t 9), .int .i64 (t 10), .int .i64 (t 11), .int .i64 (t 12), .int .i64 (t 13), .int .i64 (t 14), .int .i64 (t 15), .slice none 0 0, .bool d]
theorem Fr.setT {b : Nat} {w w' : World} (h : Fr (fun k => k = b) w w') (o : Nat) (v : Value) : Fr (fun k => k = b) w (w'.setCell ⟨b, o, Option.none⟩ v) := h.setCell (p := ⟨b, o, Option.none⟩) (.inl rfl) v
theorem Tryz.info_task : (Tryz.prog.info? 98).map (fun i => (i.zero, i.size, i.bytes)) = some (some (.agg #[.int .i64 0, .int .i64 0, .int .i64 0, .int .i64 0, .int .i64 0, .int .i64 0, .int .i64 0, .int .i64 0, .int .i64 0, .int .i64 0, .int .i64 0, .int .i64 0, .int .i64 0, .int .i64 0, .int .i64 0, .int .i64 0, .slice none 0 0, .bool false]), 18, 160) := by kernel_rfl
theorem arena_new (most : Nat) (w : World) (h1 : 1 ≤ most) (h2 : most ≤ 1000) :
    Calls Tryz.prog 41 #[.int .i64 (most : Int)] w fun e w' => ∃ b, e = .returned (.tuple #[.pointer (some ⟨b, 0, none⟩), .int .i64 0]) ∧ Fr Nob w w' ∧ ArenaAt 161 98 18 w' (fun k => w.heap.size ≤ k ∧ k < w'.heap.size) b most 0 [] := by
  have h3 : ¬ (most : Int) < 1 := by omega
  have h4 : ¬ (1000 : Int) < most := by omega
  go_enter Tryz.func41, Tryz.ntmps41
  go_wp2
  go_ret2
  exact ⟨w.heap.size, rfl, (Fr.refl Nob w).alloc _, .slice none 0 0, by simp, blk_alloc_eq _ rfl, Sl.nil _ _ _ _, by omega, h2⟩
theorem arena_len (w : World) (S : Nat → Prop) (b most n : Nat) (cs : List Value) (h : ArenaAt 161 98 18 w S b most n cs) :
    Calls Tryz.prog 129 #[.pointer (some ⟨b, 0, none⟩)] w fun e w' => e = .returned (.int .i64 (n : Int)) ∧ w = w' := by
  obtain ⟨v, hS, hb, hs, hn, hm⟩ := h
  obtain ⟨X, c, rfl⟩ := hs.slice
  have c0 := blk_cell hb 0 rfl
  clear hb hs
  go_enter Tryz.func129, Tryz.ntmps129
  go_wp2
  go_ret
  exact ⟨rfl, rfl⟩
theorem arena_left (w : World) (S : Nat → Prop) (b most n : Nat) (cs : List Value) (h : ArenaAt 161 98 18 w S b most n cs) :
    Calls Tryz.prog 68 #[.pointer (some ⟨b, 0, none⟩)] w fun e w' => e = .returned (.int .i64 ((most : Int) - n)) ∧ ∃ m, w' = w.drewN m := by
  obtain ⟨v, hS, hb, hs, hn, hm⟩ := h
  obtain ⟨X, c, rfl⟩ := hs.slice
  have c0 := blk_cell hb 0 rfl
  have c1 := blk_cell hb 1 rfl
  clear hb hs
  go_enter Tryz.func68, Tryz.ntmps68
  go_wp2
  go_quiet (fail)
  go_wp2
  go_ret
  exact ⟨rfl, _, rfl⟩
set_option maxHeartbeats 4000000 in
theorem arena_add (w : World) (S : Nat → Prop) (b most n : Nat) (cs : List Value) (t : Nat → Int) (d : Bool) (h : ArenaAt 161 98 18 w S b most n cs) (hlt : n < most) :
    Calls Tryz.prog 48 #[.pointer (some ⟨b, 0, none⟩), .agg (tkA t d)] w fun e w' => e = .returned (.tuple #[.int .i64 (n : Int), .int .i64 0]) ∧ Fr S w w' ∧ ArenaAt 161 98 18 w' (And' S w w') b most (n + 1) (cs ++ tkL t d) := by
  have hl := fun w' (hf : Fr Nob w w') => arena_left w' S b most n cs (h.fr hf fun _ _ q => q)
  obtain ⟨v, hS, hb, hs, hn, hm⟩ := h
  obtain ⟨X, c, rfl⟩ := hs.slice
  have hz : (((most : Int) - n) == 0) = false := by simp; omega
  have Hl := Lib.hid hl
  have lb := lt_of_block hb
  have Hb := Lib.hid hb; have Hs := Lib.hid hs
  clear hl hb hs
  go_enter Tryz.func48, Tryz.ntmps48
  go_wp2_with fail
  refine (Hl.out _ ((Fr.refl _ _).alloc _)).mono ?_
  rintro e w' ⟨rfl, m, rfl⟩
  go_wp2_with fail
  obtain ⟨W, hW⟩ : ∃ W, W = (w.alloc (.cells (tkA t d) 98)).drewN m := ⟨_, rfl⟩
  rw [← hW]
  have hfW : Fr Nob w W := by rw [hW]; exact ((Fr.refl Nob w).alloc _).drewN m
  have hxW : W.heap[w.heap.size]? = some (.cells #[.int .i64 (t 0), .int .i64 (t 1), .int .i64 (t 2), .int .i64 (t 3), .int .i64 (t 4), .int .i64 (t 5), .int .i64 (t 6), .int .i64 (t 7), .int .i64 (t 8), .int .i64 (t 9), .int .i64 (t 10), .int .i64 (t 11), .int .i64 (t 12), .int .i64 (t 13), .int .i64 (t 14), .int .i64 (t 15), .slice none 0 0, .bool d] 98 (0, 0)) := by rw [hW]; exact blk_alloc_eq (w := w) _ rfl
  have hzW : W.heap.size = w.heap.size + 1 := by rw [hW]; simp [size_drewN']
  clear hW
  have hbW := hfW.blk id Hb.out
  have hsW := Hs.out.fr hfW fun _ _ q => q
  have hwrap : IntKind.i64.wrap ((n : Int) + 1 - 1) = n := by rw [show (n : Int) + 1 - 1 = n by omega]; exact IntWalk.i64_in _ (by omega)
  have x0 := blk_cell hxW 0 rfl
  have x1 := blk_cell hxW 1 rfl
  have x2 := blk_cell hxW 2 rfl
  have x3 := blk_cell hxW 3 rfl
  have x4 := blk_cell hxW 4 rfl
  have x5 := blk_cell hxW 5 rfl
  have x6 := blk_cell hxW 6 rfl
  have x7 := blk_cell hxW 7 rfl
  have x8 := blk_cell hxW 8 rfl
  have x9 := blk_cell hxW 9 rfl
  have x10 := blk_cell hxW 10 rfl
  have x11 := blk_cell hxW 11 rfl
  have x12 := blk_cell hxW 12 rfl
  have x13 := blk_cell hxW 13 rfl
  have x14 := blk_cell hxW 14 rfl
  have x15 := blk_cell hxW 15 rfl
  have x16 := blk_cell hxW 16 rfl
  have x17 := blk_cell hxW 17 rfl
  have b0 := blk_cell hbW 0 rfl
  have b1 := blk_froz hbW 0
  have lbW := lt_of_block hbW
  have lxW := lt_of_block hxW
  generalize w.heap.size = p at *
  have HbW := Lib.hid hbW; have HsW := Lib.hid hsW; have HfW := Lib.hid hfW; have HzW := Lib.hid hzW; have HxW := Lib.hid hxW
  clear hbW hsW hxW hfW hzW
  go_region_law ((refine step_append_sl _ (by rfl) _ _ _ (by rfl) (fun k => S k ∧ k ≠ b) 98 _ 18 160 Tryz.underlying159 Tryz.info_task rfl (by omega) (.slice X n c) n cs (by rfl) ((HsW.out.alloc _).drew) ⟨W.heap.size, 0, none⟩ 1 1 [.int .i64 (t 0), .int .i64 (t 1), .int .i64 (t 2), .int .i64 (t 3), .int .i64 (t 4), .int .i64 (t 5), .int .i64 (t 6), .int .i64 (t 7), .int .i64 (t 8), .int .i64 (t 9), .int .i64 (t 10), .int .i64 (t 11), .int .i64 (t 12), .int .i64 (t 13), .int .i64 (t 14), .int .i64 (t 15), .slice none 0 0, .bool d] (by rfl) (by rfl) (news_lit _ [.int .i64 (t 0), .int .i64 (t 1), .int .i64 (t 2), .int .i64 (t 3), .int .i64 (t 4), .int .i64 (t 5), .int .i64 (t 6), .int .i64 (t 7), .int .i64 (t 8), .int .i64 (t 9), .int .i64 (t 10), .int .i64 (t 11), .int .i64 (t 12), .int .i64 (t 13), .int .i64 (t 14), .int .i64 (t 15), .slice none 0 0, .bool d] 98 (0, 0) _ (heap_alloc_new W _)) (by rfl) (by omega) (by omega) ?_; intro v3 w3 hs3 hf3; obtain ⟨X3, c3, rfl⟩ := hs3.slice; have hb3 := hf3.blk (fun q => q.2 rfl) (show ((W.alloc (.cells #[.int .i64 (t 0), .int .i64 (t 1), .int .i64 (t 2), .int .i64 (t 3), .int .i64 (t 4), .int .i64 (t 5), .int .i64 (t 6), .int .i64 (t 7), .int .i64 (t 8), .int .i64 (t 9), .int .i64 (t 10), .int .i64 (t 11), .int .i64 (t 12), .int .i64 (t 13), .int .i64 (t 14), .int .i64 (t 15), .slice none 0 0, .bool d] 98)).drew).heap[b]? = _ from (blk_alloc_ne _ lbW).trans HbW.out); have d0 := blk_cell hb3 0 rfl; have g0 := blk_froz hb3 0; have hsz := hf3.size; have Hb3 := Lib.hid hb3; have Hs3 := Lib.hid hs3; have Hf3 := Lib.hid hf3; clear hb3 hs3 hf3))
  all_goals
    have d1 := blk_cell (blk_set Hb3.out 0 (.slice X3 (n + 1) c3)) 0 rfl
    go_wp2_with fail
    go_ret2
    have e1 : ((n : Int) + 1 - 1) = n := by omega
    have ez : ((W.alloc (.cells #[.int .i64 (t 0), .int .i64 (t 1), .int .i64 (t 2), .int .i64 (t 3), .int .i64 (t 4), .int .i64 (t 5), .int .i64 (t 6), .int .i64 (t 7), .int .i64 (t 8), .int .i64 (t 9), .int .i64 (t 10), .int .i64 (t 11), .int .i64 (t 12), .int .i64 (t 13), .int .i64 (t 14), .int .i64 (t 15), .slice none 0 0, .bool d] 98)).drew).heap.size = W.heap.size + 1 := by simp
    refine ⟨by simp [e1], ((HfW.out.none.alloc _).drew.trans0 (Hf3.out.mono fun k _ q => q.1)).setCell (.inl hS) _, .slice X3 (n + 1) c3, .inl hS, ?_, ?_, by omega, hm⟩
    · exact blk_set Hb3.out 0 _
    · refine (Hs3.out.fr ((Fr.refl (fun k => k = b) w3).setCell (p := ⟨b, 0, none⟩) (.inl rfl) _) ?_).mono ?_
      · intro k q e
        rcases q with q | q
        · exact q.2 e
        · subst e; omega
      · intro k hk q
        have hh := HfW.out.size
        rcases q with q | q
        · exact ⟨.inl q.1, q.2⟩
        · exact ⟨.inr ⟨by omega, by simpa using hk⟩, by rintro rfl; omega⟩
/-- The cells of a task, as one. -/
def tkD (t : Nat → Int) (d : Bool) : List Value := tkL t d
theorem tkD_len (t : Nat → Int) (d : Bool) : (tkD t d).length = 18 := rfl
theorem tkD_one (t : Nat → Int) (d : Bool) : ∀ v ∈ tkD t d, v.oneCell' = true := by
  intro v hv
  simp only [tkD, tkL, List.mem_cons, List.not_mem_nil, or_false] at hv
  rcases hv with rfl | rfl | rfl | rfl | rfl | rfl | rfl | rfl | rfl | rfl | rfl | rfl | rfl | rfl | rfl | rfl | rfl | rfl <;> rfl
theorem tkD_all (t : Nat → Int) (d : Bool) : (tkD t d).toArray.all (·.oneCell') = true := all_oneCell_toArray (tkD_one t d)
def tkZ : List Value := tkL (fun _ => 0) false
theorem info_task18 : (Tryz.prog.info? 98).map (·.size) = some 18 := by kernel_rfl
theorem arena_addD (w : World) (S : Nat → Prop) (b most n : Nat) (cs : List Value) (t : Nat → Int) (d : Bool) (h : ArenaAt 161 98 18 w S b most n cs) (hlt : n < most) :
    Calls Tryz.prog 48 #[.pointer (some ⟨b, 0, none⟩), .agg (tkD t d).toArray] w fun e w' => e = .returned (.tuple #[.int .i64 (n : Int), .int .i64 0]) ∧ Fr S w w' ∧ ArenaAt 161 98 18 w' (And' S w w') b most (n + 1) (cs ++ tkD t d) :=
  arena_add w S b most n cs t d h hlt
theorem setRow (w : World) (b : Nat) (cells old : Array Value) (T : TypeId) (hb : w.heap[b]? = some (.cells old T (0, 0))) (hsz : old.size = cells.size) : (w.setCells b 0 cells.toList).heap[b]? = some (.cells cells T (0, 0)) := by
  obtain ⟨blk', q1, q2, q3, q4⟩ := setCells_blk b T (0, 0) cells.toList 0 w old hb (by simp; omega)
  have e : blk' = cells := by
    apply Array.ext_getElem?
    intro i
    by_cases hi : i < cells.size
    · have := q4 i cells[i] (by simp [hi])
      rw [Nat.zero_add] at this
      rw [this]; simp [hi]
    · rw [Array.getElem?_eq_none (by omega), Array.getElem?_eq_none (by omega)]
  rw [e] at q1; exact q1
theorem thereRow {w : World} {b : Nat} {old : Array Value} {T : TypeId} (hb : w.heap[b]? = some (.cells old T (0, 0))) (n : Nat) (hn : n ≤ old.size) : w.there b 0 n := fun j hj => by
  rw [Nat.zero_add]
  have hj' : j < old.size := by omega
  exact ⟨by rw [blk_cell hb j (Array.getElem?_eq_getElem hj')]; rfl, blk_froz hb j⟩
theorem rangeRow {w : World} {b : Nat} {cs : List Value} {T : TypeId} (hb : w.heap[b]? = some (.cells cs.toArray T (0, 0))) : w.rangeAt b 0 cs := fun j v hv => by
  rw [Nat.zero_add]; exact blk_cell hb j (by simpa using hv)
/-- Two results, the first of them a row in its block. -/
theorem res_row2 {P : Program} {fn : Func} {p q : Tmp} {ty : TypeId} (h : fn.results = #[.cell p ty, .tmp q]) (tmps : Array Value) (w : World) (g : Nat) (t : TypeId) (cs : Array Value) (fr : Nat × Nat) (d : TypeDesc) (v : Value)
    (hp : tmps.getD p undef = .pointer (some ⟨g, 0, none⟩)) (hq : tmps.getD q undef = v) (hg : w.heap[g]? = some (.cells cs t fr))
    (hu : P.underlying ty = some d) (hd : (match d with | .struct _ | .array _ _ => true | _ => false) = true) (hi : (P.info? ty).map (·.size) = some cs.size) :
    (results fn tmps).run P w = .ok (.tuple #[.agg cs, v]) w := by
  have hp' : tmps[p]?.getD undef = .pointer (some ⟨g, 0, none⟩) := by simpa using hp
  have hq' : tmps[q]?.getD undef = v := by simpa using hq
  simp [results, h, hp', hq', asAddr, run_loadVar_row w g t ty cs fr d hg hu hd hi]
set_option maxHeartbeats 1000000 in
theorem arena_get (w : World) (S : Nat → Prop) (b most n : Nat) (cs : List Value) (i : Nat) (t : Nat → Int) (d : Bool) (h : ArenaAt 161 98 18 w S b most n cs) (hi : i < n) (hx : ∀ j, j < 18 → cs[i * 18 + j]? = (tkD t d)[j]?) :
    Calls Tryz.prog 83 #[.pointer (some ⟨b, 0, none⟩), .int .i64 (i : Int)] w fun e w' => e = .returned (.tuple #[.agg (tkD t d).toArray, .bool true]) ∧ Fr Nob w w' := by
  have hl := fun w' (hf : Fr Nob w w') => arena_len w' S b most n cs (h.fr hf fun _ _ q => q)
  have Hl := Lib.hid hl
  obtain ⟨v, hS, hb, hs, hn, hm⟩ := h
  obtain ⟨g, off, c, rfl, _, hg, hc1, hc2, hc, _⟩ := hs.form (by omega)
  have hr : ∀ W, Fr Nob w W → W.rangeAt g (off + i * 18) (tkD t d) := fun W hW j u hj => by
    have hj18 : j < 18 := by have := (List.getElem?_eq_some_iff.1 hj).1; rwa [tkD_len] at this
    rw [Nat.add_assoc]
    exact hW.cell (p := ⟨g, off + (i * 18 + j), none⟩) id (hc _ _ ((hx j hj18).trans hj))
  unfold maxLen at hc2
  have h0 : ¬ (i : Int) < 0 := by omega
  have h1 : ¬ (n : Int) ≤ i := by omega
  have Hb := Lib.hid hb; have Hr := Lib.hid hr
  have Hone := Lib.hid (tkD_all t d)
  have Hlen := Lib.hid (tkD_len t d)
  clear hl hb hs hc hx hr
  generalize tkD t d = L at *
  go_enter Tryz.func83, Tryz.ntmps83
  go_wp2_with fail
  obtain ⟨w1, hw1⟩ : ∃ w1, w1 = w.alloc (.cells tkZ.toArray 98) := ⟨_, rfl⟩
  have hw1' := hw1
  unfold tkZ at hw1'
  dsimp only [tkL] at hw1'
  rw [← hw1']
  clear hw1'
  obtain ⟨rb, hrb⟩ : ∃ rb, rb = w.heap.size := ⟨_, rfl⟩
  rw [← hrb]
  have hf1 : Fr Nob w w1 := by rw [hw1]; exact (Fr.refl Nob w).alloc _
  have hb1 : w1.heap[rb]? = some (.cells tkZ.toArray 98 (0, 0)) := by rw [hw1, hrb]; exact heap_alloc_new _ _
  have Hz1 : Hid (w.heap.size = rb) := hrb.symm
  clear hw1 hrb
  refine (Hl.out _ hf1).mono ?_
  rintro e wx ⟨rfl, hwx⟩
  obtain rfl : w1 = wx := hwx
  have c0 := blk_cell (hf1.blk id Hb.out) 0 rfl
  have Hf1 := Lib.hid hf1; have Hb1 := Lib.hid hb1
  clear hf1 hb1
  go_wp2_with (first | (refine wpList_load_mid rfl 98 (.tmp 21) rfl g (off + i * 18) rfl L _ (Hr.out w1 Hf1.out) Tryz.underlying98 rfl (by rw [info_task18, Hlen.out]) ?_) | (refine wpList_store_mid rfl 98 (.tmp 4) (.tmp 22) rfl rb 0 L.toArray rfl rfl (thereRow Hb1.out _ (by rw [List.size_toArray, Hlen.out]; exact Nat.le_refl _)) (by rw [info_task18, List.size_toArray, Hlen.out]) Hone.out ?_))
  have hb2 := setRow w1 rb L.toArray tkZ.toArray 98 Hb1.out (by rw [List.size_toArray, List.size_toArray, Hlen.out]; rfl)
  have hf2 : Fr (fun k => k = rb) w1 (w1.setCells rb 0 L) := setCells_fr rb L 0 w1
  refine bodyPost_ret (res_row2 Tryz.results83 _ _ rb 98 L.toArray (0, 0) _ (.bool true) rfl rfl hb2 Tryz.underlying98 rfl (by rw [info_task18, List.size_toArray, Hlen.out])) rfl ⟨rfl, Hf1.out.trans hf2 fun k hk e => by have := Hz1.out; omega⟩
/-- A row of such things with number i another one. -/
def rowSet (cs : List Value) (i : Nat) (L : List Value) : List Value := cs.take (i * 18) ++ L ++ cs.drop (i * 18 + 18)
theorem rowSet_len {cs : List Value} {i n : Nat} {L : List Value} (hn : cs.length = n * 18) (hi : i < n) (hL : L.length = 18) : (rowSet cs i L).length = n * 18 := by
  have : i * 18 + 18 ≤ n * 18 := by omega
  unfold rowSet; simp; omega
theorem rowSet_get {cs : List Value} {i n : Nat} {L : List Value} (hn : cs.length = n * 18) (hi : i < n) (hL : L.length = 18) (j : Nat) : (rowSet cs i L)[j]? = if i * 18 ≤ j ∧ j < i * 18 + 18 then L[j - i * 18]? else cs[j]? := by
  have h0 : i * 18 + 18 ≤ n * 18 := by omega
  have h1 : (cs.take (i * 18)).length = i * 18 := by rw [List.length_take]; omega
  unfold rowSet
  rw [List.append_assoc, List.getElem?_append]
  split
  · next h =>
    rw [h1] at h
    rw [List.getElem?_take, if_pos h, if_neg (by omega)]
  · next h =>
    rw [h1] at h ⊢
    rw [List.getElem?_append]
    split
    · next h2 => rw [hL] at h2; rw [if_pos (by omega)]
    · next h2 =>
      rw [hL] at h2 ⊢
      rw [if_neg (by omega), List.getElem?_drop]
      congr 1; omega
theorem setCells_behind (b : Nat) (T : TypeId) (fr : Nat × Nat) : ∀ (vs : List Value) (o : Nat) (w : World) (blk blk' : Array Value), w.heap[b]? = some (.cells blk T fr) → (w.setCells b o vs).heap[b]? = some (.cells blk' T fr) → o + vs.length ≤ blk.size → ∀ j, o + vs.length ≤ j → blk'[j]? = blk[j]?
  | [], o, w, blk, blk', h, h', _, j, _ => by
    have : some (Obj.cells blk T fr) = some (Obj.cells blk' T fr) := h.symm.trans h'
    injection this with this; injection this with this; rw [this]
  | v :: r, o, w, blk, blk', h, h', hs, j, hj => by
    simp only [List.length_cons] at hs hj
    have := setCells_behind b T fr r (o + 1) (w.setCell ⟨b, o, none⟩ v) (blk.setIfInBounds o v) blk' (blk_set h o v) h' (by simp; omega) j (by omega)
    rw [this, Array.getElem?_setIfInBounds, if_neg (by omega)]
theorem Sl.setRows {w : World} {S : Nat → Prop} {T : TypeId} {n cap g off i : Nat} {cs L : List Value} (h : Sl w S T 18 (.slice (some ⟨g, off, none⟩) n cap) n cs) (hi : i < n) (hL : L.length = 18) : Sl (w.setCells g (off + i * 18) L) S T 18 (.slice (some ⟨g, off, none⟩) n cap) n (rowSet cs i L) := by
  have hlen := h.1
  refine ⟨rowSet_len hlen hi hL, ?_⟩
  rcases h.2 with ⟨h', _⟩ | ⟨g', off', cap', blk, hv, hg, hb, h1, h2, h3, h4⟩
  · cases h'
  · cases hv
    have hle : (i + 1) * 18 ≤ n * 18 := Nat.mul_le_mul_right _ hi
    have hle2 : n * 18 ≤ cap * 18 := Nat.mul_le_mul_right _ h1
    obtain ⟨blk', q1, q2, q3, q4⟩ := setCells_blk g T (0, 0) L (off + i * 18) w blk hb (by omega)
    refine .inr ⟨g, off, cap, blk', rfl, hg, q1, h1, h2, by omega, fun j u hj => ?_⟩
    rw [rowSet_get hlen hi hL] at hj
    split at hj
    · next hin =>
      have := q4 (j - i * 18) u hj
      rwa [show off + i * 18 + (j - i * 18) = off + j by omega] at this
    · next hout =>
      have hjc := h4 j u hj
      by_cases hlo : j < i * 18
      · rw [q3 (off + j) (by omega)]; exact hjc
      · -- behind the row
        have hj18 : i * 18 + 18 ≤ j := by omega
        have : blk'[off + j]? = blk[off + j]? := setCells_behind g T (0, 0) L (off + i * 18) w blk blk' hb q1 (by omega) (off + j) (by omega)
        rw [this]; exact hjc
/-- The last operation of a region that draws: the store of a row. -/
theorem last_store {P : Program} {md : Region.Mode} {ops : Array Oper} {Q : Exit → Act → World → Prop} {S : World → Prop} {fuel : Nat} {listed : Array Bool} {a : Act} {w : World} (i : Nat) (o : Oper) (hr : Region.ready md ops listed = [i]) (ho : ops[i]? = some o) (hgd : o.guard = none)
    (ty : TypeId) (x y : Operand) (hop : o.op = .store ty x y) (b off : Nat) (cells : Array Value) (hx : a.eval x = .pointer (some ⟨b, off, none⟩)) (hy : a.eval y = .agg cells) (ht : w.there b off cells.size) (hi : (P.info? ty).map (·.size) = some cells.size) (h1 : cells.all (·.oneCell') = true)
    (hS : S (w.setCells b off cells.toList)) (hd : Region.ready md ops (listed.setIfInBounds i true) = []) (h : Q .normal (a.put o.dst undef) (w.setCells b off cells.toList)) : wpAnyH P md ops Q S (fuel + 1) listed a w := by
  refine wpAnyH_ready hr (by simp) ?_
  refine AllReadyH.cons ho (fun K hK => ?_) AllReadyH.nil
  have hw : Region.wanted o (yielded ops a.tmps) = true := by simp [Region.wanted, hgd]
  rw [if_pos hw]
  exact wp_store_mid ty x y hop b off cells hx hy ht hi h1 (hK.out _ _ hS fun _ => wpAnyH_done hd h _)
set_option maxHeartbeats 2000000 in
theorem arena_set (w : World) (S : Nat → Prop) (b most n : Nat) (cs : List Value) (i : Nat) (L : List Value) (hL : L.length = 18) (hone : ∀ v ∈ L, v.oneCell' = true) (h : ArenaAt 161 98 18 w S b most n cs) (hi : i < n) :
    Calls Tryz.prog 100 #[.pointer (some ⟨b, 0, none⟩), .int .i64 (i : Int), .agg L.toArray] w fun e w' => e = .returned (.bool true) ∧ Fr S w w' ∧ ArenaAt 161 98 18 w' S b most n (rowSet cs i L) := by
  have hl := fun w' (hf : Fr Nob w w') => arena_len w' S b most n cs (h.fr hf fun _ _ q => q)
  have Hl := Lib.hid hl
  obtain ⟨v, hS, hb, hs, hn, hm⟩ := h
  obtain ⟨g, off, c, rfl, hSg, hg, hc1, hc2, hc, hfz⟩ := hs.form (by omega)
  have hlen := hs.1
  unfold maxLen at hc2
  have h0 : ¬ (i : Int) < 0 := by omega
  have h1 : ¬ (n : Int) ≤ i := by omega
  have hbl := lt_of_block hb
  have Hb := Lib.hid hb; have Hs := Lib.hid hs
  have hthere : ∀ W, Fr Nob w W → W.there g (off + i * 18) 18 := fun W hW j hj => by
    have hjl : i * 18 + j < cs.length := by rw [hlen]; have : (i + 1) * 18 ≤ n * 18 := Nat.mul_le_mul_right _ hi; omega
    have := hc (i * 18 + j) _ (List.getElem?_eq_getElem hjl)
    rw [Nat.add_assoc]
    exact ⟨by rw [hW.cell (p := ⟨g, off + (i * 18 + j), none⟩) id this]; rfl, by rw [hW.frozen (p := ⟨g, off + (i * 18 + j), none⟩) id hg]; exact hfz _⟩
  have Hth := Lib.hid hthere
  clear hl hb hs hc hfz hthere
  go_enter Tryz.func100, Tryz.ntmps100
  go_wp2_with fail
  obtain ⟨w1, hw1⟩ : ∃ w1, w1 = w.alloc (.cells L.toArray 98) := ⟨_, rfl⟩
  rw [← hw1]
  obtain ⟨pb, hpb⟩ : ∃ pb, pb = w.heap.size := ⟨_, rfl⟩
  rw [← hpb]
  have hf1 : Fr Nob w w1 := by rw [hw1]; exact (Fr.refl Nob w).alloc _
  have hb1 : w1.heap[pb]? = some (.cells L.toArray 98 (0, 0)) := by rw [hw1, hpb]; exact heap_alloc_new _ _
  have Hz1 : Hid (w.heap.size = pb) := hpb.symm
  have hgp : g ≠ pb := by omega
  have hbp : b ≠ g := fun e => hSg.2 e.symm
  clear hw1 hpb
  refine (Hl.out _ hf1).mono ?_
  rintro e wx ⟨rfl, hwx⟩
  obtain rfl : w1 = wx := hwx
  have c0 := blk_cell (hf1.blk id Hb.out) 0 rfl
  have Hf1 := Lib.hid hf1; have Hb1 := Lib.hid hb1
  have hS0 : w1.rangeAt pb 0 L ∧ w1.there g (off + i * 18) 18 ∧ w1.cell? ⟨b, 0, none⟩ = some (.slice (some ⟨g, off, none⟩) n c) := ⟨rangeRow hb1, Hth.out w1 hf1, c0⟩
  have HS0 := Lib.hid hS0
  have hu44 := Tryz.underlying98
  have hi44 : (Tryz.prog.info? 98).map (·.size) = some L.length := by rw [info_task18, hL]
  have hkeep : ∀ W : World, (W.rangeAt pb 0 L ∧ W.there g (off + i * 18) 18 ∧ W.cell? ⟨b, 0, none⟩ = some (.slice (some ⟨g, off, none⟩) n c)) → ((W.setCells g (off + i * 18) L).rangeAt pb 0 L ∧ (W.setCells g (off + i * 18) L).there g (off + i * 18) 18 ∧ (W.setCells g (off + i * 18) L).cell? ⟨b, 0, none⟩ = some (.slice (some ⟨g, off, none⟩) n c)) := fun W ⟨a, bb, cc⟩ =>
    ⟨World.rangeAt_setCells_apart a _ _ _ (.inl (Ne.symm hgp)), World.there_setCells bb _ _ _, (setCells_fr g L (off + i * 18) W).cell (p := ⟨b, 0, none⟩) hbp cc⟩
  have Hkeep := Lib.hid hkeep
  clear hf1 hb1 hkeep hS0
  go_wp2_with fail
  refine wp_region_held_drew (S := fun W => W.rangeAt pb 0 L ∧ W.there g (off + i * 18) 18 ∧ W.cell? ⟨b, 0, none⟩ = some (.slice (some ⟨g, off, none⟩) n c)) (by kernel_rfl) (by simpa using HS0.out) (fun hHeld => ?_)
  refine wpAnyH_take (i := 0) (v := ?_) rfl (by kernel_rfl) (by kernel_rfl) (by kernel_rfl) (fun _ _ _ h => h) (Or.inl ⟨by rfl, ?_⟩) (by assumption) ?_
  rotate_left
  · intro w hSw; (try dsimp only at hSw); go_simp; try with_reducible rfl
  try simp only [List.getElem_toArray, List.getElem_cons_zero, List.getElem_cons_succ, Act.put, List.setIfInBounds_toArray, List.set_cons_zero, List.set_cons_succ]
  refine wpAnyH_take (i := 1) (v := ?_) rfl (by kernel_rfl) (by kernel_rfl) (by kernel_rfl) (fun _ _ _ h => h) (Or.inl ⟨by rfl, ?_⟩) (by assumption) ?_
  rotate_left
  · intro w hSw; (try dsimp only at hSw); go_simp; try with_reducible rfl
  try simp only [List.getElem_toArray, List.getElem_cons_zero, List.getElem_cons_succ, Act.put, List.setIfInBounds_toArray, List.set_cons_zero, List.set_cons_succ]
  refine wpAnyH_take (i := 2) (v := ?_) rfl (by kernel_rfl) (by kernel_rfl) (by kernel_rfl) (fun _ _ _ h => h) (Or.inl ⟨by rfl, ?_⟩) (by assumption) ?_
  rotate_left
  · intro w hSw; (try dsimp only at hSw); go_simp; try with_reducible rfl
  try simp only [List.getElem_toArray, List.getElem_cons_zero, List.getElem_cons_succ, Act.put, List.setIfInBounds_toArray, List.set_cons_zero, List.set_cons_succ]
  refine wpAnyH_take (i := 3) (v := ?_) rfl (by kernel_rfl) (by kernel_rfl) (by kernel_rfl) (fun _ _ _ h => h) (Or.inl ⟨by rfl, ?_⟩) (by assumption) ?_
  rotate_left
  · intro w hSw; (try dsimp only at hSw); go_simp; try with_reducible rfl
  try simp only [List.getElem_toArray, List.getElem_cons_zero, List.getElem_cons_succ, Act.put, List.setIfInBounds_toArray, List.set_cons_zero, List.set_cons_succ]
  refine wpAnyH_take (i := 4) (v := ?_) rfl (by kernel_rfl) (by kernel_rfl) (by kernel_rfl) (fun _ _ _ h => h) (Or.inl ⟨by rfl, ?_⟩) (by assumption) ?_
  rotate_left
  · intro w hSw; (try dsimp only at hSw); go_simp; try with_reducible rfl
  try simp only [List.getElem_toArray, List.getElem_cons_zero, List.getElem_cons_succ, Act.put, List.setIfInBounds_toArray, List.set_cons_zero, List.set_cons_succ]
  refine wpAnyH_take (i := 5) (v := _) rfl (by kernel_rfl) (by kernel_rfl) (by kernel_rfl) (fun _ _ _ h => h) (yieldsIf_load_mid (by rfl) _ _ rfl pb 0 rfl L _ (fun w hw => hw.1) hu44 rfl hi44) (by assumption) ?_
  try simp only [List.getElem_toArray, List.getElem_cons_zero, List.getElem_cons_succ, Act.put, List.setIfInBounds_toArray, List.set_cons_zero, List.set_cons_succ]
  refine wpAnyH_take (i := 6) (v := ?_) rfl (by kernel_rfl) (by kernel_rfl) (by kernel_rfl) (fun _ _ _ h => h) (Or.inl ⟨by rfl, ?_⟩) (by assumption) ?_
  rotate_left
  · intro w hSw; (try dsimp only at hSw); go_simp; try with_reducible rfl
  try simp only [List.getElem_toArray, List.getElem_cons_zero, List.getElem_cons_succ, Act.put, List.setIfInBounds_toArray, List.set_cons_zero, List.set_cons_succ]
  refine last_store 7 _ (by kernel_rfl) rfl rfl _ _ _ rfl g (off + i * 18) L.toArray rfl rfl (by rw [List.size_toArray, hL]; exact hHeld.2.1) (by rw [List.size_toArray]; exact hi44) (all_oneCell_toArray hone) (by simpa using Hkeep.out _ hHeld) (by kernel_rfl) ?_
  have hf2 : Fr (fun k => k = g) w1 (w1.drew.setCells g (off + i * 18) L) := ((Fr.refl (fun k => k = g) w1).drew).trans0 (setCells_fr g L (off + i * 18) w1.drew)
  have hs2 := (Hs.out.fr (Hf1.out.drew) fun _ _ q => q).setRows hi hL
  have hb2 := hf2.blk hbp (Hf1.out.blk id Hb.out)
  have Hf2 := Lib.hid hf2; have Hs2 := Lib.hid hs2; have Hb2 := Lib.hid hb2
  simp only [List.getElem_toArray, List.getElem_cons_zero, List.getElem_cons_succ, Act.put, List.setIfInBounds_toArray, List.set_cons_zero, List.set_cons_succ]
  clear hHeld hf2 hs2 hb2 c0
  go_wp2_with fail
  go_ret
  exact ⟨rfl, (Hf1.out.none.trans Hf2.out fun k _ e => by rw [e]; exact hSg.1), _, hS, Hb2.out, Hs2.out, hn, hm⟩
/-- The place of x in l; -1: nowhere. -/
def ixOf (l : List Int) (x : Int) : Int := if x ∈ l then ((l.idxOf x : Nat) : Int) else -1
theorem idxOf_at (l : List Int) (x : Int) (k : Nat) (hk : k < l.length) (hx : l.getD k 0 = x) (hn : x ∉ l.take k) : l.idxOf x = k := by
  have h1 : l[k] = x := by simpa [List.getD, hk] using hx
  have hm : x ∈ l := by rw [← h1]; exact List.getElem_mem hk
  have h2 := List.idxOf_lt_length_of_mem hm
  have h3 : l[l.idxOf x] = x := List.getElem_idxOf h2
  rcases Nat.lt_trichotomy (l.idxOf x) k with h | h | h
  · exfalso; apply hn
    rw [← h3]
    exact List.mem_take_iff_getElem.2 ⟨l.idxOf x, by omega, rfl⟩
  · exact h
  · exfalso
    have := List.not_of_lt_findIdx (p := fun y => y == x) (xs := l) (i := k) h
    simp [h1] at this
theorem ixOf_at (l : List Int) (x : Int) (k : Nat) (hk : k < l.length) (hx : l.getD k 0 = x) (hn : x ∉ l.take k) : ixOf l x = k := by
  have h1 : l[k] = x := by simpa [List.getD, hk] using hx
  have hm : x ∈ l := by rw [← h1]; exact List.getElem_mem hk
  rw [ixOf, if_pos hm, idxOf_at l x k hk hx hn]
theorem ixOf_no (l : List Int) (x : Int) (hn : x ∉ l) : ixOf l x = -1 := if_neg hn
theorem ixOf_ge (l : List Int) (x : Int) : decide (0 ≤ ixOf l x) = decide (x ∈ l) := by
  unfold ixOf; by_cases h : x ∈ l <;> simp [h]
set_option maxHeartbeats 400000 in
theorem index_ints (w : World) (v : Value) (l : List Int) (x : Int) (h : Rd w 1 v l.length (ints l)) :
    Calls Tryz.prog 108 #[v, .int .i64 x] w fun e w' => e = .returned (.int .i64 (ixOf l x)) ∧ w = w' := by
  obtain ⟨_, hl, A, c, rfl, hc1, hc2, hA⟩ := h
  unfold maxLen at hl
  have hat := ixOf_at l x
  have hno := ixOf_no l x
  have hd : ∀ i, i < l.length → (ints l)[i]? = some (.int .i64 (l.getD i 0)) := fun i hi => ints_get hi
  have hs : ∀ k, k < l.length → x ∉ l.take k → l.getD k 0 ≠ x → x ∉ l.take (k + 1) := fun k hk h1 h2 => by
    rw [List.take_add_one]; simp [h1]; intro h; apply h2; simpa [List.getD, hk] using h
  have ht : l.take l.length = l := List.take_length
  have HA := Lib.hid hA; have HAT := Lib.hid hat; have HNO := Lib.hid hno; have HD := Lib.hid hd; have HS := Lib.hid hs; have HT := Lib.hid ht
  generalize ixOf l x = r at *
  generalize l.length = n at *
  clear hA hat hno hd hs ht
  go_enter Tryz.func108, Tryz.ntmps108
  go_wp2
  go_loop [8] (fun i => ∃ k : Nat, k ≤ n ∧ i = .int .i64 k ∧ Hid (x ∉ l.take k)) (fun i => n - (intOf i).toNat)
  case atStart => exact ⟨0, Nat.zero_le _, rfl, show x ∉ l.take 0 by simp⟩
  case round =>
    obtain ⟨k, hk, rfl, hn⟩ := hrel
    by_cases hlt : k < n
    · obtain ⟨g, o, rfl, hg, hc⟩ := HA.out (by omega)
      have hx := hc k _ (HD.out k hlt)
      have hki : (k : Int) < n := by omega
      have h1 := HAT.out k hlt
      have h2 := HS.out k hlt hn.out
      clear hc
      generalize l.getD k 0 = y at *
      by_cases hy : y = x
      · have h3 := h1 hy hn.out
        have H3 := Lib.hid h3
        have hyx : (x == y) = true := by simp [hy]
        clear h1 h2 h3 hy
        go_wp2
        go_ret
        exact ⟨by rw [H3.out]; rfl, rfl⟩
      · have H2 : Hid (x ∉ l.take (k + 1)) := h2 hy
        have hyx : (x == y) = false := by simp; exact fun h => hy h.symm
        clear h1 h2 hy
        go_wp2
        go_round
        case rel => exact ⟨k + 1, by omega, by go_num, H2⟩
        case measure => simp [intOf]; omega
    · obtain rfl : k = n := by omega
      have hn2 : x ∉ l := by have := hn.out; rwa [HT.out] at this
      have H3 := Lib.hid (HNO.out hn2)
      clear hn2
      go_wp2
      go_ret
      exact ⟨by rw [H3.out]; rfl, rfl⟩
set_option maxHeartbeats 400000 in
theorem contains_ints (w : World) (v : Value) (l : List Int) (x : Int) (h : Rd w 1 v l.length (ints l)) :
    Calls Tryz.prog 69 #[v, .int .i64 x] w fun e w' => e = .returned (.bool (decide (x ∈ l))) ∧ w = w' := by
  have hix := index_ints w v l x h
  have hge := ixOf_ge l x
  have H := Lib.hid hix; have Hge := Lib.hid hge
  generalize ixOf l x = r at *
  clear hix h hge
  go_enter Tryz.func69, Tryz.ntmps69
  go_wp2_with fail
  refine H.out.mono ?_
  rintro e w' ⟨rfl, rfl⟩
  go_wp2_with fail
  go_ret
  exact ⟨by rw [← Hge.out]; rfl, rfl⟩
theorem rnd_eq (k n : Int) (h : 0 < n) : (k.tmod n + n).tmod n = k % n := by
  have h1 := Int.emod_nonneg k (show n ≠ 0 by omega)
  have h2 := Int.emod_lt_of_pos k h
  by_cases hk : 0 ≤ k
  · rw [Int.tmod_eq_emod_of_nonneg hk, Int.tmod_eq_emod_of_nonneg (by omega), Int.add_emod_right, Int.emod_emod]
  · have h3 := Int.tmod_lt_of_pos k h
    have h4 := Int.lt_tmod_of_pos k h
    rw [Int.tmod_eq_emod_of_nonneg (by omega), Int.add_emod_right]
    rw [Int.tmod_eq_emod]
    split
    · simp
    · rw [Int.natAbs_of_nonneg (by omega), Int.sub_emod_right, Int.emod_emod]
theorem Tryz.info_int' : (Tryz.prog.info? 3).map (fun i => (i.zero, i.size, i.bytes)) = some (some (.int .i64 0), 1, 8) := by kernel_rfl
theorem Tryz.zeroInt (w : World) : (zeroValue 3).run Tryz.prog w = .ok (.int .i64 0) w := by kernel_rfl
set_option maxHeartbeats 2000000 in
theorem delete_ints (w : World) (S : Nat → Prop) (v : Value) (l : List Int) (n i : Nat) (hn : l.length = n) (hi : i < n) (h : Sl w S 3 1 v n (ints l)) :
    Calls Tryz.prog 153 #[v, .int .i64 (i : Int), .int .i64 ((i : Int) + 1)] w fun e w' => ∃ v', e = .returned v' ∧ Fr S w w' ∧ Sl w' S 3 1 v' (n - 1) (ints (l.eraseIdx i)) := by
  obtain ⟨i0, hi0, hz0, hz1, hz2⟩ := info_parts Tryz.info_int'
  rcases h.2 with ⟨_, h0⟩ | ⟨g, off, cap, blk, rfl, hg, hb, hnc, hcm, hbs, hcell⟩
  · omega
  have hcell' : ∀ j, j < n → w.cell? ⟨g, off + j, none⟩ = some (.int .i64 (l.getD j 0)) := fun j hj => blk_cell hb _ (hcell j _ (ints_get (by omega)))
  have hfz : ∀ j, w.frozen? ⟨g, j, none⟩ = false := fun j => blk_froz hb j
  obtain ⟨news, hnews⟩ : ∃ news, news = (ints l).drop (i + 1) := ⟨_, rfl⟩
  have hlen : news.length = n - (i + 1) := by rw [hnews]; simp [hn]
  obtain ⟨A, hA, hsrc⟩ : ∃ A : Addr, (if cap = i + 1 then some (⟨g, off, none⟩ : Addr) else some ⟨g, off + (i + 1), none⟩) = some A ∧ Hid (∀ t u, news[t]? = some u → w.drew.cell? (A.add t) = some u) := by
    by_cases h : cap = i + 1
    · refine ⟨⟨g, off, none⟩, by simp [h], fun t u hu => ?_⟩
      have h0 : news.length = 0 := by rw [hlen]; omega
      rw [List.length_eq_zero_iff.1 h0] at hu
      simp at hu
    · refine ⟨⟨g, off + (i + 1), none⟩, by simp [h], fun t u hu => ?_⟩
      rw [hnews, List.getElem?_drop] at hu
      rw [Addr.add_lit, Nat.add_assoc]
      exact blk_cell hb _ (hcell _ u hu)
  have s1 : Hid (news.length = (n - (i + 1)) * 1) := by rw [Nat.mul_one]; exact hlen
  have s2 : Hid (∀ u ∈ news, u.oneCell' = true) := by
    intro u hu
    rw [hnews] at hu
    obtain ⟨x, _, rfl⟩ := List.mem_map.1 (List.mem_of_mem_drop hu)
    rfl
  have s3 : Hid (∀ t, t < news.length → (w.drew.cell? ⟨g, off + i * 1 + t, none⟩).isSome = true ∧ w.drew.frozen? ⟨g, off + i * 1 + t, none⟩ = false) := by
    intro t ht
    rw [hlen] at ht
    rw [Nat.mul_one, Nat.add_assoc]
    exact ⟨by show (w.cell? _).isSome = true; rw [hcell' _ (by omega)]; rfl, hfz _⟩
  obtain ⟨W1, hW1⟩ : ∃ W1, W1 = w.drew.setCells g (off + i * 1) news := ⟨_, rfl⟩
  obtain ⟨blk1, q1, q2, q3, q4⟩ := setCells_blk g 3 (0, 0) news (off + i * 1) w.drew blk hb (by omega)
  have hfr1 : Fr S w W1 := by rw [hW1]; exact (Fr.refl S w).drew.trans0 ((setCells_fr g news _ w.drew).mono fun k _ e => by rw [e]; exact hg)
  rw [← hW1] at q1
  have e1 : i + (n - (i + 1)) = n - 1 := by omega
  have e2 : n - (n - 1) = 1 := by omega
  have hcl : ∀ ty, (Builtin.clear_ #[39] ty #[.slice (some ⟨g, off + (i + (n - (i + 1))), none⟩) (n - (i + (n - (i + 1)))) (cap - (i + (n - (i + 1))))]).run Tryz.prog W1 = .ok (.tuple #[]) (W1.setCells g (off + (i + (n - (i + 1)))) (List.replicate (n - (i + (n - (i + 1)))) (.int .i64 0))) :=
    fun ty => Lib.run_clear_slice W1 _ _ ty _ Tryz.underlying39 Tryz.zeroInt rfl rfl g (off + (i + (n - (i + 1)))) _ _ (by omega) (fun t ht => by
      have hlt : off + (i + (n - (i + 1))) + t < blk1.size := by omega
      rw [blk_cell q1 _ (Array.getElem?_eq_getElem hlt)]; rfl) (fun t ht => blk_froz q1 _)
  have hW : Hid (W1 = w.drew.setCells g (off + i * 1) news) := hW1
  have hic : i ≤ cap := by omega
  have hjc : i + 1 ≤ cap := by omega
  unfold maxLen at hcm
  have Hb1 := Lib.hid q1; have Hfr1 := Lib.hid hfr1; have Hbs := Lib.hid hbs; have Q2 := Lib.hid q2; have Q3 := Lib.hid q3; have Q4 := Lib.hid q4; have Hcell := Lib.hid hcell; have Hnews := Lib.hid hnews; have HL := Lib.hid hlen; have E1 := Lib.hid e1; have E2 := Lib.hid e2; have Hn := Lib.hid hn
  clear hW1 hb hcell hcell' hfz hnews hlen h q1 q2 q3 q4 hfr1 hbs e1 e2 hn
  have hi1 : ((i : Int) == (i : Int) + 1) = false := by simp; omega
  have hi2 : (i : Int) + 1 ≤ (n : Int) := by omega
  have hi3 : (0 : Int) ≤ (i : Int) + 1 := by omega
  go_enter Tryz.func153, Tryz.ntmps153
  go_wp2_with fail
  go_region_law (refine step_append_room rfl (.tmp 22) (.tmp 25) 39 rfl 3 i0 1 Tryz.underlying39 hi0 hz1 g off i cap (by simp [Act.eval, Act.put]) A (n - (i + 1)) (cap - (i + 1)) news (by simp [Act.eval, Act.put]) s1.out hsrc.out s2.out (by omega) s3.out ?_; rw [← hW.out])
  go_wp2
  go_ret
  rw [E1.out, E2.out]
  obtain ⟨blk2, r1, r2, r3, _⟩ := setCells_blk g 3 (0, 0) (List.replicate 1 (.int .i64 0)) (off + (n - 1)) W1 blk1 Hb1.out (by have := Hbs.out; have := Q2.out; simp; omega)
  refine ⟨_, rfl, Hfr1.out.trans0 ((setCells_fr g _ _ W1).mono fun k _ e => by rw [e]; exact hg), ⟨by simp [List.length_eraseIdx, Hn.out, hi], .inr ⟨g, off, cap, blk2, ?_, hg, r1, by omega, by unfold maxLen; omega, by have := Hbs.out; have := Q2.out; omega, fun j u hj => ?_⟩⟩⟩
  · rfl
  · have hj1 := (List.getElem?_eq_some_iff.1 hj).1
    simp [List.length_eraseIdx, Hn.out, hi] at hj1
    rw [r3 _ (by omega)]
    rw [List.getElem?_map, List.getElem?_eraseIdx] at hj
    by_cases hji : j < i
    · rw [if_pos hji] at hj
      rw [Q3.out _ (by omega)]
      exact Hcell.out j u (by rw [List.getElem?_map]; exact hj)
    · rw [if_neg hji] at hj
      have := Q4.out (j - i) u (by rw [Hnews.out, List.getElem?_drop, show i + 1 + (j - i) = j + 1 by omega, List.getElem?_map]; exact hj)
      rwa [show off + i * 1 + (j - i) = off + j by omega] at this
set_option maxHeartbeats 800000 in
theorem clone_ints (w : World) (v : Value) (l : List Int) (n : Nat) (hn : l.length = n) (hb : n ≤ 1000000) (h : Rd w 1 v n (ints l)) :
    Calls Tryz.prog 126 #[v] w fun e w' => ∃ v', e = .returned v' ∧ Fr Nob w w' ∧ Sl w' (From w.heap.size) 3 1 v' n (ints l) := by
  obtain ⟨hl, _, A, c, rfl, hc1, hc2, hA⟩ := h
  have heq := fun w : World => Lib.run_eql_slice_nil (P := Tryz.prog) w 39 3
  cases A with
  | none =>
    obtain rfl : n = 0 := by
      rcases Nat.eq_zero_or_pos n with h | h
      · exact h
      · obtain ⟨g, o, h1, _⟩ := hA h; cases h1
    obtain rfl : l = [] := List.eq_nil_of_length_eq_zero hn
    have hk := fun w : World => Lib.run_eql_slice_nil (P := Tryz.prog) w 39 3 none 0 c 0 0 Tryz.underlying39
    clear heq hA
    go_enter Tryz.func126, Tryz.ntmps126
    go_wp2
    go_ret
    exact ⟨_, rfl, Fr.refl _ _, Sl.nil _ _ _ _⟩
  | some ad =>
    have hk := fun w : World => Lib.run_eql_slice_nil (P := Tryz.prog) w 39 3 (some ad) n c 0 0 Tryz.underlying39
    have hnews : ∀ j u, (ints l)[j]? = some u → (w.alloc (.cells #[] 3)).cell? (ad.add j) = some u := fun j u hj => by
      have hjl := (List.getElem?_eq_some_iff.1 hj).1
      obtain ⟨g, o, h1, h2, h3⟩ := hA (by simp at hjl; omega)
      cases h1
      rw [Addr.add_lit]
      exact ((Fr.refl Nob w).alloc _).cell (p := ⟨g, o + j, none⟩) id (h3 j u hj)
    have h0 : Sl (w.alloc (.cells #[] 3)) (From w.heap.size) 3 1 (.slice (some ⟨w.heap.size, 0, none⟩) 0 0) 0 [] :=
      Sl.lit w 3 1 #[] 0 (From w.heap.size) (by simp [From]) (by simp [maxLen]) rfl
    have Hnews := Lib.hid hnews; have H0 := Lib.hid h0; have Hl := Lib.hid hl
    clear heq hA hnews h0 hl
    go_enter Tryz.func126, Tryz.ntmps126
    go_wp2_with (at_builtin; refine wpList_append_sl _ rfl _ _ _ rfl (From w.heap.size) 3 _ 1 8 Tryz.underlying39 Tryz.info_int' rfl (by omega) (.slice (some ⟨w.heap.size, 0, none⟩) 0 0) 0 [] rfl H0.out ad n c (ints l) rfl Hl.out Hnews.out (ints_oneCell .i64 l) (by unfold maxLen; omega) (by omega) ?_; intro v1 w1 hs1 hf1)
    obtain ⟨A1, c1, rfl⟩ := hs1.slice
    go_ret
    have hz := hf1.size
    simp at hz
    refine ⟨_, rfl, (((Fr.refl Nob w).alloc (.cells #[] 3)).none.trans0 hf1).mono fun k hk q => by unfold From at q; omega, ?_⟩
    rw [Nat.zero_add] at hs1 ⊢
    exact hs1.mono fun k hk q => by rcases q with q | q; exact q; simp at q; unfold From; omega
/-- A number as a place among so many. -/
theorem script_pick (w : World) (k n : Int) (h : 0 < n) (hn : n ≤ 4611686018427387904) :
    Calls Tryz.prog 128 #[.int .i64 k, .int .i64 n] w fun e w' => e = .returned (.int .i64 (k % n)) ∧ w = w' := by
  have h3 := Int.tmod_lt_of_pos k h
  have h4 := Int.lt_tmod_of_pos k h
  have h1 : ¬ n < 1 := by omega
  by_cases hneg : k.tmod n < 0
  · have h7 : wrap64 (k.tmod n + n) = k.tmod n + n := by unfold wrap64; omega
    have e1 : k.tmod n + n = k % n := by
      have h5 := Int.tmod_eq_of_lt (a := k.tmod n + n) (b := n) (by omega) (by omega)
      rw [← rnd_eq k n h, h5]
    have H7 := Lib.hid (h7.trans e1); clear h7 e1
    go_enter Tryz.func128, Tryz.ntmps128
    go_wp2
    go_ret
    refine ⟨?_, rfl⟩
    first | (show Ending.returned (.int .i64 (wrap64 (k.tmod n + n))) = _; rw [H7.out]) | (show Ending.returned (.int .i64 (k.tmod n + n)) = _; rw [← H7.out]; congr 2; unfold wrap64; omega)
  · have e1 : k.tmod n = k % n := by
      have h5 := Int.tmod_eq_of_lt (a := k.tmod n) (b := n) (by omega) (by omega)
      rw [← rnd_eq k n h, Int.tmod_eq_emod_of_nonneg (a := k.tmod n + n) (by omega), Int.add_emod_right, ← Int.tmod_eq_emod_of_nonneg (by omega), h5]
    have H7 := Lib.hid e1; clear e1
    go_enter Tryz.func128, Tryz.ntmps128
    go_wp2
    go_ret
    refine ⟨?_, rfl⟩
    show Ending.returned (.int .i64 (k.tmod n)) = _
    rw [H7.out]
end Go.Proofs.YtcffplgimbbflaaGreat
