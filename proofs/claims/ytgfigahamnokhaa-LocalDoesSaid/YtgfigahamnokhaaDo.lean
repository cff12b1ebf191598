/- What Do of package local does. -/
import Derived.Test.YtgfigahamnokhaaStSet
import Derived.Test.YtgfigahamnokhaaStMove
import Derived.Test.YtgfigahamnokhaaStInc
import Derived.Test.YtgfigahamnokhaaStJump
import Derived.Test.YtgfigahamnokhaaStStay
import Derived.Test.YtgfigahamnokhaaStZero
import Derived.Test.YtgfigahamnokhaaStEmit
import Derived.Test.YtgfigahamnokhaaStExit
import Derived.Test.YtgfigahamnokhaaStNow
set_option linter.unusedVariables false
set_option linter.unusedSimpArgs false
namespace Go.Proofs.Ytgfigahamnokhaa
open Go.RowKit
set_option maxRecDepth 100000

abbrev Res := (Int × (Nat → Int) × Bool × Int × Bool) × Int
abbrev resV (o : Res) : Value := .tuple #[.agg (outA o.1.1 o.1.2.1 o.1.2.2.1 o.1.2.2.2.1 o.1.2.2.2.2), .int .i64 o.2]
def noR (e : Int) : Res := ((0, fun _ => 0, false, 0, false), e)
def stepR (op a b : Int) (k : Nat) (r : Nat → Int) (now : Int) : Int × (Nat → Int) × Bool × Int × Bool :=
  if op = 1 then (k + 1, upd r a.toNat b, false, 0, false)
  else if op = 2 then (k + 1, upd r a.toNat (r b.toNat), false, 0, false)
  else if op = 3 then (k + 1, upd r a.toNat (addT (r a.toNat) b), false, 0, false)
  else if op = 4 then (a, r, false, 0, false)
  else if op = 5 then (if r a.toNat = 0 then b else k + 1, r, false, 0, false)
  else if op = 6 then (k + 1, r, true, r a.toNat, false)
  else if op = 7 then (k, r, false, 0, true)
  else (k + 1, upd r a.toNat now, false, 0, false)
def doR (ps : List Ins) (pc : Int) (r : Nat → Int) (now : Int) : Res :=
  if progB ps = false ∨ pc < 0 ∨ (ps.length : Int) < pc then noR 1
  else if pc = ps.length then ((pc, r, false, 0, true), 0)
  else match ps[pc.toNat]? with
    | none => noR 1
    | some y => if mineB y.1.1 = false then noR 7 else (stepR y.1.1 y.1.2.1 y.1.2.2.1 pc.toNat r now, 0)
theorem good_of {ps : List Ins} {k : Nat} {y : Ins} (hp : progB ps = true) (hk : ps[k]? = some y) : goodB y ps.length = true := by
  unfold progB at hp
  simp only [Bool.and_eq_true, List.all_eq_true] at hp
  exact hp.2 y (List.mem_of_getElem? hk)
theorem reg_of {n : Int} (h : regB n = true) : ∃ a : Nat, n = a ∧ a < 8 := by
  simp [regB] at h
  exact ⟨n.toNat, by omega, by omega⟩
section
variable (w : World) (v : Value) (ps : List Ins) (n k : Nat) (r : Nat → Int) (now : Int) (hn : ps.length = n) (h : Rd w 6 v n (ps.flatMap insEn)) (hok : ∀ i ∈ ps, InsOk w i)
include hn h hok
set_option maxHeartbeats 2000000 in
theorem do_other (op a b c : Int) (v2 : Value) (cs : List Cs) (d : Bool) (hk : ps[k]? = some (((op, a, b, c), v2, cs, d) : Ins)) (hgood : progB ps = true) (hmi : mineB op = false) :
    Calls Try.prog 9 #[v, .int .i64 k, .agg (regA r), .int .i64 now] w fun e w' => e = .returned (.tuple #[.agg outZ, .int .i64 7]) ∧ Fr Nob w w' := by
  have hkn : k < n := by rw [← hn]; exact (List.getElem?_eq_some_iff.1 hk).1
  have hch := fun W (hf : Fr Nob w W) => check_any W _ ps n hn (h.fr hf) fun i hi => (hok i hi).fr hf
  have hm : ∀ W : World, Calls Try.prog 11 #[.int .i64 op] W fun e w' => e = .returned (.bool false) ∧ W = w' := fun W => by have := mine_any W op; rwa [hmi] at this
  obtain ⟨_, hl, A, c1, rfl, hc1, hc2, hA⟩ := h
  obtain ⟨g, o, rfl, hgl, hc⟩ := hA (by omega)
  unfold maxLen at hl
  have q0 := hc _ _ ((insGet ps k 0 _ hk (by omega)).trans rfl)
  rw [Nat.add_zero] at q0
  have hi28 : (Try.prog.info? 28).map (fun i => i.size) = some 12 := by kernel_rfl
  have hf0 : Fr Nob w ((w.alloc (.cells (regA r) 23)).alloc (.cells outZ 28)) := ((Fr.refl _ _).alloc _).alloc _
  have hb0 : ((w.alloc (.cells (regA r) 23)).alloc (.cells outZ 28)).heap[w.heap.size + 1]? = some (.cells outZ 28 (0, 0)) := blk_alloc_eq _ (by simp)
  rw [hgood] at hch
  have hki : (k : Int) < n := by omega
  have key : ∀ w1 w2, Fr Nob ((w.alloc (.cells (regA r) 23)).alloc (.cells outZ 28)) w1 → Fr (fun k => k = w.heap.size + 1) w1 w2 → Fr Nob w w2 := fun w1 w2 f1 f2 => (hf0.trans0 f1).trans f2 fun k hk e => by omega
  have Hch := Lib.hid hch; have Hf0 := Lib.hid hf0; have Hb0 := Lib.hid hb0; have Hi := Lib.hid hi28; have Hm := Lib.hid hm; have Q0 := Lib.hid q0; have Key := Lib.hid key
  clear hch hok hf0 hb0 hi28 hc hk hm q0 key hmi
  go_enter Try.func9, Try.ntmps9
  go_wp2_with fail
  refine (Hch.out _ Hf0.out).mono ?_
  rintro e w1 ⟨rfl, hf1⟩
  have Hf1 := Lib.hid hf1; have Hb1 := Lib.hid (hf1.blk id Hb0.out)
  have x0 := (Hf0.out.trans0 hf1).cell (p := ⟨g, o + k * 6, none⟩) id Q0.out
  clear hf1
  have k0 : decide (0 ≤ k) = true := decide_eq_true (Nat.zero_le k)
  have k0' : decide ((0 : Int) ≤ k) = true := decide_eq_true (by omega)
  have k1 : decide ((k : Int) < 0) = false := decide_eq_false (by omega)
  have k2 : decide ((n : Int) < k) = false := decide_eq_false (by omega)
  have k2' : decide (n < k) = false := decide_eq_false (by omega)
  have k3 : decide (k < n) = true := decide_eq_true hkn
  have k4 : decide ((k : Int) < n) = true := decide_eq_true hki
  have k5 : ((k : Int) == (n : Int)) = false := beq_eq_false_iff_ne.2 (by omega)
  have k6 : (k == n) = false := beq_eq_false_iff_ne.2 (by omega)
  go_wp2_with fail
  refine (Hm.out _).mono ?_
  rintro e _ ⟨rfl, rfl⟩
  go_wp2_with (refine wpList_store_row w1 rfl 28 (.tmp 8) (.tmp 43) rfl (w.heap.size + 1) outZ outZ 28 rfl rfl Hb1.out rfl Hi.out outZ_one ?_; intro w2 hb2 hf2; have Hb2 := Lib.hid hb2; have Hf2 := Lib.hid hf2; clear hb2 hf2)
  obtain ⟨t0, t1, t2, t3, t4, t5, t6, t7, t8, t9, t10, t11⟩ := row_cellsZ Hb2.out
  exact bodyPost_ret (v := .tuple #[.agg outZ, .int .i64 7]) (by simp [results, Try.results9, go_sem, t0, t1, t2, t3, t4, t5, t6, t7, t8, t9, t10, t11]) rfl ⟨rfl, Key.out _ _ Hf1.out Hf2.out⟩
theorem do_any (pc : Int) : Calls Try.prog 9 #[v, .int .i64 pc, .agg (regA r), .int .i64 now] w fun e w' => e = .returned (resV (doR ps pc r now)) ∧ Fr Nob w w' := by
  unfold doR
  by_cases hbad : progB ps = false ∨ pc < 0 ∨ (ps.length : Int) < pc
  · rw [if_pos hbad]
    exact do_bad w v ps n pc r now hn h hok (by rwa [hn] at hbad)
  · rw [if_neg hbad]
    have hg : progB ps = true := by cases hq : progB ps; exact absurd (.inl hq) hbad; rfl
    have hp0 : 0 ≤ pc := Int.not_lt.1 fun q => hbad (.inr (.inl q))
    have hp1 : pc ≤ ps.length := Int.not_lt.1 fun q => hbad (.inr (.inr q))
    by_cases he : pc = ps.length
    · rw [if_pos he]
      subst he
      have := do_end w v ps n (ps.length : Int) r now hn h hok hg (by rw [hn])
      rw [← hn] at this
      exact this
    · rw [if_neg he]
      obtain ⟨k, rfl⟩ : ∃ k : Nat, pc = k := ⟨pc.toNat, by omega⟩
      have hk : ps[k]? = some (ps[k]'(by omega)) := List.getElem?_eq_getElem _
      rw [Int.toNat_natCast, hk]
      dsimp only
      generalize ps[k] = y at hk ⊢
      have hgd := good_of hg hk
      obtain ⟨⟨op, a, b, c⟩, v2, cs, d⟩ := y
      dsimp only at hgd ⊢
      by_cases hm : mineB op = false
      · rw [if_pos hm]
        exact do_other w v ps n k r now hn h hok op a b c v2 cs d hk hg hm
      · rw [if_neg hm]
        have hm' : mineB op = true := by simpa using hm
        have hop : op = 1 ∨ op = 2 ∨ op = 3 ∨ op = 4 ∨ op = 5 ∨ op = 6 ∨ op = 7 ∨ op = 16 := by
          simp [mineB] at hm'
          omega
        unfold goodB at hgd
        dsimp only at hgd
        simp only [Bool.and_eq_true] at hgd
        obtain ⟨⟨⟨⟨_, ha⟩, hb⟩, _⟩, _⟩ := hgd
        rcases hop with rfl | rfl | rfl | rfl | rfl | rfl | rfl | rfl
        · obtain ⟨a, rfl, ha8⟩ := reg_of (n := a) ha
          exact do_set w v ps n k r now hn h hok a b c v2 cs d hk hg ha8
        · obtain ⟨a, rfl, ha8⟩ := reg_of (n := a) ha
          obtain ⟨b, rfl, hb8⟩ := reg_of (n := b) hb
          exact do_move w v ps n k r now hn h hok a b c v2 cs d hk hg ha8 hb8
        · obtain ⟨a, rfl, ha8⟩ := reg_of (n := a) ha
          exact do_inc w v ps n k r now hn h hok a b c v2 cs d hk hg ha8
        · exact do_jump w v ps n k r now hn h hok a b c v2 cs d hk hg
        · obtain ⟨a, rfl, ha8⟩ := reg_of (n := a) ha
          by_cases hz : r a = 0
          · have := do_zero w v ps n k r now hn h hok a b c v2 cs d hk hg ha8 hz
            simp only [stepR, resV]
            simp [hz]
            exact this
          · have := do_stay w v ps n k r now hn h hok a b c v2 cs d hk hg ha8 hz
            simp only [stepR, resV]
            simp [hz]
            exact this
        · obtain ⟨a, rfl, ha8⟩ := reg_of (n := a) ha
          exact do_emit w v ps n k r now hn h hok a b c v2 cs d hk hg ha8
        · exact do_exit w v ps n k r now hn h hok a b c v2 cs d hk hg
        · obtain ⟨a, rfl, ha8⟩ := reg_of (n := a) ha
          exact do_now w v ps n k r now hn h hok a b c v2 cs d hk hg ha8
end
end Go.Proofs.Ytgfigahamnokhaa
