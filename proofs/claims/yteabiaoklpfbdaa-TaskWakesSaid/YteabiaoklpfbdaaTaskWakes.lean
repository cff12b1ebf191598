/- TaskWakes answers true whatever its operation, registers, case and value are: no condition. -/
import Derived.Test.YteabiaoklpfbdaaTaskC3
import Derived.Test.YteabiaoklpfbdaaTaskC2
import Derived.Test.YteabiaoklpfbdaaTaskC5
import Derived.Test.YteabiaoklpfbdaaTaskAwake
import Derived.Test.YteabiaoklpfbdaaOpen
import Derived.Test.YteabiaoklpfbdaaRound
set_option linter.unusedVariables false
set_option linter.unusedSimpArgs false
namespace Go.Proofs.Yteabiaoklpfbdaa
open Go.RowKit
set_option maxRecDepth 100000
abbrev rgW : Nat → Int := fun j => [10, 11, 12, 13, 14, 15, 16, 17].getD j 0
def csW : List Cs := [(true, 1, 2), (false, 3, 0)]
theorem good10 : ∀ x, x < 8 → ∀ y, y < 8 → goodB ((10, ((x : Nat) : Int), ((y : Nat) : Int), 0), .slice none 0 0, [], false) 1 = true := by decide +kernel
theorem good11 : ∀ x, x < 8 → ∀ y, y < 8 → ∀ z, z < 8 → goodB ((11, ((x : Nat) : Int), ((y : Nat) : Int), ((z : Nat) : Int)), .slice none 0 0, [], false) 1 = true := by decide +kernel
theorem good15 (A : Option Addr) (n cp : Nat) : ∀ x, x < 8 → ∀ y, y < 8 → ∀ z, z < 8 → goodB ((15, ((x : Nat) : Int), ((y : Nat) : Int), ((z : Nat) : Int)), .slice A n cp, csW, false) 1 = true := by
  have : ∀ x, x < 8 → ∀ y, y < 8 → ∀ z, z < 8 → goodB ((15, ((x : Nat) : Int), ((y : Nat) : Int), ((z : Nat) : Int)), .slice none 0 0, csW, false) 1 = true := by decide +kernel
  exact this

section
variable {w : World} {b : Nat} {r : Nat → Int} (h : w.heap[b]? = some (.cells (regR r) 30 (0, 0)))
include h
theorem rc (y : Nat) (hy : y < 8) : w.cell? ⟨b, y, none⟩ = some (.int .i64 (r y)) := by
  have : y = 0 ∨ y = 1 ∨ y = 2 ∨ y = 3 ∨ y = 4 ∨ y = 5 ∨ y = 6 ∨ y = 7 := by omega
  rcases this with rfl | rfl | rfl | rfl | rfl | rfl | rfl | rfl
  · exact blk_cell h 0 rfl
  · exact blk_cell h 1 rfl
  · exact blk_cell h 2 rfl
  · exact blk_cell h 3 rfl
  · exact blk_cell h 4 rfl
  · exact blk_cell h 5 rfl
  · exact blk_cell h 6 rfl
  · exact blk_cell h 7 rfl
theorem rp (y : Nat) (hy : y < 8) (x : Int) : (w.setCell ⟨b, y, none⟩ (.int .i64 x)).heap[b]? = some (.cells (regR (updT r y x)) 30 (0, 0)) := by
  have : y = 0 ∨ y = 1 ∨ y = 2 ∨ y = 3 ∨ y = 4 ∨ y = 5 ∨ y = 6 ∨ y = 7 := by omega
  rcases this with rfl | rfl | rfl | rfl | rfl | rfl | rfl | rfl
  · exact blk_set h 0 _
  · exact blk_set h 1 _
  · exact blk_set h 2 _
  · exact blk_set h 3 _
  · exact blk_set h 4 _
  · exact blk_set h 5 _
  · exact blk_set h 6 _
  · exact blk_set h 7 _
end
theorem updE {t r : Nat → Int} (h : ∀ j, j < 8 → t (4 + j) = r j) (y : Nat) (v : Int) : ∀ j, j < 8 → updT t (4 + y) v (4 + j) = updT r y v j := fun j hj => by
  unfold updT
  by_cases e : j = y
  · subst e; simp
  · rw [if_neg (by omega), if_neg e]; exact h j hj
theorem cases8 {p : Nat → Prop} (h0 : p 0) (h1 : p 1) (h2 : p 2) (h3 : p 3) (h4 : p 4) (h5 : p 5) (h6 : p 6) (h7 : p 7) : ∀ j, j < 8 → p j := fun j hj => by
  have : j = 0 ∨ j = 1 ∨ j = 2 ∨ j = 3 ∨ j = 4 ∨ j = 5 ∨ j = 6 ∨ j = 7 := by omega
  rcases this with rfl | rfl | rfl | rfl | rfl | rfl | rfl | rfl <;> assumption
theorem wakeE {t r : Nat → Int} (h : ∀ j, j < 8 → t (4 + j) = r j) : ∀ j, j < 8 → wakeT t (4 + j) = r j :=
  cases8 (h 0 (by omega)) (h 1 (by omega)) (h 2 (by omega)) (h 3 (by omega)) (h 4 (by omega)) (h 5 (by omega)) (h 6 (by omega)) (h 7 (by omega))
theorem parkE {t r : Nat → Int} (h : ∀ j, j < 8 → t (4 + j) = r j) (op x y z : Int) : ∀ j, j < 8 → parkT t op x y z (4 + j) = r j :=
  cases8 (h 0 (by omega)) (h 1 (by omega)) (h 2 (by omega)) (h 3 (by omega)) (h 4 (by omega)) (h 5 (by omega)) (h 6 (by omega)) (h 7 (by omega))
theorem putE (t r : Nat → Int) (pc : Int) : ∀ j, j < 8 → putT t pc r (4 + j) = r j := cases8 rfl rfl rfl rfl rfl rfl rfl rfl
theorem upd_lo (t : Nat → Int) (y j : Nat) (v : Int) (h : j < 4) : updT t (4 + y) v j = t j := by unfold updT; rw [if_neg (by omega)]
abbrev tP : Nat → Int := putT (newT 0 rgW) 5 rgW
theorem recv1 (t : Nat → Int) (y z : Nat) (v : Int) (ok : Bool) : recvT t y z v ok 1 = t 1 := by
  unfold recvT
  cases ok
  · rw [if_neg (by decide), upd_lo _ _ _ _ (by omega), upd_lo _ _ _ _ (by omega)]
  · rw [if_pos rfl, upd_lo _ _ _ _ (by omega), upd_lo _ _ _ _ (by omega), upd_lo _ _ _ _ (by omega)]
def recvR (r : Nat → Int) (y z : Nat) (v : Int) (ok : Bool) : Nat → Int := if ok then updT (updT (updT r y v) z 0) z 1 else updT (updT r y v) z 0
theorem recvE {t r : Nat → Int} (h : ∀ j, j < 8 → t (4 + j) = r j) (y z : Nat) (v : Int) (ok : Bool) : ∀ j, j < 8 → recvT t y z v ok (4 + j) = recvR r y z v ok j := by
  unfold recvT recvR
  cases ok
  · rw [if_neg (by decide), if_neg (by decide)]; exact updE (updE h y v) z 0
  · rw [if_pos rfl, if_pos rfl]; exact updE (updE (updE h y v) z 0) z 1
theorem rd_two {w : World} {b : Nat} (h : w.heap[b]? = some (.cells #[.bool true, .int .i64 1, .int .i64 2, .bool false, .int .i64 3, .int .i64 0] 53 (0, 0))) : Rd w 3 (.slice (some ⟨b, 0, none⟩) 2 2) 2 (csW.flatMap csEn) :=
  ⟨rfl, by simp [maxLen], _, _, rfl, Nat.le_refl _, by simp [maxLen], fun _ => ⟨b, 0, rfl, lt_of_block h, fun j u hj => by rw [Nat.zero_add]; exact blk_cell h j (by simpa [csW, csEn] using hj)⟩⟩
set_option maxHeartbeats 4000000 in
theorem tw10 (w : World) (op a b c kase value : Int) (ok : Bool) (x y z k : Nat) (hx : a % 8 = (x : Int)) (hy : b % 8 = (y : Int)) (hz : c % 8 = (z : Int)) (hk : kase % 2 = (k : Int)) (ho : op % 3 = (0 : Int)) (x8 : x < 8) (y8 : y < 8) (z8 : z < 8) :
    Calls Try.prog 6 #[.int .i64 op, .int .i64 a, .int .i64 b, .int .i64 c, .int .i64 kase, .int .i64 value, .bool ok] w fun e w' => e = .returned (.bool true) ∧ Fr Nob w w' := by
  have hxi : (x : Int) < 8 := by omega
  have hyi : (y : Int) < 8 := by omega
  have hzi : (z : Int) < 8 := by omega
  have Hx := Lib.hid hx; have Hy := Lib.hid hy; have Hz := Lib.hid hz; have Hk := Lib.hid hk; have Ho := Lib.hid ho
  clear hx hy hz hk ho
  go_enter Try.func6, Try.ntmps6
  go_wp2_with fail
  refine (alike_round w a 8 (by omega) (by omega)).mono ?_
  rintro e _ ⟨rfl, rfl⟩
  rw [Hx.out]
  go_wp2_with fail
  refine (alike_round w b 8 (by omega) (by omega)).mono ?_
  rintro e _ ⟨rfl, rfl⟩
  rw [Hy.out]
  go_wp2_with fail
  refine (alike_round w c 8 (by omega) (by omega)).mono ?_
  rintro e _ ⟨rfl, rfl⟩
  rw [Hz.out]
  go_wp2_with fail
  refine (alike_round _ op 3 (by omega) (by omega)).mono ?_
  rintro e _ ⟨rfl, rfl⟩
  rw [Ho.out]
  go_wp2_with fail
  refine (alike_round _ kase 2 (by omega) (by omega)).mono ?_
  rintro e _ ⟨rfl, rfl⟩
  rw [Hk.out]
  go_wp2_with fail
  obtain ⟨w1, hw1⟩ : ∃ w1, w1 = (w.alloc (.cells #[.int .i64 10, .int .i64 11, .int .i64 15] 3)).alloc (.cells #[.int .i64 10, .int .i64 x, .int .i64 y, .int .i64 0, .slice none 0 0, .bool false] 34) := ⟨_, rfl⟩
  rw [← hw1]
  have hf1 : Fr Nob w w1 := by rw [hw1]; exact ((Fr.refl Nob w).alloc _).alloc _
  have hi1 : w1.heap[w.heap.size + 1]? = some (.cells #[.int .i64 10, .int .i64 x, .int .i64 y, .int .i64 0, .slice none 0 0, .bool false] 34 (0, 0)) := by rw [hw1]; exact blk_alloc_eq _ (by simp)
  obtain ⟨ib, hib⟩ : ∃ ib, ib = w.heap.size + 1 := ⟨_, rfl⟩
  rw [← hib] at hi1 ⊢
  have hib1 := lt_of_block hi1
  
  have Hi1 := Lib.hid hi1; have F1 := Lib.hid hf1
  clear hw1 hf1 hi1 hib
  refine (task_new w1).mono ?_
  rintro e w2 ⟨b', S0, rfl, hf2, ht2, hs2⟩
  have HS2 := Lib.hid (fun k (q : S0 k) => (show w1.heap.size ≤ k ∧ k < w2.heap.size from ⟨hs2 k q, by obtain ⟨ab, lb, SA, SL, h⟩ := ht2; exact h.lt k q⟩))
  have F2 := Lib.hid (F1.out.trans0 hf2); have Hi2 := Lib.hid (hf2.blk id Hi1.out)
  have HT2 := Lib.hid ht2; have hz12 := hf2.size
  clear hf2 ht2 hs2 Hi1
  go_wp2_with fail
  obtain ⟨w3, hw3⟩ : ∃ w3, w3 = w2.alloc (.cells #[.int .i64 10, .int .i64 11, .int .i64 12, .int .i64 13, .int .i64 14, .int .i64 15, .int .i64 16, .int .i64 17] 30) := ⟨_, rfl⟩
  rw [← hw3]
  obtain ⟨rb, hrb⟩ : ∃ rb, rb = w2.heap.size := ⟨_, rfl⟩
  rw [← hrb]
  have hf3 : Fr Nob w2 w3 := by rw [hw3]; exact (Fr.refl Nob w2).alloc _
  have hr3 : w3.heap[rb]? = some (.cells (regR rgW) 30 (0, 0)) := by rw [hw3, hrb]; exact heap_alloc_new _ _
  have hrb3 := lt_of_block hr3
  have hrb2 : w2.heap.size ≤ rb ∧ rb ≤ w2.heap.size := by omega
  clear hrb
  have HT3 : Hid (TableAt w3 S0 b' [] []) := Lib.hid (by obtain ⟨ab, lb, SA, SL, h⟩ := HT2.out; exact ⟨ab, lb, SA, SL, h.fr0 hf3⟩)
  have F3 := Lib.hid (F2.out.trans0 hf3); have Hi3 := Lib.hid (hf3.blk id Hi2.out); have Hr3 := Lib.hid hr3
  clear hw3 hf3 hr3 HT2 Hi2
  refine (task_start HT3.out 0 (by omega) rgW 0 rfl (by omega) (by simp) (by simp)).mono ?_
  rintro e w4 ⟨S4, rfl, hf4, ht4, hs4⟩
  have hn0 : ¬ S0 ib := fun q => by have := HS2.out _ q; omega
  have hr0 : ¬ S0 rb := fun q => by have := HS2.out _ q; omega
  
  have F4 := Lib.hid (F3.out.trans hf4 fun k hk q => by have := HS2.out k q; have := F1.out.size; omega)
  have HT4 : Hid (TableAt w4 S4 b' [(newT 0 rgW, false)] [0]) := Lib.hid ht4
  have HS4 := Lib.hid (fun k (q : S4 k) => (show w1.heap.size ≤ k ∧ k ≠ rb by rcases hs4 k q with q | q; exact ⟨(HS2.out k q).1, fun e => hr0 (e ▸ q)⟩; omega))
  have Hi4 := Lib.hid (hf4.blk hn0 Hi3.out); have hr4 := hf4.blk hr0 Hr3.out
  have Hr4 := Lib.hid hr4
  have n4i : ¬ S4 ib := fun q => by have := HS4.out _ q; omega
  have n4r : ¬ S4 rb := fun q => (HS4.out _ q).2 rfl
  
  have q0 := rc hr4 0 (by omega); have q1 := rc hr4 1 (by omega); have q2 := rc hr4 2 (by omega); have q3 := rc hr4 3 (by omega); have q4 := rc hr4 4 (by omega); have q5 := rc hr4 5 (by omega); have q6 := rc hr4 6 (by omega); have q7 := rc hr4 7 (by omega)
  clear hf4 ht4 hs4 hr4 HT3 Hi3 Hr3
  go_wp2_with fail
  refine (put_ok HT4.out 0 _ false rfl 5 rgW rfl).mono ?_
  rintro e w5 ⟨rfl, hf5, ht5⟩
  have F5 := Lib.hid (F4.out.trans hf5 fun k hk q => by have := HS4.out k q; have := F1.out.size; omega)
  have HT5 : Hid (TableAt w5 S4 b' [(tP, false)] [0]) := Lib.hid ht5
  have hi5 := hf5.blk n4i Hi4.out; have Hi5 := Lib.hid hi5; have Hr5 := Lib.hid (hf5.blk n4r Hr4.out)
  have p0 := blk_cell hi5 0 rfl; have p1 := blk_cell hi5 1 rfl; have p2 := blk_cell hi5 2 rfl; have p3 := blk_cell hi5 3 rfl; have p4 := blk_cell hi5 4 rfl; have p5 := blk_cell hi5 5 rfl
  clear hf5 ht5 hi5 HT4 Hi4 Hr4 q0 q1 q2 q3 q4 q5 q6 q7
  go_wp2_with fail
  refine (park_ok HT5.out 0 _ false rfl 10 x y 0 false rfl (.inl rfl) (good10 x x8 y y8)).mono ?_
  rintro e w6 ⟨rfl, hf6, ht6⟩
  have HT6 : Hid (TableAt w6 S4 b' [(parkT tP 10 x y 0, false)] []) := Lib.hid ht6
  have F6 := Lib.hid (F5.out.trans hf6 fun k hk q => by have := HS4.out k q; have := F1.out.size; omega)
  have Hi6 := Lib.hid (hf6.blk n4i Hi5.out); have Hr6 := Lib.hid (hf6.blk n4r Hr5.out)
  have hz46 := hf6.size
  clear hf6 ht6 HT5 Hi5 Hr5 p0 p1 p2 p3 p4 p5
  go_wp2_with fail
  have h15 : (parkT tP 10 x y 0) 1 = 5 := rfl
  refine (wake_ok HT6.out 0 _ false rfl 0 value ok rfl (parkT tP 10 x y 0) (fun W tb hb => (told_send W tb _ false none 0 0 hb rfl 0 0 value ok false).mono fun e w' ⟨h1, h2⟩ => ⟨h1, h2.none, h2.blk id hb⟩) (by rw [h15]; rfl) (by simp) (by simp)).mono ?_
  rintro e w7 ⟨S7, rfl, hf7, ht7, hs7⟩
  have F7 := Lib.hid (F6.out.trans hf7 fun k hk q => by have := HS4.out k q; have := F1.out.size; omega)
  have HT7 : Hid (TableAt w7 S7 b' [(wakeT (parkT tP 10 x y 0), false)] [0]) := Lib.hid ht7
  have hi7 := hf7.blk n4i Hi6.out; have hr7 := hf7.blk n4r Hr6.out
  have hr6z := lt_of_block Hr6.out
  have HS7 := Lib.hid (fun k (q : S7 k) => (show k ≠ rb by rcases hs7 k q with q | q; exact (HS4.out k q).2; omega))
  have HE : Hid (∀ j, j < 8 → wakeT (parkT tP 10 x y 0) (4 + j) = rgW j) := Lib.hid (wakeE (parkE (putE (newT 0 rgW) rgW 5) 10 x y 0))
  have HW1 : Hid (wakeT (parkT tP 10 x y 0) 1 = 6) := Lib.hid (show (parkT tP 10 x y 0) 1 + 1 = 6 by rw [h15]; rfl)
  have HW2 : Hid (wakeT (parkT tP 10 x y 0) 2 = 0 ∧ wakeT (parkT tP 10 x y 0) 12 = 0) := Lib.hid ⟨rfl, rfl⟩
  have p0 := blk_cell hi7 0 rfl
  have Hi7 := Lib.hid hi7; have Hr7 := Lib.hid hr7
  clear hf7 ht7 hs7 HT6 Hi6 Hr6 h15 hi7
  generalize htW : wakeT (parkT tP 10 x y 0) = tW at *
  have hib7 : ¬ ib = rb := fun e => by omega
  go_wp2_with fail
  obtain ⟨w8, hw8⟩ : ∃ w8, w8 = w7 := ⟨_, rfl⟩
  rw [← hw8]
  have hf78 : Fr (fun k => k = rb) w7 w8 := by rw [hw8]; exact Fr.refl _ _
  have hr8 : w8.heap[rb]? = some (.cells (regR rgW) 30 (0, 0)) := by rw [hw8]; exact hr7
  have HT8 := Lib.hid (show TableAt w8 S7 b' [(tW, false)] [0] by obtain ⟨ab, lb, SA, SL, h⟩ := HT7.out; exact ⟨ab, lb, SA, SL, h.fr hf78 fun k q e => HS7.out k q e⟩)
  have F8 := Lib.hid (F7.out.trans hf78 fun k hk e => by have := F2.out.size; omega)
  obtain ⟨r', hr'⟩ : ∃ r', r' = rgW := ⟨_, rfl⟩
  rw [← hr'] at hr8
  have HE8 : Hid (∀ j, j < 8 → tW (4 + j) = r' j) := Lib.hid (by rw [hr']; exact HE.out)
  have Hr8 := Lib.hid hr8
  clear hw8 hf78 hr8 hr' HE  p0 hr7 Hr7 Hi7 HT7
  refine (task_get HT8.out 0 _ false rfl).mono ?_
  rintro e w9 ⟨rfl, hf9⟩
  have F9 := Lib.hid (F8.out.trans0 hf9)
  have Hr9 := Lib.hid (hf9.blk id Hr8.out)
  clear hf9 HT8 Hr8
  have hzn : (w9.alloc (.cells tkZ.toArray 44)).heap[w9.heap.size]? = some (.cells tkZ.toArray 44 (0, 0)) := heap_alloc_new _ _
  unfold tkZ at hzn
  dsimp only [tkL] at hzn
  go_wp2_with (refine wpList_store_row _ rfl 44 (.tmp 27) (.tmp 112) rfl w9.heap.size (tkD tW false).toArray _ 44 rfl rfl hzn rfl (info18 _ false) (tkD_all _ false) ?_; intro w10 hb10 hf10; have Hb10 := Lib.hid hb10; have hf910 : Fr Nob w9 w10 := ((Fr.refl Nob w9).alloc _).trans hf10 (fun k hk e => by omega); have hr10 := hf910.blk id Hr9.out; have F10 := Lib.hid (F9.out.trans0 hf910); have x1 : w10.cell? ⟨w9.heap.size, 1, none⟩ = some (.int .i64 6) := (blk_cell hb10 1 rfl).trans (congrArg (fun v => some (Value.int .i64 v)) HW1.out); have x2 : w10.cell? ⟨w9.heap.size, 2, none⟩ = some (.int .i64 0) := (blk_cell hb10 2 rfl).trans (congrArg (fun v => some (Value.int .i64 v)) HW2.out.1); have x12 : w10.cell? ⟨w9.heap.size, 12, none⟩ = some (.int .i64 0) := (blk_cell hb10 12 rfl).trans (congrArg (fun v => some (Value.int .i64 v)) HW2.out.2); have x4 : w10.cell? ⟨w9.heap.size, 4, none⟩ = some (.int .i64 (r' 0)) := (blk_cell hb10 4 rfl).trans (congrArg (fun v => some (Value.int .i64 v)) (HE8.out 0 (by omega))); have x5 : w10.cell? ⟨w9.heap.size, 5, none⟩ = some (.int .i64 (r' 1)) := (blk_cell hb10 5 rfl).trans (congrArg (fun v => some (Value.int .i64 v)) (HE8.out 1 (by omega))); have x6 : w10.cell? ⟨w9.heap.size, 6, none⟩ = some (.int .i64 (r' 2)) := (blk_cell hb10 6 rfl).trans (congrArg (fun v => some (Value.int .i64 v)) (HE8.out 2 (by omega))); have x7 : w10.cell? ⟨w9.heap.size, 7, none⟩ = some (.int .i64 (r' 3)) := (blk_cell hb10 7 rfl).trans (congrArg (fun v => some (Value.int .i64 v)) (HE8.out 3 (by omega))); have x8 : w10.cell? ⟨w9.heap.size, 8, none⟩ = some (.int .i64 (r' 4)) := (blk_cell hb10 8 rfl).trans (congrArg (fun v => some (Value.int .i64 v)) (HE8.out 4 (by omega))); have x9 : w10.cell? ⟨w9.heap.size, 9, none⟩ = some (.int .i64 (r' 5)) := (blk_cell hb10 9 rfl).trans (congrArg (fun v => some (Value.int .i64 v)) (HE8.out 5 (by omega))); have x10 : w10.cell? ⟨w9.heap.size, 10, none⟩ = some (.int .i64 (r' 6)) := (blk_cell hb10 10 rfl).trans (congrArg (fun v => some (Value.int .i64 v)) (HE8.out 6 (by omega))); have x11 : w10.cell? ⟨w9.heap.size, 11, none⟩ = some (.int .i64 (r' 7)) := (blk_cell hb10 11 rfl).trans (congrArg (fun v => some (Value.int .i64 v)) (HE8.out 7 (by omega))); have y0 := rc hr10 0 (by omega); have y1 := rc hr10 1 (by omega); have y2 := rc hr10 2 (by omega); have y3 := rc hr10 3 (by omega); have y4 := rc hr10 4 (by omega); have y5 := rc hr10 5 (by omega); have y6 := rc hr10 6 (by omega); have y7 := rc hr10 7 (by omega); have heq : ∀ W : World, (Op.equalIn 10000 30 (.agg #[.int .i64 (r' 0), .int .i64 (r' 1), .int .i64 (r' 2), .int .i64 (r' 3), .int .i64 (r' 4), .int .i64 (r' 5), .int .i64 (r' 6), .int .i64 (r' 7)]) (.agg #[.int .i64 (r' 0), .int .i64 (r' 1), .int .i64 (r' 2), .int .i64 (r' 3), .int .i64 (r' 4), .int .i64 (r' 5), .int .i64 (r' 6), .int .i64 (r' 7)])).run Try.prog W = .ok true W := fun W => run_equalIn_arr (P := Try.prog) W 9998 30 3 8 [r' 0, r' 1, r' 2, r' 3, r' 4, r' 5, r' 6, r' 7] Try.underlying30 Try.underlying3 (by kernel_rfl) rfl; clear hb10 hf10 hf910 hr10)
  refine (awake17 w10).mono ?_
  rintro e w11 ⟨rfl, hf11⟩
  have F11 := Lib.hid (F10.out.trans0 hf11)
  clear hf11 heq x4 y0 x5 y1 x6 y2 x7 y3 x8 y4 x9 y5 x10 y6 x11 y7 x1 x2 x12
  go_wp2_with fail
  go_ret
  exact ⟨rfl, F11.out⟩
set_option maxHeartbeats 4000000 in
theorem tw11 (w : World) (op a b c kase value : Int) (ok : Bool) (x y z k : Nat) (hx : a % 8 = (x : Int)) (hy : b % 8 = (y : Int)) (hz : c % 8 = (z : Int)) (hk : kase % 2 = (k : Int)) (ho : op % 3 = (1 : Int)) (x8 : x < 8) (y8 : y < 8) (z8 : z < 8) :
    Calls Try.prog 6 #[.int .i64 op, .int .i64 a, .int .i64 b, .int .i64 c, .int .i64 kase, .int .i64 value, .bool ok] w fun e w' => e = .returned (.bool true) ∧ Fr Nob w w' := by
  have hxi : (x : Int) < 8 := by omega
  have hyi : (y : Int) < 8 := by omega
  have hzi : (z : Int) < 8 := by omega
  have Hx := Lib.hid hx; have Hy := Lib.hid hy; have Hz := Lib.hid hz; have Hk := Lib.hid hk; have Ho := Lib.hid ho
  clear hx hy hz hk ho
  go_enter Try.func6, Try.ntmps6
  go_wp2_with fail
  refine (alike_round w a 8 (by omega) (by omega)).mono ?_
  rintro e _ ⟨rfl, rfl⟩
  rw [Hx.out]
  go_wp2_with fail
  refine (alike_round w b 8 (by omega) (by omega)).mono ?_
  rintro e _ ⟨rfl, rfl⟩
  rw [Hy.out]
  go_wp2_with fail
  refine (alike_round w c 8 (by omega) (by omega)).mono ?_
  rintro e _ ⟨rfl, rfl⟩
  rw [Hz.out]
  go_wp2_with fail
  refine (alike_round _ op 3 (by omega) (by omega)).mono ?_
  rintro e _ ⟨rfl, rfl⟩
  rw [Ho.out]
  go_wp2_with fail
  refine (alike_round _ kase 2 (by omega) (by omega)).mono ?_
  rintro e _ ⟨rfl, rfl⟩
  rw [Hk.out]
  go_wp2_with fail
  obtain ⟨w1, hw1⟩ : ∃ w1, w1 = (w.alloc (.cells #[.int .i64 10, .int .i64 11, .int .i64 15] 3)).alloc (.cells #[.int .i64 11, .int .i64 x, .int .i64 y, .int .i64 z, .slice none 0 0, .bool false] 34) := ⟨_, rfl⟩
  rw [← hw1]
  have hf1 : Fr Nob w w1 := by rw [hw1]; exact ((Fr.refl Nob w).alloc _).alloc _
  have hi1 : w1.heap[w.heap.size + 1]? = some (.cells #[.int .i64 11, .int .i64 x, .int .i64 y, .int .i64 z, .slice none 0 0, .bool false] 34 (0, 0)) := by rw [hw1]; exact blk_alloc_eq _ (by simp)
  obtain ⟨ib, hib⟩ : ∃ ib, ib = w.heap.size + 1 := ⟨_, rfl⟩
  rw [← hib] at hi1 ⊢
  have hib1 := lt_of_block hi1
  
  have Hi1 := Lib.hid hi1; have F1 := Lib.hid hf1
  clear hw1 hf1 hi1 hib
  refine (task_new w1).mono ?_
  rintro e w2 ⟨b', S0, rfl, hf2, ht2, hs2⟩
  have HS2 := Lib.hid (fun k (q : S0 k) => (show w1.heap.size ≤ k ∧ k < w2.heap.size from ⟨hs2 k q, by obtain ⟨ab, lb, SA, SL, h⟩ := ht2; exact h.lt k q⟩))
  have F2 := Lib.hid (F1.out.trans0 hf2); have Hi2 := Lib.hid (hf2.blk id Hi1.out)
  have HT2 := Lib.hid ht2; have hz12 := hf2.size
  clear hf2 ht2 hs2 Hi1
  go_wp2_with fail
  obtain ⟨w3, hw3⟩ : ∃ w3, w3 = w2.alloc (.cells #[.int .i64 10, .int .i64 11, .int .i64 12, .int .i64 13, .int .i64 14, .int .i64 15, .int .i64 16, .int .i64 17] 30) := ⟨_, rfl⟩
  rw [← hw3]
  obtain ⟨rb, hrb⟩ : ∃ rb, rb = w2.heap.size := ⟨_, rfl⟩
  rw [← hrb]
  have hf3 : Fr Nob w2 w3 := by rw [hw3]; exact (Fr.refl Nob w2).alloc _
  have hr3 : w3.heap[rb]? = some (.cells (regR rgW) 30 (0, 0)) := by rw [hw3, hrb]; exact heap_alloc_new _ _
  have hrb3 := lt_of_block hr3
  have hrb2 : w2.heap.size ≤ rb ∧ rb ≤ w2.heap.size := by omega
  clear hrb
  have HT3 : Hid (TableAt w3 S0 b' [] []) := Lib.hid (by obtain ⟨ab, lb, SA, SL, h⟩ := HT2.out; exact ⟨ab, lb, SA, SL, h.fr0 hf3⟩)
  have F3 := Lib.hid (F2.out.trans0 hf3); have Hi3 := Lib.hid (hf3.blk id Hi2.out); have Hr3 := Lib.hid hr3
  clear hw3 hf3 hr3 HT2 Hi2
  refine (task_start HT3.out 0 (by omega) rgW 0 rfl (by omega) (by simp) (by simp)).mono ?_
  rintro e w4 ⟨S4, rfl, hf4, ht4, hs4⟩
  have hn0 : ¬ S0 ib := fun q => by have := HS2.out _ q; omega
  have hr0 : ¬ S0 rb := fun q => by have := HS2.out _ q; omega
  
  have F4 := Lib.hid (F3.out.trans hf4 fun k hk q => by have := HS2.out k q; have := F1.out.size; omega)
  have HT4 : Hid (TableAt w4 S4 b' [(newT 0 rgW, false)] [0]) := Lib.hid ht4
  have HS4 := Lib.hid (fun k (q : S4 k) => (show w1.heap.size ≤ k ∧ k ≠ rb by rcases hs4 k q with q | q; exact ⟨(HS2.out k q).1, fun e => hr0 (e ▸ q)⟩; omega))
  have Hi4 := Lib.hid (hf4.blk hn0 Hi3.out); have hr4 := hf4.blk hr0 Hr3.out
  have Hr4 := Lib.hid hr4
  have n4i : ¬ S4 ib := fun q => by have := HS4.out _ q; omega
  have n4r : ¬ S4 rb := fun q => (HS4.out _ q).2 rfl
  
  have q0 := rc hr4 0 (by omega); have q1 := rc hr4 1 (by omega); have q2 := rc hr4 2 (by omega); have q3 := rc hr4 3 (by omega); have q4 := rc hr4 4 (by omega); have q5 := rc hr4 5 (by omega); have q6 := rc hr4 6 (by omega); have q7 := rc hr4 7 (by omega)
  clear hf4 ht4 hs4 hr4 HT3 Hi3 Hr3
  go_wp2_with fail
  refine (put_ok HT4.out 0 _ false rfl 5 rgW rfl).mono ?_
  rintro e w5 ⟨rfl, hf5, ht5⟩
  have F5 := Lib.hid (F4.out.trans hf5 fun k hk q => by have := HS4.out k q; have := F1.out.size; omega)
  have HT5 : Hid (TableAt w5 S4 b' [(tP, false)] [0]) := Lib.hid ht5
  have hi5 := hf5.blk n4i Hi4.out; have Hi5 := Lib.hid hi5; have Hr5 := Lib.hid (hf5.blk n4r Hr4.out)
  have p0 := blk_cell hi5 0 rfl; have p1 := blk_cell hi5 1 rfl; have p2 := blk_cell hi5 2 rfl; have p3 := blk_cell hi5 3 rfl; have p4 := blk_cell hi5 4 rfl; have p5 := blk_cell hi5 5 rfl
  clear hf5 ht5 hi5 HT4 Hi4 Hr4 q0 q1 q2 q3 q4 q5 q6 q7
  go_wp2_with fail
  refine (park_ok HT5.out 0 _ false rfl 11 x y z false rfl (.inr (.inl rfl)) (good11 x x8 y y8 z z8)).mono ?_
  rintro e w6 ⟨rfl, hf6, ht6⟩
  have HT6 : Hid (TableAt w6 S4 b' [(parkT tP 11 x y z, false)] []) := Lib.hid ht6
  have F6 := Lib.hid (F5.out.trans hf6 fun k hk q => by have := HS4.out k q; have := F1.out.size; omega)
  have Hi6 := Lib.hid (hf6.blk n4i Hi5.out); have Hr6 := Lib.hid (hf6.blk n4r Hr5.out)
  have hz46 := hf6.size
  clear hf6 ht6 HT5 Hi5 Hr5 p0 p1 p2 p3 p4 p5
  go_wp2_with fail
  have h15 : (recvT (parkT tP 11 x y z) y z value ok) 1 = 5 := recv1 _ _ _ _ _
  refine (wake_ok HT6.out 0 _ false rfl 0 value ok rfl (recvT (parkT tP 11 x y z) y z value ok) (fun W tb hb => told_recvC W tb _ false none 0 0 hb y z y8 z8 rfl rfl rfl 0 0 value ok false) (by rw [h15]; rfl) (by simp) (by simp)).mono ?_
  rintro e w7 ⟨S7, rfl, hf7, ht7, hs7⟩
  have F7 := Lib.hid (F6.out.trans hf7 fun k hk q => by have := HS4.out k q; have := F1.out.size; omega)
  have HT7 : Hid (TableAt w7 S7 b' [(wakeT (recvT (parkT tP 11 x y z) y z value ok), false)] [0]) := Lib.hid ht7
  have hi7 := hf7.blk n4i Hi6.out; have hr7 := hf7.blk n4r Hr6.out
  have hr6z := lt_of_block Hr6.out
  have HS7 := Lib.hid (fun k (q : S7 k) => (show k ≠ rb by rcases hs7 k q with q | q; exact (HS4.out k q).2; omega))
  have HE : Hid (∀ j, j < 8 → wakeT (recvT (parkT tP 11 x y z) y z value ok) (4 + j) = (recvR rgW y z value ok) j) := Lib.hid (wakeE (recvE (parkE (putE (newT 0 rgW) rgW 5) 11 x y z) y z value ok))
  have HW1 : Hid (wakeT (recvT (parkT tP 11 x y z) y z value ok) 1 = 6) := Lib.hid (show (recvT (parkT tP 11 x y z) y z value ok) 1 + 1 = 6 by rw [h15]; rfl)
  have HW2 : Hid (wakeT (recvT (parkT tP 11 x y z) y z value ok) 2 = 0 ∧ wakeT (recvT (parkT tP 11 x y z) y z value ok) 12 = 0) := Lib.hid ⟨rfl, rfl⟩
  have p0 := blk_cell hi7 0 rfl
  have Hi7 := Lib.hid hi7; have Hr7 := Lib.hid hr7
  clear hf7 ht7 hs7 HT6 Hi6 Hr6 h15 hi7
  generalize htW : wakeT (recvT (parkT tP 11 x y z) y z value ok) = tW at *
  cases ok with
  | true =>
    have hib7 : ¬ ib = rb := fun e => by omega
    have cA0 := rc hr7 y y8; have fA0 := blk_froz hr7 y
    have cA1 := rc (rp hr7 y y8 (value)) z z8; have fA1 := blk_froz (rp hr7 y y8 (value)) z
    have pA1 : ((w7.setCell ⟨rb, y, none⟩ (.int .i64 (value)))).cell? ⟨ib, 0, none⟩ = some (.int .i64 11) := blk_cell ((((Fr.refl (fun k => k = rb) w7).setT y _)).blk hib7 Hi7.out) 0 rfl
    have cA2 := rc (rp (rp hr7 y y8 (value)) z z8 (0)) z z8; have fA2 := blk_froz (rp (rp hr7 y y8 (value)) z z8 (0)) z
    have pA2 : (((w7.setCell ⟨rb, y, none⟩ (.int .i64 (value))).setCell ⟨rb, z, none⟩ (.int .i64 (0)))).cell? ⟨ib, 0, none⟩ = some (.int .i64 11) := blk_cell (((((Fr.refl (fun k => k = rb) w7).setT y _).setT z _)).blk hib7 Hi7.out) 0 rfl
    go_wp2_with fail
    obtain ⟨w8, hw8⟩ : ∃ w8, w8 = (((w7.setCell ⟨rb, y, none⟩ (.int .i64 (value))).setCell ⟨rb, z, none⟩ (.int .i64 (0))).setCell ⟨rb, z, none⟩ (.int .i64 (1))) := ⟨_, rfl⟩
    rw [← hw8]
    have hf78 : Fr (fun k => k = rb) w7 w8 := by rw [hw8]; exact ((((Fr.refl (fun k => k = rb) w7).setT y _).setT z _).setT z _)
    have hr8 : w8.heap[rb]? = some (.cells (regR (recvR rgW y z value true)) 30 (0, 0)) := by rw [hw8]; exact (rp (rp (rp hr7 y y8 (value)) z z8 (0)) z z8 (1))
    have HT8 := Lib.hid (show TableAt w8 S7 b' [(tW, false)] [0] by obtain ⟨ab, lb, SA, SL, h⟩ := HT7.out; exact ⟨ab, lb, SA, SL, h.fr hf78 fun k q e => HS7.out k q e⟩)
    have F8 := Lib.hid (F7.out.trans hf78 fun k hk e => by have := F2.out.size; omega)
    obtain ⟨r', hr'⟩ : ∃ r', r' = (recvR rgW y z value true) := ⟨_, rfl⟩
    rw [← hr'] at hr8
    have HE8 : Hid (∀ j, j < 8 → tW (4 + j) = r' j) := Lib.hid (by rw [hr']; exact HE.out)
    have Hr8 := Lib.hid hr8
    clear hw8 hf78 hr8 hr' HE cA0 fA0 cA1 fA1 pA1 cA2 fA2 pA2 p0 hr7 Hr7 Hi7 HT7
    refine (task_get HT8.out 0 _ false rfl).mono ?_
    rintro e w9 ⟨rfl, hf9⟩
    have F9 := Lib.hid (F8.out.trans0 hf9)
    have Hr9 := Lib.hid (hf9.blk id Hr8.out)
    clear hf9 HT8 Hr8
    have hzn : (w9.alloc (.cells tkZ.toArray 44)).heap[w9.heap.size]? = some (.cells tkZ.toArray 44 (0, 0)) := heap_alloc_new _ _
    unfold tkZ at hzn
    dsimp only [tkL] at hzn
    go_wp2_with (refine wpList_store_row _ rfl 44 (.tmp 27) (.tmp 112) rfl w9.heap.size (tkD tW false).toArray _ 44 rfl rfl hzn rfl (info18 _ false) (tkD_all _ false) ?_; intro w10 hb10 hf10; have Hb10 := Lib.hid hb10; have hf910 : Fr Nob w9 w10 := ((Fr.refl Nob w9).alloc _).trans hf10 (fun k hk e => by omega); have hr10 := hf910.blk id Hr9.out; have F10 := Lib.hid (F9.out.trans0 hf910); have x1 : w10.cell? ⟨w9.heap.size, 1, none⟩ = some (.int .i64 6) := (blk_cell hb10 1 rfl).trans (congrArg (fun v => some (Value.int .i64 v)) HW1.out); have x2 : w10.cell? ⟨w9.heap.size, 2, none⟩ = some (.int .i64 0) := (blk_cell hb10 2 rfl).trans (congrArg (fun v => some (Value.int .i64 v)) HW2.out.1); have x12 : w10.cell? ⟨w9.heap.size, 12, none⟩ = some (.int .i64 0) := (blk_cell hb10 12 rfl).trans (congrArg (fun v => some (Value.int .i64 v)) HW2.out.2); have x4 : w10.cell? ⟨w9.heap.size, 4, none⟩ = some (.int .i64 (r' 0)) := (blk_cell hb10 4 rfl).trans (congrArg (fun v => some (Value.int .i64 v)) (HE8.out 0 (by omega))); have x5 : w10.cell? ⟨w9.heap.size, 5, none⟩ = some (.int .i64 (r' 1)) := (blk_cell hb10 5 rfl).trans (congrArg (fun v => some (Value.int .i64 v)) (HE8.out 1 (by omega))); have x6 : w10.cell? ⟨w9.heap.size, 6, none⟩ = some (.int .i64 (r' 2)) := (blk_cell hb10 6 rfl).trans (congrArg (fun v => some (Value.int .i64 v)) (HE8.out 2 (by omega))); have x7 : w10.cell? ⟨w9.heap.size, 7, none⟩ = some (.int .i64 (r' 3)) := (blk_cell hb10 7 rfl).trans (congrArg (fun v => some (Value.int .i64 v)) (HE8.out 3 (by omega))); have x8 : w10.cell? ⟨w9.heap.size, 8, none⟩ = some (.int .i64 (r' 4)) := (blk_cell hb10 8 rfl).trans (congrArg (fun v => some (Value.int .i64 v)) (HE8.out 4 (by omega))); have x9 : w10.cell? ⟨w9.heap.size, 9, none⟩ = some (.int .i64 (r' 5)) := (blk_cell hb10 9 rfl).trans (congrArg (fun v => some (Value.int .i64 v)) (HE8.out 5 (by omega))); have x10 : w10.cell? ⟨w9.heap.size, 10, none⟩ = some (.int .i64 (r' 6)) := (blk_cell hb10 10 rfl).trans (congrArg (fun v => some (Value.int .i64 v)) (HE8.out 6 (by omega))); have x11 : w10.cell? ⟨w9.heap.size, 11, none⟩ = some (.int .i64 (r' 7)) := (blk_cell hb10 11 rfl).trans (congrArg (fun v => some (Value.int .i64 v)) (HE8.out 7 (by omega))); have y0 := rc hr10 0 (by omega); have y1 := rc hr10 1 (by omega); have y2 := rc hr10 2 (by omega); have y3 := rc hr10 3 (by omega); have y4 := rc hr10 4 (by omega); have y5 := rc hr10 5 (by omega); have y6 := rc hr10 6 (by omega); have y7 := rc hr10 7 (by omega); have heq : ∀ W : World, (Op.equalIn 10000 30 (.agg #[.int .i64 (r' 0), .int .i64 (r' 1), .int .i64 (r' 2), .int .i64 (r' 3), .int .i64 (r' 4), .int .i64 (r' 5), .int .i64 (r' 6), .int .i64 (r' 7)]) (.agg #[.int .i64 (r' 0), .int .i64 (r' 1), .int .i64 (r' 2), .int .i64 (r' 3), .int .i64 (r' 4), .int .i64 (r' 5), .int .i64 (r' 6), .int .i64 (r' 7)])).run Try.prog W = .ok true W := fun W => run_equalIn_arr (P := Try.prog) W 9998 30 3 8 [r' 0, r' 1, r' 2, r' 3, r' 4, r' 5, r' 6, r' 7] Try.underlying30 Try.underlying3 (by kernel_rfl) rfl; clear hb10 hf10 hf910 hr10)
    refine (awake17 w10).mono ?_
    rintro e w11 ⟨rfl, hf11⟩
    have F11 := Lib.hid (F10.out.trans0 hf11)
    clear hf11 heq x4 y0 x5 y1 x6 y2 x7 y3 x8 y4 x9 y5 x10 y6 x11 y7 x1 x2 x12
    go_wp2_with fail
    go_ret
    exact ⟨rfl, F11.out⟩
  | false =>
    have hib7 : ¬ ib = rb := fun e => by omega
    have cA0 := rc hr7 y y8; have fA0 := blk_froz hr7 y
    have cA1 := rc (rp hr7 y y8 (value)) z z8; have fA1 := blk_froz (rp hr7 y y8 (value)) z
    have pA1 : ((w7.setCell ⟨rb, y, none⟩ (.int .i64 (value)))).cell? ⟨ib, 0, none⟩ = some (.int .i64 11) := blk_cell ((((Fr.refl (fun k => k = rb) w7).setT y _)).blk hib7 Hi7.out) 0 rfl
    go_wp2_with fail
    obtain ⟨w8, hw8⟩ : ∃ w8, w8 = ((w7.setCell ⟨rb, y, none⟩ (.int .i64 (value))).setCell ⟨rb, z, none⟩ (.int .i64 (0))) := ⟨_, rfl⟩
    rw [← hw8]
    have hf78 : Fr (fun k => k = rb) w7 w8 := by rw [hw8]; exact (((Fr.refl (fun k => k = rb) w7).setT y _).setT z _)
    have hr8 : w8.heap[rb]? = some (.cells (regR (recvR rgW y z value false)) 30 (0, 0)) := by rw [hw8]; exact (rp (rp hr7 y y8 (value)) z z8 (0))
    have HT8 := Lib.hid (show TableAt w8 S7 b' [(tW, false)] [0] by obtain ⟨ab, lb, SA, SL, h⟩ := HT7.out; exact ⟨ab, lb, SA, SL, h.fr hf78 fun k q e => HS7.out k q e⟩)
    have F8 := Lib.hid (F7.out.trans hf78 fun k hk e => by have := F2.out.size; omega)
    obtain ⟨r', hr'⟩ : ∃ r', r' = (recvR rgW y z value false) := ⟨_, rfl⟩
    rw [← hr'] at hr8
    have HE8 : Hid (∀ j, j < 8 → tW (4 + j) = r' j) := Lib.hid (by rw [hr']; exact HE.out)
    have Hr8 := Lib.hid hr8
    clear hw8 hf78 hr8 hr' HE cA0 fA0 cA1 fA1 pA1 p0 hr7 Hr7 Hi7 HT7
    refine (task_get HT8.out 0 _ false rfl).mono ?_
    rintro e w9 ⟨rfl, hf9⟩
    have F9 := Lib.hid (F8.out.trans0 hf9)
    have Hr9 := Lib.hid (hf9.blk id Hr8.out)
    clear hf9 HT8 Hr8
    have hzn : (w9.alloc (.cells tkZ.toArray 44)).heap[w9.heap.size]? = some (.cells tkZ.toArray 44 (0, 0)) := heap_alloc_new _ _
    unfold tkZ at hzn
    dsimp only [tkL] at hzn
    go_wp2_with (refine wpList_store_row _ rfl 44 (.tmp 27) (.tmp 112) rfl w9.heap.size (tkD tW false).toArray _ 44 rfl rfl hzn rfl (info18 _ false) (tkD_all _ false) ?_; intro w10 hb10 hf10; have Hb10 := Lib.hid hb10; have hf910 : Fr Nob w9 w10 := ((Fr.refl Nob w9).alloc _).trans hf10 (fun k hk e => by omega); have hr10 := hf910.blk id Hr9.out; have F10 := Lib.hid (F9.out.trans0 hf910); have x1 : w10.cell? ⟨w9.heap.size, 1, none⟩ = some (.int .i64 6) := (blk_cell hb10 1 rfl).trans (congrArg (fun v => some (Value.int .i64 v)) HW1.out); have x2 : w10.cell? ⟨w9.heap.size, 2, none⟩ = some (.int .i64 0) := (blk_cell hb10 2 rfl).trans (congrArg (fun v => some (Value.int .i64 v)) HW2.out.1); have x12 : w10.cell? ⟨w9.heap.size, 12, none⟩ = some (.int .i64 0) := (blk_cell hb10 12 rfl).trans (congrArg (fun v => some (Value.int .i64 v)) HW2.out.2); have x4 : w10.cell? ⟨w9.heap.size, 4, none⟩ = some (.int .i64 (r' 0)) := (blk_cell hb10 4 rfl).trans (congrArg (fun v => some (Value.int .i64 v)) (HE8.out 0 (by omega))); have x5 : w10.cell? ⟨w9.heap.size, 5, none⟩ = some (.int .i64 (r' 1)) := (blk_cell hb10 5 rfl).trans (congrArg (fun v => some (Value.int .i64 v)) (HE8.out 1 (by omega))); have x6 : w10.cell? ⟨w9.heap.size, 6, none⟩ = some (.int .i64 (r' 2)) := (blk_cell hb10 6 rfl).trans (congrArg (fun v => some (Value.int .i64 v)) (HE8.out 2 (by omega))); have x7 : w10.cell? ⟨w9.heap.size, 7, none⟩ = some (.int .i64 (r' 3)) := (blk_cell hb10 7 rfl).trans (congrArg (fun v => some (Value.int .i64 v)) (HE8.out 3 (by omega))); have x8 : w10.cell? ⟨w9.heap.size, 8, none⟩ = some (.int .i64 (r' 4)) := (blk_cell hb10 8 rfl).trans (congrArg (fun v => some (Value.int .i64 v)) (HE8.out 4 (by omega))); have x9 : w10.cell? ⟨w9.heap.size, 9, none⟩ = some (.int .i64 (r' 5)) := (blk_cell hb10 9 rfl).trans (congrArg (fun v => some (Value.int .i64 v)) (HE8.out 5 (by omega))); have x10 : w10.cell? ⟨w9.heap.size, 10, none⟩ = some (.int .i64 (r' 6)) := (blk_cell hb10 10 rfl).trans (congrArg (fun v => some (Value.int .i64 v)) (HE8.out 6 (by omega))); have x11 : w10.cell? ⟨w9.heap.size, 11, none⟩ = some (.int .i64 (r' 7)) := (blk_cell hb10 11 rfl).trans (congrArg (fun v => some (Value.int .i64 v)) (HE8.out 7 (by omega))); have y0 := rc hr10 0 (by omega); have y1 := rc hr10 1 (by omega); have y2 := rc hr10 2 (by omega); have y3 := rc hr10 3 (by omega); have y4 := rc hr10 4 (by omega); have y5 := rc hr10 5 (by omega); have y6 := rc hr10 6 (by omega); have y7 := rc hr10 7 (by omega); have heq : ∀ W : World, (Op.equalIn 10000 30 (.agg #[.int .i64 (r' 0), .int .i64 (r' 1), .int .i64 (r' 2), .int .i64 (r' 3), .int .i64 (r' 4), .int .i64 (r' 5), .int .i64 (r' 6), .int .i64 (r' 7)]) (.agg #[.int .i64 (r' 0), .int .i64 (r' 1), .int .i64 (r' 2), .int .i64 (r' 3), .int .i64 (r' 4), .int .i64 (r' 5), .int .i64 (r' 6), .int .i64 (r' 7)])).run Try.prog W = .ok true W := fun W => run_equalIn_arr (P := Try.prog) W 9998 30 3 8 [r' 0, r' 1, r' 2, r' 3, r' 4, r' 5, r' 6, r' 7] Try.underlying30 Try.underlying3 (by kernel_rfl) rfl; clear hb10 hf10 hf910 hr10)
    refine (awake17 w10).mono ?_
    rintro e w11 ⟨rfl, hf11⟩
    have F11 := Lib.hid (F10.out.trans0 hf11)
    clear hf11 heq x4 y0 x5 y1 x6 y2 x7 y3 x8 y4 x9 y5 x10 y6 x11 y7 x1 x2 x12
    go_wp2_with fail
    go_ret
    exact ⟨rfl, F11.out⟩
set_option maxHeartbeats 4000000 in
theorem tw15S (w : World) (op a b c kase value : Int) (ok : Bool) (x y z k : Nat) (hx : a % 8 = (x : Int)) (hy : b % 8 = (y : Int)) (hz : c % 8 = (z : Int)) (hk : kase % 2 = (0 : Int)) (ho : op % 3 = (2 : Int)) (x8 : x < 8) (y8 : y < 8) (z8 : z < 8) :
    Calls Try.prog 6 #[.int .i64 op, .int .i64 a, .int .i64 b, .int .i64 c, .int .i64 kase, .int .i64 value, .bool ok] w fun e w' => e = .returned (.bool true) ∧ Fr Nob w w' := by
  have hxi : (x : Int) < 8 := by omega
  have hyi : (y : Int) < 8 := by omega
  have hzi : (z : Int) < 8 := by omega
  have Hx := Lib.hid hx; have Hy := Lib.hid hy; have Hz := Lib.hid hz; have Hk := Lib.hid hk; have Ho := Lib.hid ho
  clear hx hy hz hk ho
  go_enter Try.func6, Try.ntmps6
  go_wp2_with fail
  refine (alike_round w a 8 (by omega) (by omega)).mono ?_
  rintro e _ ⟨rfl, rfl⟩
  rw [Hx.out]
  go_wp2_with fail
  refine (alike_round w b 8 (by omega) (by omega)).mono ?_
  rintro e _ ⟨rfl, rfl⟩
  rw [Hy.out]
  go_wp2_with fail
  refine (alike_round w c 8 (by omega) (by omega)).mono ?_
  rintro e _ ⟨rfl, rfl⟩
  rw [Hz.out]
  go_wp2_with fail
  refine (alike_round _ op 3 (by omega) (by omega)).mono ?_
  rintro e _ ⟨rfl, rfl⟩
  rw [Ho.out]
  go_wp2_with fail
  refine (alike_round _ kase 2 (by omega) (by omega)).mono ?_
  rintro e _ ⟨rfl, rfl⟩
  rw [Hk.out]
  go_wp2_with fail
  obtain ⟨w1, hw1⟩ : ∃ w1, w1 = ((w.alloc (.cells #[.int .i64 10, .int .i64 11, .int .i64 15] 3)).alloc (.cells #[.int .i64 15, .int .i64 x, .int .i64 y, .int .i64 z, .slice (some ⟨w.heap.size + 1 + 1, 0, none⟩) 2 2, .bool false] 34)).alloc (.cells #[.bool true, .int .i64 1, .int .i64 2, .bool false, .int .i64 3, .int .i64 0] 53) := ⟨_, rfl⟩
  rw [← hw1]
  have hf1 : Fr Nob w w1 := by rw [hw1]; exact (((Fr.refl Nob w).alloc _).alloc _).alloc _
  have hc1 : w1.heap[w.heap.size + 1 + 1]? = some (.cells #[.bool true, .int .i64 1, .int .i64 2, .bool false, .int .i64 3, .int .i64 0] 53 (0, 0)) := by rw [hw1]; exact blk_alloc_eq _ (by simp)
  have hi1 : w1.heap[w.heap.size + 1]? = some (.cells #[.int .i64 15, .int .i64 x, .int .i64 y, .int .i64 z, .slice (some ⟨w.heap.size + 1 + 1, 0, none⟩) 2 2, .bool false] 34 (0, 0)) := by rw [hw1]; exact ((Fr.refl Nob _).alloc _).blk id (blk_alloc_eq _ (by simp))
  obtain ⟨cb, hcb⟩ : ∃ cb, cb = w.heap.size + 1 + 1 := ⟨_, rfl⟩
  rw [← hcb] at hc1 hi1
  obtain ⟨ib, hib⟩ : ∃ ib, ib = w.heap.size + 1 := ⟨_, rfl⟩
  rw [← hib] at hi1 ⊢
  have hib1 := lt_of_block hi1
  have hcb1 := lt_of_block hc1
  have Hi1 := Lib.hid hi1; have F1 := Lib.hid hf1; have Hc1 := Lib.hid hc1
  clear hw1 hf1 hi1 hib hcb hc1
  refine (task_new w1).mono ?_
  rintro e w2 ⟨b', S0, rfl, hf2, ht2, hs2⟩
  have HS2 := Lib.hid (fun k (q : S0 k) => (show w1.heap.size ≤ k ∧ k < w2.heap.size from ⟨hs2 k q, by obtain ⟨ab, lb, SA, SL, h⟩ := ht2; exact h.lt k q⟩))
  have F2 := Lib.hid (F1.out.trans0 hf2); have Hi2 := Lib.hid (hf2.blk id Hi1.out); have Hc2 := Lib.hid (hf2.blk id Hc1.out)
  have HT2 := Lib.hid ht2; have hz12 := hf2.size
  clear hf2 ht2 hs2 Hi1 Hc1
  go_wp2_with fail
  obtain ⟨w3, hw3⟩ : ∃ w3, w3 = w2.alloc (.cells #[.int .i64 10, .int .i64 11, .int .i64 12, .int .i64 13, .int .i64 14, .int .i64 15, .int .i64 16, .int .i64 17] 30) := ⟨_, rfl⟩
  rw [← hw3]
  obtain ⟨rb, hrb⟩ : ∃ rb, rb = w2.heap.size := ⟨_, rfl⟩
  rw [← hrb]
  have hf3 : Fr Nob w2 w3 := by rw [hw3]; exact (Fr.refl Nob w2).alloc _
  have hr3 : w3.heap[rb]? = some (.cells (regR rgW) 30 (0, 0)) := by rw [hw3, hrb]; exact heap_alloc_new _ _
  have hrb3 := lt_of_block hr3
  have hrb2 : w2.heap.size ≤ rb ∧ rb ≤ w2.heap.size := by omega
  clear hrb
  have HT3 : Hid (TableAt w3 S0 b' [] []) := Lib.hid (by obtain ⟨ab, lb, SA, SL, h⟩ := HT2.out; exact ⟨ab, lb, SA, SL, h.fr0 hf3⟩)
  have F3 := Lib.hid (F2.out.trans0 hf3); have Hi3 := Lib.hid (hf3.blk id Hi2.out); have Hr3 := Lib.hid hr3; have Hc3 := Lib.hid (hf3.blk id Hc2.out)
  clear hw3 hf3 hr3 HT2 Hi2 Hc2
  refine (task_start HT3.out 0 (by omega) rgW 0 rfl (by omega) (by simp) (by simp)).mono ?_
  rintro e w4 ⟨S4, rfl, hf4, ht4, hs4⟩
  have hn0 : ¬ S0 ib := fun q => by have := HS2.out _ q; omega
  have hr0 : ¬ S0 rb := fun q => by have := HS2.out _ q; omega
  have hc0 : ¬ S0 cb := fun q => by have := HS2.out _ q; omega
  have F4 := Lib.hid (F3.out.trans hf4 fun k hk q => by have := HS2.out k q; have := F1.out.size; omega)
  have HT4 : Hid (TableAt w4 S4 b' [(newT 0 rgW, false)] [0]) := Lib.hid ht4
  have HS4 := Lib.hid (fun k (q : S4 k) => (show w1.heap.size ≤ k ∧ k ≠ rb by rcases hs4 k q with q | q; exact ⟨(HS2.out k q).1, fun e => hr0 (e ▸ q)⟩; omega))
  have Hi4 := Lib.hid (hf4.blk hn0 Hi3.out); have hr4 := hf4.blk hr0 Hr3.out; have Hc4 := Lib.hid (hf4.blk hc0 Hc3.out)
  have Hr4 := Lib.hid hr4
  have n4i : ¬ S4 ib := fun q => by have := HS4.out _ q; omega
  have n4r : ¬ S4 rb := fun q => (HS4.out _ q).2 rfl
  have n4c : ¬ S4 cb := fun q => by have := HS4.out _ q; omega
  have q0 := rc hr4 0 (by omega); have q1 := rc hr4 1 (by omega); have q2 := rc hr4 2 (by omega); have q3 := rc hr4 3 (by omega); have q4 := rc hr4 4 (by omega); have q5 := rc hr4 5 (by omega); have q6 := rc hr4 6 (by omega); have q7 := rc hr4 7 (by omega)
  clear hf4 ht4 hs4 hr4 HT3 Hi3 Hr3 Hc3
  go_wp2_with fail
  refine (put_ok HT4.out 0 _ false rfl 5 rgW rfl).mono ?_
  rintro e w5 ⟨rfl, hf5, ht5⟩
  have F5 := Lib.hid (F4.out.trans hf5 fun k hk q => by have := HS4.out k q; have := F1.out.size; omega)
  have HT5 : Hid (TableAt w5 S4 b' [(tP, false)] [0]) := Lib.hid ht5
  have hi5 := hf5.blk n4i Hi4.out; have Hi5 := Lib.hid hi5; have Hr5 := Lib.hid (hf5.blk n4r Hr4.out); have Hc5 := Lib.hid (hf5.blk n4c Hc4.out)
  have p0 := blk_cell hi5 0 rfl; have p1 := blk_cell hi5 1 rfl; have p2 := blk_cell hi5 2 rfl; have p3 := blk_cell hi5 3 rfl; have p4 := blk_cell hi5 4 rfl; have p5 := blk_cell hi5 5 rfl
  clear hf5 ht5 hi5 HT4 Hi4 Hr4 q0 q1 q2 q3 q4 q5 q6 q7 Hc4
  go_wp2_with fail
  refine (park_okC HT5.out x y z false (some ⟨cb, 0, none⟩) 2 2 csW rfl (by omega) (by omega) (rd_two Hc5.out) rfl (good15 _ _ _ x x8 y y8 z z8)).mono ?_
  rintro e w6 ⟨A6, cp6, rfl, hf6, ht6, hr6⟩
  have HT6 : Hid (TableC w6 S4 b' (.slice A6 2 cp6) (parkT tP 15 x y z) false []) := Lib.hid ht6
  have Hrd6 := Lib.hid hr6
  clear hr6 Hc5
  have F6 := Lib.hid (F5.out.trans hf6 fun k hk q => by have := HS4.out k q; have := F1.out.size; omega)
  have Hi6 := Lib.hid (hf6.blk n4i Hi5.out); have Hr6 := Lib.hid (hf6.blk n4r Hr5.out)
  have hz46 := hf6.size
  clear hf6 ht6 HT5 Hi5 Hr5 p0 p1 p2 p3 p4 p5
  go_wp2_with fail
  have h15 : (updT (parkT tP 15 x y z) (4 + x) ((0 : Nat) : Int)) 1 = 5 := upd_lo _ _ _ _ (by omega)
  refine (wake_okC HT6.out csW 2 rfl (by omega) (by omega) Hrd6.out ((0 : Nat) : Int) value ok rfl (updT (parkT tP 15 x y z) (4 + x) ((0 : Nat) : Int)) (fun A cp W tb hb hr => told_selS W tb _ false A 2 cp csW hb hr x y z x8 y8 z8 rfl rfl rfl rfl 0 (by omega) ((true, 1, 2)) rfl rfl 0 value ok false) (by rw [h15]; rfl) (by simp) (by simp)).mono ?_
  rintro e w7 ⟨S7, rfl, hf7, ht7, hs7⟩
  have F7 := Lib.hid (F6.out.trans hf7 fun k hk q => by have := HS4.out k q; have := F1.out.size; omega)
  have HT7 : Hid (TableAt w7 S7 b' [(wakeT (updT (parkT tP 15 x y z) (4 + x) ((0 : Nat) : Int)), false)] [0]) := Lib.hid ht7
  have hi7 := hf7.blk n4i Hi6.out; have hr7 := hf7.blk n4r Hr6.out
  have hr6z := lt_of_block Hr6.out
  have HS7 := Lib.hid (fun k (q : S7 k) => (show k ≠ rb by rcases hs7 k q with q | q; exact (HS4.out k q).2; omega))
  have HE : Hid (∀ j, j < 8 → wakeT (updT (parkT tP 15 x y z) (4 + x) ((0 : Nat) : Int)) (4 + j) = (updT rgW x ((0 : Nat) : Int)) j) := Lib.hid (wakeE (updE (parkE (putE (newT 0 rgW) rgW 5) 15 x y z) x _))
  have HW1 : Hid (wakeT (updT (parkT tP 15 x y z) (4 + x) ((0 : Nat) : Int)) 1 = 6) := Lib.hid (show (updT (parkT tP 15 x y z) (4 + x) ((0 : Nat) : Int)) 1 + 1 = 6 by rw [h15]; rfl)
  have HW2 : Hid (wakeT (updT (parkT tP 15 x y z) (4 + x) ((0 : Nat) : Int)) 2 = 0 ∧ wakeT (updT (parkT tP 15 x y z) (4 + x) ((0 : Nat) : Int)) 12 = 0) := Lib.hid ⟨rfl, rfl⟩
  have p0 := blk_cell hi7 0 rfl
  have Hi7 := Lib.hid hi7; have Hr7 := Lib.hid hr7
  clear hf7 ht7 hs7 HT6 Hi6 Hr6 h15 hi7
  generalize htW : wakeT (updT (parkT tP 15 x y z) (4 + x) ((0 : Nat) : Int)) = tW at *
  have hib7 : ¬ ib = rb := fun e => by omega
  have cA0 := rc hr7 x x8; have fA0 := blk_froz hr7 x
  go_wp2_with fail
  obtain ⟨w8, hw8⟩ : ∃ w8, w8 = (w7.setCell ⟨rb, x, none⟩ (.int .i64 (0))) := ⟨_, rfl⟩
  rw [← hw8]
  have hf78 : Fr (fun k => k = rb) w7 w8 := by rw [hw8]; exact ((Fr.refl (fun k => k = rb) w7).setT x _)
  have hr8 : w8.heap[rb]? = some (.cells (regR (updT rgW x ((0 : Nat) : Int))) 30 (0, 0)) := by rw [hw8]; exact (rp hr7 x x8 (0))
  have HT8 := Lib.hid (show TableAt w8 S7 b' [(tW, false)] [0] by obtain ⟨ab, lb, SA, SL, h⟩ := HT7.out; exact ⟨ab, lb, SA, SL, h.fr hf78 fun k q e => HS7.out k q e⟩)
  have F8 := Lib.hid (F7.out.trans hf78 fun k hk e => by have := F2.out.size; omega)
  obtain ⟨r', hr'⟩ : ∃ r', r' = (updT rgW x ((0 : Nat) : Int)) := ⟨_, rfl⟩
  rw [← hr'] at hr8
  have HE8 : Hid (∀ j, j < 8 → tW (4 + j) = r' j) := Lib.hid (by rw [hr']; exact HE.out)
  have Hr8 := Lib.hid hr8
  clear hw8 hf78 hr8 hr' HE cA0 fA0 p0 hr7 Hr7 Hi7 HT7
  refine (task_get HT8.out 0 _ false rfl).mono ?_
  rintro e w9 ⟨rfl, hf9⟩
  have F9 := Lib.hid (F8.out.trans0 hf9)
  have Hr9 := Lib.hid (hf9.blk id Hr8.out)
  clear hf9 HT8 Hr8
  have hzn : (w9.alloc (.cells tkZ.toArray 44)).heap[w9.heap.size]? = some (.cells tkZ.toArray 44 (0, 0)) := heap_alloc_new _ _
  unfold tkZ at hzn
  dsimp only [tkL] at hzn
  go_wp2_with (refine wpList_store_row _ rfl 44 (.tmp 27) (.tmp 112) rfl w9.heap.size (tkD tW false).toArray _ 44 rfl rfl hzn rfl (info18 _ false) (tkD_all _ false) ?_; intro w10 hb10 hf10; have Hb10 := Lib.hid hb10; have hf910 : Fr Nob w9 w10 := ((Fr.refl Nob w9).alloc _).trans hf10 (fun k hk e => by omega); have hr10 := hf910.blk id Hr9.out; have F10 := Lib.hid (F9.out.trans0 hf910); have x1 : w10.cell? ⟨w9.heap.size, 1, none⟩ = some (.int .i64 6) := (blk_cell hb10 1 rfl).trans (congrArg (fun v => some (Value.int .i64 v)) HW1.out); have x2 : w10.cell? ⟨w9.heap.size, 2, none⟩ = some (.int .i64 0) := (blk_cell hb10 2 rfl).trans (congrArg (fun v => some (Value.int .i64 v)) HW2.out.1); have x12 : w10.cell? ⟨w9.heap.size, 12, none⟩ = some (.int .i64 0) := (blk_cell hb10 12 rfl).trans (congrArg (fun v => some (Value.int .i64 v)) HW2.out.2); have x4 : w10.cell? ⟨w9.heap.size, 4, none⟩ = some (.int .i64 (r' 0)) := (blk_cell hb10 4 rfl).trans (congrArg (fun v => some (Value.int .i64 v)) (HE8.out 0 (by omega))); have x5 : w10.cell? ⟨w9.heap.size, 5, none⟩ = some (.int .i64 (r' 1)) := (blk_cell hb10 5 rfl).trans (congrArg (fun v => some (Value.int .i64 v)) (HE8.out 1 (by omega))); have x6 : w10.cell? ⟨w9.heap.size, 6, none⟩ = some (.int .i64 (r' 2)) := (blk_cell hb10 6 rfl).trans (congrArg (fun v => some (Value.int .i64 v)) (HE8.out 2 (by omega))); have x7 : w10.cell? ⟨w9.heap.size, 7, none⟩ = some (.int .i64 (r' 3)) := (blk_cell hb10 7 rfl).trans (congrArg (fun v => some (Value.int .i64 v)) (HE8.out 3 (by omega))); have x8 : w10.cell? ⟨w9.heap.size, 8, none⟩ = some (.int .i64 (r' 4)) := (blk_cell hb10 8 rfl).trans (congrArg (fun v => some (Value.int .i64 v)) (HE8.out 4 (by omega))); have x9 : w10.cell? ⟨w9.heap.size, 9, none⟩ = some (.int .i64 (r' 5)) := (blk_cell hb10 9 rfl).trans (congrArg (fun v => some (Value.int .i64 v)) (HE8.out 5 (by omega))); have x10 : w10.cell? ⟨w9.heap.size, 10, none⟩ = some (.int .i64 (r' 6)) := (blk_cell hb10 10 rfl).trans (congrArg (fun v => some (Value.int .i64 v)) (HE8.out 6 (by omega))); have x11 : w10.cell? ⟨w9.heap.size, 11, none⟩ = some (.int .i64 (r' 7)) := (blk_cell hb10 11 rfl).trans (congrArg (fun v => some (Value.int .i64 v)) (HE8.out 7 (by omega))); have y0 := rc hr10 0 (by omega); have y1 := rc hr10 1 (by omega); have y2 := rc hr10 2 (by omega); have y3 := rc hr10 3 (by omega); have y4 := rc hr10 4 (by omega); have y5 := rc hr10 5 (by omega); have y6 := rc hr10 6 (by omega); have y7 := rc hr10 7 (by omega); have heq : ∀ W : World, (Op.equalIn 10000 30 (.agg #[.int .i64 (r' 0), .int .i64 (r' 1), .int .i64 (r' 2), .int .i64 (r' 3), .int .i64 (r' 4), .int .i64 (r' 5), .int .i64 (r' 6), .int .i64 (r' 7)]) (.agg #[.int .i64 (r' 0), .int .i64 (r' 1), .int .i64 (r' 2), .int .i64 (r' 3), .int .i64 (r' 4), .int .i64 (r' 5), .int .i64 (r' 6), .int .i64 (r' 7)])).run Try.prog W = .ok true W := fun W => run_equalIn_arr (P := Try.prog) W 9998 30 3 8 [r' 0, r' 1, r' 2, r' 3, r' 4, r' 5, r' 6, r' 7] Try.underlying30 Try.underlying3 (by kernel_rfl) rfl; clear hb10 hf10 hf910 hr10)
  refine (awake17 w10).mono ?_
  rintro e w11 ⟨rfl, hf11⟩
  have F11 := Lib.hid (F10.out.trans0 hf11)
  clear hf11 heq x4 y0 x5 y1 x6 y2 x7 y3 x8 y4 x9 y5 x10 y6 x11 y7 x1 x2 x12
  go_wp2_with fail
  go_ret
  exact ⟨rfl, F11.out⟩
set_option maxHeartbeats 4000000 in
theorem tw15R (w : World) (op a b c kase value : Int) (ok : Bool) (x y z k : Nat) (hx : a % 8 = (x : Int)) (hy : b % 8 = (y : Int)) (hz : c % 8 = (z : Int)) (hk : kase % 2 = (1 : Int)) (ho : op % 3 = (2 : Int)) (x8 : x < 8) (y8 : y < 8) (z8 : z < 8) :
    Calls Try.prog 6 #[.int .i64 op, .int .i64 a, .int .i64 b, .int .i64 c, .int .i64 kase, .int .i64 value, .bool ok] w fun e w' => e = .returned (.bool true) ∧ Fr Nob w w' := by
  have hxi : (x : Int) < 8 := by omega
  have hyi : (y : Int) < 8 := by omega
  have hzi : (z : Int) < 8 := by omega
  have Hx := Lib.hid hx; have Hy := Lib.hid hy; have Hz := Lib.hid hz; have Hk := Lib.hid hk; have Ho := Lib.hid ho
  clear hx hy hz hk ho
  go_enter Try.func6, Try.ntmps6
  go_wp2_with fail
  refine (alike_round w a 8 (by omega) (by omega)).mono ?_
  rintro e _ ⟨rfl, rfl⟩
  rw [Hx.out]
  go_wp2_with fail
  refine (alike_round w b 8 (by omega) (by omega)).mono ?_
  rintro e _ ⟨rfl, rfl⟩
  rw [Hy.out]
  go_wp2_with fail
  refine (alike_round w c 8 (by omega) (by omega)).mono ?_
  rintro e _ ⟨rfl, rfl⟩
  rw [Hz.out]
  go_wp2_with fail
  refine (alike_round _ op 3 (by omega) (by omega)).mono ?_
  rintro e _ ⟨rfl, rfl⟩
  rw [Ho.out]
  go_wp2_with fail
  refine (alike_round _ kase 2 (by omega) (by omega)).mono ?_
  rintro e _ ⟨rfl, rfl⟩
  rw [Hk.out]
  go_wp2_with fail
  obtain ⟨w1, hw1⟩ : ∃ w1, w1 = ((w.alloc (.cells #[.int .i64 10, .int .i64 11, .int .i64 15] 3)).alloc (.cells #[.int .i64 15, .int .i64 x, .int .i64 y, .int .i64 z, .slice (some ⟨w.heap.size + 1 + 1, 0, none⟩) 2 2, .bool false] 34)).alloc (.cells #[.bool true, .int .i64 1, .int .i64 2, .bool false, .int .i64 3, .int .i64 0] 53) := ⟨_, rfl⟩
  rw [← hw1]
  have hf1 : Fr Nob w w1 := by rw [hw1]; exact (((Fr.refl Nob w).alloc _).alloc _).alloc _
  have hc1 : w1.heap[w.heap.size + 1 + 1]? = some (.cells #[.bool true, .int .i64 1, .int .i64 2, .bool false, .int .i64 3, .int .i64 0] 53 (0, 0)) := by rw [hw1]; exact blk_alloc_eq _ (by simp)
  have hi1 : w1.heap[w.heap.size + 1]? = some (.cells #[.int .i64 15, .int .i64 x, .int .i64 y, .int .i64 z, .slice (some ⟨w.heap.size + 1 + 1, 0, none⟩) 2 2, .bool false] 34 (0, 0)) := by rw [hw1]; exact ((Fr.refl Nob _).alloc _).blk id (blk_alloc_eq _ (by simp))
  obtain ⟨cb, hcb⟩ : ∃ cb, cb = w.heap.size + 1 + 1 := ⟨_, rfl⟩
  rw [← hcb] at hc1 hi1
  obtain ⟨ib, hib⟩ : ∃ ib, ib = w.heap.size + 1 := ⟨_, rfl⟩
  rw [← hib] at hi1 ⊢
  have hib1 := lt_of_block hi1
  have hcb1 := lt_of_block hc1
  have Hi1 := Lib.hid hi1; have F1 := Lib.hid hf1; have Hc1 := Lib.hid hc1
  clear hw1 hf1 hi1 hib hcb hc1
  refine (task_new w1).mono ?_
  rintro e w2 ⟨b', S0, rfl, hf2, ht2, hs2⟩
  have HS2 := Lib.hid (fun k (q : S0 k) => (show w1.heap.size ≤ k ∧ k < w2.heap.size from ⟨hs2 k q, by obtain ⟨ab, lb, SA, SL, h⟩ := ht2; exact h.lt k q⟩))
  have F2 := Lib.hid (F1.out.trans0 hf2); have Hi2 := Lib.hid (hf2.blk id Hi1.out); have Hc2 := Lib.hid (hf2.blk id Hc1.out)
  have HT2 := Lib.hid ht2; have hz12 := hf2.size
  clear hf2 ht2 hs2 Hi1 Hc1
  go_wp2_with fail
  obtain ⟨w3, hw3⟩ : ∃ w3, w3 = w2.alloc (.cells #[.int .i64 10, .int .i64 11, .int .i64 12, .int .i64 13, .int .i64 14, .int .i64 15, .int .i64 16, .int .i64 17] 30) := ⟨_, rfl⟩
  rw [← hw3]
  obtain ⟨rb, hrb⟩ : ∃ rb, rb = w2.heap.size := ⟨_, rfl⟩
  rw [← hrb]
  have hf3 : Fr Nob w2 w3 := by rw [hw3]; exact (Fr.refl Nob w2).alloc _
  have hr3 : w3.heap[rb]? = some (.cells (regR rgW) 30 (0, 0)) := by rw [hw3, hrb]; exact heap_alloc_new _ _
  have hrb3 := lt_of_block hr3
  have hrb2 : w2.heap.size ≤ rb ∧ rb ≤ w2.heap.size := by omega
  clear hrb
  have HT3 : Hid (TableAt w3 S0 b' [] []) := Lib.hid (by obtain ⟨ab, lb, SA, SL, h⟩ := HT2.out; exact ⟨ab, lb, SA, SL, h.fr0 hf3⟩)
  have F3 := Lib.hid (F2.out.trans0 hf3); have Hi3 := Lib.hid (hf3.blk id Hi2.out); have Hr3 := Lib.hid hr3; have Hc3 := Lib.hid (hf3.blk id Hc2.out)
  clear hw3 hf3 hr3 HT2 Hi2 Hc2
  refine (task_start HT3.out 0 (by omega) rgW 0 rfl (by omega) (by simp) (by simp)).mono ?_
  rintro e w4 ⟨S4, rfl, hf4, ht4, hs4⟩
  have hn0 : ¬ S0 ib := fun q => by have := HS2.out _ q; omega
  have hr0 : ¬ S0 rb := fun q => by have := HS2.out _ q; omega
  have hc0 : ¬ S0 cb := fun q => by have := HS2.out _ q; omega
  have F4 := Lib.hid (F3.out.trans hf4 fun k hk q => by have := HS2.out k q; have := F1.out.size; omega)
  have HT4 : Hid (TableAt w4 S4 b' [(newT 0 rgW, false)] [0]) := Lib.hid ht4
  have HS4 := Lib.hid (fun k (q : S4 k) => (show w1.heap.size ≤ k ∧ k ≠ rb by rcases hs4 k q with q | q; exact ⟨(HS2.out k q).1, fun e => hr0 (e ▸ q)⟩; omega))
  have Hi4 := Lib.hid (hf4.blk hn0 Hi3.out); have hr4 := hf4.blk hr0 Hr3.out; have Hc4 := Lib.hid (hf4.blk hc0 Hc3.out)
  have Hr4 := Lib.hid hr4
  have n4i : ¬ S4 ib := fun q => by have := HS4.out _ q; omega
  have n4r : ¬ S4 rb := fun q => (HS4.out _ q).2 rfl
  have n4c : ¬ S4 cb := fun q => by have := HS4.out _ q; omega
  have q0 := rc hr4 0 (by omega); have q1 := rc hr4 1 (by omega); have q2 := rc hr4 2 (by omega); have q3 := rc hr4 3 (by omega); have q4 := rc hr4 4 (by omega); have q5 := rc hr4 5 (by omega); have q6 := rc hr4 6 (by omega); have q7 := rc hr4 7 (by omega)
  clear hf4 ht4 hs4 hr4 HT3 Hi3 Hr3 Hc3
  go_wp2_with fail
  refine (put_ok HT4.out 0 _ false rfl 5 rgW rfl).mono ?_
  rintro e w5 ⟨rfl, hf5, ht5⟩
  have F5 := Lib.hid (F4.out.trans hf5 fun k hk q => by have := HS4.out k q; have := F1.out.size; omega)
  have HT5 : Hid (TableAt w5 S4 b' [(tP, false)] [0]) := Lib.hid ht5
  have hi5 := hf5.blk n4i Hi4.out; have Hi5 := Lib.hid hi5; have Hr5 := Lib.hid (hf5.blk n4r Hr4.out); have Hc5 := Lib.hid (hf5.blk n4c Hc4.out)
  have p0 := blk_cell hi5 0 rfl; have p1 := blk_cell hi5 1 rfl; have p2 := blk_cell hi5 2 rfl; have p3 := blk_cell hi5 3 rfl; have p4 := blk_cell hi5 4 rfl; have p5 := blk_cell hi5 5 rfl
  clear hf5 ht5 hi5 HT4 Hi4 Hr4 q0 q1 q2 q3 q4 q5 q6 q7 Hc4
  go_wp2_with fail
  refine (park_okC HT5.out x y z false (some ⟨cb, 0, none⟩) 2 2 csW rfl (by omega) (by omega) (rd_two Hc5.out) rfl (good15 _ _ _ x x8 y y8 z z8)).mono ?_
  rintro e w6 ⟨A6, cp6, rfl, hf6, ht6, hr6⟩
  have HT6 : Hid (TableC w6 S4 b' (.slice A6 2 cp6) (parkT tP 15 x y z) false []) := Lib.hid ht6
  have Hrd6 := Lib.hid hr6
  clear hr6 Hc5
  have F6 := Lib.hid (F5.out.trans hf6 fun k hk q => by have := HS4.out k q; have := F1.out.size; omega)
  have Hi6 := Lib.hid (hf6.blk n4i Hi5.out); have Hr6 := Lib.hid (hf6.blk n4r Hr5.out)
  have hz46 := hf6.size
  clear hf6 ht6 HT5 Hi5 Hr5 p0 p1 p2 p3 p4 p5
  go_wp2_with fail
  have h15 : (recvT (updT (parkT tP 15 x y z) (4 + x) ((1 : Nat) : Int)) y z value ok) 1 = 5 := (recv1 _ _ _ _ _).trans (upd_lo _ _ _ _ (by omega))
  refine (wake_okC HT6.out csW 2 rfl (by omega) (by omega) Hrd6.out ((1 : Nat) : Int) value ok rfl (recvT (updT (parkT tP 15 x y z) (4 + x) ((1 : Nat) : Int)) y z value ok) (fun A cp W tb hb hr => told_selR W tb _ false A 2 cp csW hb hr x y z x8 y8 z8 rfl rfl rfl rfl 1 (by omega) ((false, 3, 0)) rfl rfl 0 value ok false) (by rw [h15]; rfl) (by simp) (by simp)).mono ?_
  rintro e w7 ⟨S7, rfl, hf7, ht7, hs7⟩
  have F7 := Lib.hid (F6.out.trans hf7 fun k hk q => by have := HS4.out k q; have := F1.out.size; omega)
  have HT7 : Hid (TableAt w7 S7 b' [(wakeT (recvT (updT (parkT tP 15 x y z) (4 + x) ((1 : Nat) : Int)) y z value ok), false)] [0]) := Lib.hid ht7
  have hi7 := hf7.blk n4i Hi6.out; have hr7 := hf7.blk n4r Hr6.out
  have hr6z := lt_of_block Hr6.out
  have HS7 := Lib.hid (fun k (q : S7 k) => (show k ≠ rb by rcases hs7 k q with q | q; exact (HS4.out k q).2; omega))
  have HE : Hid (∀ j, j < 8 → wakeT (recvT (updT (parkT tP 15 x y z) (4 + x) ((1 : Nat) : Int)) y z value ok) (4 + j) = (recvR (updT rgW x ((1 : Nat) : Int)) y z value ok) j) := Lib.hid (wakeE (recvE (updE (parkE (putE (newT 0 rgW) rgW 5) 15 x y z) x _) y z value ok))
  have HW1 : Hid (wakeT (recvT (updT (parkT tP 15 x y z) (4 + x) ((1 : Nat) : Int)) y z value ok) 1 = 6) := Lib.hid (show (recvT (updT (parkT tP 15 x y z) (4 + x) ((1 : Nat) : Int)) y z value ok) 1 + 1 = 6 by rw [h15]; rfl)
  have HW2 : Hid (wakeT (recvT (updT (parkT tP 15 x y z) (4 + x) ((1 : Nat) : Int)) y z value ok) 2 = 0 ∧ wakeT (recvT (updT (parkT tP 15 x y z) (4 + x) ((1 : Nat) : Int)) y z value ok) 12 = 0) := Lib.hid ⟨rfl, rfl⟩
  have p0 := blk_cell hi7 0 rfl
  have Hi7 := Lib.hid hi7; have Hr7 := Lib.hid hr7
  clear hf7 ht7 hs7 HT6 Hi6 Hr6 h15 hi7
  generalize htW : wakeT (recvT (updT (parkT tP 15 x y z) (4 + x) ((1 : Nat) : Int)) y z value ok) = tW at *
  cases ok with
  | true =>
    have hib7 : ¬ ib = rb := fun e => by omega
    have cA0 := rc hr7 x x8; have fA0 := blk_froz hr7 x
    have cA1 := rc (rp hr7 x x8 (1)) y y8; have fA1 := blk_froz (rp hr7 x x8 (1)) y
    have pA1 : ((w7.setCell ⟨rb, x, none⟩ (.int .i64 (1)))).cell? ⟨ib, 0, none⟩ = some (.int .i64 15) := blk_cell ((((Fr.refl (fun k => k = rb) w7).setT x _)).blk hib7 Hi7.out) 0 rfl
    have cA2 := rc (rp (rp hr7 x x8 (1)) y y8 (value)) z z8; have fA2 := blk_froz (rp (rp hr7 x x8 (1)) y y8 (value)) z
    have pA2 : (((w7.setCell ⟨rb, x, none⟩ (.int .i64 (1))).setCell ⟨rb, y, none⟩ (.int .i64 (value)))).cell? ⟨ib, 0, none⟩ = some (.int .i64 15) := blk_cell (((((Fr.refl (fun k => k = rb) w7).setT x _).setT y _)).blk hib7 Hi7.out) 0 rfl
    have cA3 := rc (rp (rp (rp hr7 x x8 (1)) y y8 (value)) z z8 (0)) z z8; have fA3 := blk_froz (rp (rp (rp hr7 x x8 (1)) y y8 (value)) z z8 (0)) z
    have pA3 : ((((w7.setCell ⟨rb, x, none⟩ (.int .i64 (1))).setCell ⟨rb, y, none⟩ (.int .i64 (value))).setCell ⟨rb, z, none⟩ (.int .i64 (0)))).cell? ⟨ib, 0, none⟩ = some (.int .i64 15) := blk_cell ((((((Fr.refl (fun k => k = rb) w7).setT x _).setT y _).setT z _)).blk hib7 Hi7.out) 0 rfl
    go_wp2_with fail
    obtain ⟨w8, hw8⟩ : ∃ w8, w8 = ((((w7.setCell ⟨rb, x, none⟩ (.int .i64 (1))).setCell ⟨rb, y, none⟩ (.int .i64 (value))).setCell ⟨rb, z, none⟩ (.int .i64 (0))).setCell ⟨rb, z, none⟩ (.int .i64 (1))) := ⟨_, rfl⟩
    rw [← hw8]
    have hf78 : Fr (fun k => k = rb) w7 w8 := by rw [hw8]; exact (((((Fr.refl (fun k => k = rb) w7).setT x _).setT y _).setT z _).setT z _)
    have hr8 : w8.heap[rb]? = some (.cells (regR (recvR (updT rgW x ((1 : Nat) : Int)) y z value true)) 30 (0, 0)) := by rw [hw8]; exact (rp (rp (rp (rp hr7 x x8 (1)) y y8 (value)) z z8 (0)) z z8 (1))
    have HT8 := Lib.hid (show TableAt w8 S7 b' [(tW, false)] [0] by obtain ⟨ab, lb, SA, SL, h⟩ := HT7.out; exact ⟨ab, lb, SA, SL, h.fr hf78 fun k q e => HS7.out k q e⟩)
    have F8 := Lib.hid (F7.out.trans hf78 fun k hk e => by have := F2.out.size; omega)
    obtain ⟨r', hr'⟩ : ∃ r', r' = (recvR (updT rgW x ((1 : Nat) : Int)) y z value true) := ⟨_, rfl⟩
    rw [← hr'] at hr8
    have HE8 : Hid (∀ j, j < 8 → tW (4 + j) = r' j) := Lib.hid (by rw [hr']; exact HE.out)
    have Hr8 := Lib.hid hr8
    clear hw8 hf78 hr8 hr' HE cA0 fA0 cA1 fA1 pA1 cA2 fA2 pA2 cA3 fA3 pA3 p0 hr7 Hr7 Hi7 HT7
    refine (task_get HT8.out 0 _ false rfl).mono ?_
    rintro e w9 ⟨rfl, hf9⟩
    have F9 := Lib.hid (F8.out.trans0 hf9)
    have Hr9 := Lib.hid (hf9.blk id Hr8.out)
    clear hf9 HT8 Hr8
    have hzn : (w9.alloc (.cells tkZ.toArray 44)).heap[w9.heap.size]? = some (.cells tkZ.toArray 44 (0, 0)) := heap_alloc_new _ _
    unfold tkZ at hzn
    dsimp only [tkL] at hzn
    go_wp2_with (refine wpList_store_row _ rfl 44 (.tmp 27) (.tmp 112) rfl w9.heap.size (tkD tW false).toArray _ 44 rfl rfl hzn rfl (info18 _ false) (tkD_all _ false) ?_; intro w10 hb10 hf10; have Hb10 := Lib.hid hb10; have hf910 : Fr Nob w9 w10 := ((Fr.refl Nob w9).alloc _).trans hf10 (fun k hk e => by omega); have hr10 := hf910.blk id Hr9.out; have F10 := Lib.hid (F9.out.trans0 hf910); have x1 : w10.cell? ⟨w9.heap.size, 1, none⟩ = some (.int .i64 6) := (blk_cell hb10 1 rfl).trans (congrArg (fun v => some (Value.int .i64 v)) HW1.out); have x2 : w10.cell? ⟨w9.heap.size, 2, none⟩ = some (.int .i64 0) := (blk_cell hb10 2 rfl).trans (congrArg (fun v => some (Value.int .i64 v)) HW2.out.1); have x12 : w10.cell? ⟨w9.heap.size, 12, none⟩ = some (.int .i64 0) := (blk_cell hb10 12 rfl).trans (congrArg (fun v => some (Value.int .i64 v)) HW2.out.2); have x4 : w10.cell? ⟨w9.heap.size, 4, none⟩ = some (.int .i64 (r' 0)) := (blk_cell hb10 4 rfl).trans (congrArg (fun v => some (Value.int .i64 v)) (HE8.out 0 (by omega))); have x5 : w10.cell? ⟨w9.heap.size, 5, none⟩ = some (.int .i64 (r' 1)) := (blk_cell hb10 5 rfl).trans (congrArg (fun v => some (Value.int .i64 v)) (HE8.out 1 (by omega))); have x6 : w10.cell? ⟨w9.heap.size, 6, none⟩ = some (.int .i64 (r' 2)) := (blk_cell hb10 6 rfl).trans (congrArg (fun v => some (Value.int .i64 v)) (HE8.out 2 (by omega))); have x7 : w10.cell? ⟨w9.heap.size, 7, none⟩ = some (.int .i64 (r' 3)) := (blk_cell hb10 7 rfl).trans (congrArg (fun v => some (Value.int .i64 v)) (HE8.out 3 (by omega))); have x8 : w10.cell? ⟨w9.heap.size, 8, none⟩ = some (.int .i64 (r' 4)) := (blk_cell hb10 8 rfl).trans (congrArg (fun v => some (Value.int .i64 v)) (HE8.out 4 (by omega))); have x9 : w10.cell? ⟨w9.heap.size, 9, none⟩ = some (.int .i64 (r' 5)) := (blk_cell hb10 9 rfl).trans (congrArg (fun v => some (Value.int .i64 v)) (HE8.out 5 (by omega))); have x10 : w10.cell? ⟨w9.heap.size, 10, none⟩ = some (.int .i64 (r' 6)) := (blk_cell hb10 10 rfl).trans (congrArg (fun v => some (Value.int .i64 v)) (HE8.out 6 (by omega))); have x11 : w10.cell? ⟨w9.heap.size, 11, none⟩ = some (.int .i64 (r' 7)) := (blk_cell hb10 11 rfl).trans (congrArg (fun v => some (Value.int .i64 v)) (HE8.out 7 (by omega))); have y0 := rc hr10 0 (by omega); have y1 := rc hr10 1 (by omega); have y2 := rc hr10 2 (by omega); have y3 := rc hr10 3 (by omega); have y4 := rc hr10 4 (by omega); have y5 := rc hr10 5 (by omega); have y6 := rc hr10 6 (by omega); have y7 := rc hr10 7 (by omega); have heq : ∀ W : World, (Op.equalIn 10000 30 (.agg #[.int .i64 (r' 0), .int .i64 (r' 1), .int .i64 (r' 2), .int .i64 (r' 3), .int .i64 (r' 4), .int .i64 (r' 5), .int .i64 (r' 6), .int .i64 (r' 7)]) (.agg #[.int .i64 (r' 0), .int .i64 (r' 1), .int .i64 (r' 2), .int .i64 (r' 3), .int .i64 (r' 4), .int .i64 (r' 5), .int .i64 (r' 6), .int .i64 (r' 7)])).run Try.prog W = .ok true W := fun W => run_equalIn_arr (P := Try.prog) W 9998 30 3 8 [r' 0, r' 1, r' 2, r' 3, r' 4, r' 5, r' 6, r' 7] Try.underlying30 Try.underlying3 (by kernel_rfl) rfl; clear hb10 hf10 hf910 hr10)
    refine (awake17 w10).mono ?_
    rintro e w11 ⟨rfl, hf11⟩
    have F11 := Lib.hid (F10.out.trans0 hf11)
    clear hf11 heq x4 y0 x5 y1 x6 y2 x7 y3 x8 y4 x9 y5 x10 y6 x11 y7 x1 x2 x12
    go_wp2_with fail
    go_ret
    exact ⟨rfl, F11.out⟩
  | false =>
    have hib7 : ¬ ib = rb := fun e => by omega
    have cA0 := rc hr7 x x8; have fA0 := blk_froz hr7 x
    have cA1 := rc (rp hr7 x x8 (1)) y y8; have fA1 := blk_froz (rp hr7 x x8 (1)) y
    have pA1 : ((w7.setCell ⟨rb, x, none⟩ (.int .i64 (1)))).cell? ⟨ib, 0, none⟩ = some (.int .i64 15) := blk_cell ((((Fr.refl (fun k => k = rb) w7).setT x _)).blk hib7 Hi7.out) 0 rfl
    have cA2 := rc (rp (rp hr7 x x8 (1)) y y8 (value)) z z8; have fA2 := blk_froz (rp (rp hr7 x x8 (1)) y y8 (value)) z
    have pA2 : (((w7.setCell ⟨rb, x, none⟩ (.int .i64 (1))).setCell ⟨rb, y, none⟩ (.int .i64 (value)))).cell? ⟨ib, 0, none⟩ = some (.int .i64 15) := blk_cell (((((Fr.refl (fun k => k = rb) w7).setT x _).setT y _)).blk hib7 Hi7.out) 0 rfl
    go_wp2_with fail
    obtain ⟨w8, hw8⟩ : ∃ w8, w8 = (((w7.setCell ⟨rb, x, none⟩ (.int .i64 (1))).setCell ⟨rb, y, none⟩ (.int .i64 (value))).setCell ⟨rb, z, none⟩ (.int .i64 (0))) := ⟨_, rfl⟩
    rw [← hw8]
    have hf78 : Fr (fun k => k = rb) w7 w8 := by rw [hw8]; exact ((((Fr.refl (fun k => k = rb) w7).setT x _).setT y _).setT z _)
    have hr8 : w8.heap[rb]? = some (.cells (regR (recvR (updT rgW x ((1 : Nat) : Int)) y z value false)) 30 (0, 0)) := by rw [hw8]; exact (rp (rp (rp hr7 x x8 (1)) y y8 (value)) z z8 (0))
    have HT8 := Lib.hid (show TableAt w8 S7 b' [(tW, false)] [0] by obtain ⟨ab, lb, SA, SL, h⟩ := HT7.out; exact ⟨ab, lb, SA, SL, h.fr hf78 fun k q e => HS7.out k q e⟩)
    have F8 := Lib.hid (F7.out.trans hf78 fun k hk e => by have := F2.out.size; omega)
    obtain ⟨r', hr'⟩ : ∃ r', r' = (recvR (updT rgW x ((1 : Nat) : Int)) y z value false) := ⟨_, rfl⟩
    rw [← hr'] at hr8
    have HE8 : Hid (∀ j, j < 8 → tW (4 + j) = r' j) := Lib.hid (by rw [hr']; exact HE.out)
    have Hr8 := Lib.hid hr8
    clear hw8 hf78 hr8 hr' HE cA0 fA0 cA1 fA1 pA1 cA2 fA2 pA2 p0 hr7 Hr7 Hi7 HT7
    refine (task_get HT8.out 0 _ false rfl).mono ?_
    rintro e w9 ⟨rfl, hf9⟩
    have F9 := Lib.hid (F8.out.trans0 hf9)
    have Hr9 := Lib.hid (hf9.blk id Hr8.out)
    clear hf9 HT8 Hr8
    have hzn : (w9.alloc (.cells tkZ.toArray 44)).heap[w9.heap.size]? = some (.cells tkZ.toArray 44 (0, 0)) := heap_alloc_new _ _
    unfold tkZ at hzn
    dsimp only [tkL] at hzn
    go_wp2_with (refine wpList_store_row _ rfl 44 (.tmp 27) (.tmp 112) rfl w9.heap.size (tkD tW false).toArray _ 44 rfl rfl hzn rfl (info18 _ false) (tkD_all _ false) ?_; intro w10 hb10 hf10; have Hb10 := Lib.hid hb10; have hf910 : Fr Nob w9 w10 := ((Fr.refl Nob w9).alloc _).trans hf10 (fun k hk e => by omega); have hr10 := hf910.blk id Hr9.out; have F10 := Lib.hid (F9.out.trans0 hf910); have x1 : w10.cell? ⟨w9.heap.size, 1, none⟩ = some (.int .i64 6) := (blk_cell hb10 1 rfl).trans (congrArg (fun v => some (Value.int .i64 v)) HW1.out); have x2 : w10.cell? ⟨w9.heap.size, 2, none⟩ = some (.int .i64 0) := (blk_cell hb10 2 rfl).trans (congrArg (fun v => some (Value.int .i64 v)) HW2.out.1); have x12 : w10.cell? ⟨w9.heap.size, 12, none⟩ = some (.int .i64 0) := (blk_cell hb10 12 rfl).trans (congrArg (fun v => some (Value.int .i64 v)) HW2.out.2); have x4 : w10.cell? ⟨w9.heap.size, 4, none⟩ = some (.int .i64 (r' 0)) := (blk_cell hb10 4 rfl).trans (congrArg (fun v => some (Value.int .i64 v)) (HE8.out 0 (by omega))); have x5 : w10.cell? ⟨w9.heap.size, 5, none⟩ = some (.int .i64 (r' 1)) := (blk_cell hb10 5 rfl).trans (congrArg (fun v => some (Value.int .i64 v)) (HE8.out 1 (by omega))); have x6 : w10.cell? ⟨w9.heap.size, 6, none⟩ = some (.int .i64 (r' 2)) := (blk_cell hb10 6 rfl).trans (congrArg (fun v => some (Value.int .i64 v)) (HE8.out 2 (by omega))); have x7 : w10.cell? ⟨w9.heap.size, 7, none⟩ = some (.int .i64 (r' 3)) := (blk_cell hb10 7 rfl).trans (congrArg (fun v => some (Value.int .i64 v)) (HE8.out 3 (by omega))); have x8 : w10.cell? ⟨w9.heap.size, 8, none⟩ = some (.int .i64 (r' 4)) := (blk_cell hb10 8 rfl).trans (congrArg (fun v => some (Value.int .i64 v)) (HE8.out 4 (by omega))); have x9 : w10.cell? ⟨w9.heap.size, 9, none⟩ = some (.int .i64 (r' 5)) := (blk_cell hb10 9 rfl).trans (congrArg (fun v => some (Value.int .i64 v)) (HE8.out 5 (by omega))); have x10 : w10.cell? ⟨w9.heap.size, 10, none⟩ = some (.int .i64 (r' 6)) := (blk_cell hb10 10 rfl).trans (congrArg (fun v => some (Value.int .i64 v)) (HE8.out 6 (by omega))); have x11 : w10.cell? ⟨w9.heap.size, 11, none⟩ = some (.int .i64 (r' 7)) := (blk_cell hb10 11 rfl).trans (congrArg (fun v => some (Value.int .i64 v)) (HE8.out 7 (by omega))); have y0 := rc hr10 0 (by omega); have y1 := rc hr10 1 (by omega); have y2 := rc hr10 2 (by omega); have y3 := rc hr10 3 (by omega); have y4 := rc hr10 4 (by omega); have y5 := rc hr10 5 (by omega); have y6 := rc hr10 6 (by omega); have y7 := rc hr10 7 (by omega); have heq : ∀ W : World, (Op.equalIn 10000 30 (.agg #[.int .i64 (r' 0), .int .i64 (r' 1), .int .i64 (r' 2), .int .i64 (r' 3), .int .i64 (r' 4), .int .i64 (r' 5), .int .i64 (r' 6), .int .i64 (r' 7)]) (.agg #[.int .i64 (r' 0), .int .i64 (r' 1), .int .i64 (r' 2), .int .i64 (r' 3), .int .i64 (r' 4), .int .i64 (r' 5), .int .i64 (r' 6), .int .i64 (r' 7)])).run Try.prog W = .ok true W := fun W => run_equalIn_arr (P := Try.prog) W 9998 30 3 8 [r' 0, r' 1, r' 2, r' 3, r' 4, r' 5, r' 6, r' 7] Try.underlying30 Try.underlying3 (by kernel_rfl) rfl; clear hb10 hf10 hf910 hr10)
    refine (awake17 w10).mono ?_
    rintro e w11 ⟨rfl, hf11⟩
    have F11 := Lib.hid (F10.out.trans0 hf11)
    clear hf11 heq x4 y0 x5 y1 x6 y2 x7 y3 x8 y4 x9 y5 x10 y6 x11 y7 x1 x2 x12
    go_wp2_with fail
    go_ret
    exact ⟨rfl, F11.out⟩
theorem taskWakes_walk (op a b c kase value : Int) (ok : Bool) (w : World) (w0 : (Lit.int .i64 op).wf = true) (w1 : (Lit.int .i64 a).wf = true) (w2 : (Lit.int .i64 b).wf = true) (w3 : (Lit.int .i64 c).wf = true) (w4 : (Lit.int .i64 kase).wf = true) (w5 : (Lit.int .i64 value).wf = true) :
    Calls Try.prog 6 #[.int .i64 op, .int .i64 a, .int .i64 b, .int .i64 c, .int .i64 kase, .int .i64 value, .bool ok] w fun e w' => e = .returned (.bool true) ∧ Below w.heap.size w w' := by
  have nat8 : ∀ a : Int, ∃ x : Nat, a % 8 = (x : Int) ∧ x < 8 := fun a => ⟨(a % 8).toNat, by omega, by omega⟩
  obtain ⟨x, hx, x8⟩ := nat8 a
  obtain ⟨y, hy, y8⟩ := nat8 b
  obtain ⟨z, hz, z8⟩ := nat8 c
  have ho : op % 3 = 0 ∨ op % 3 = 1 ∨ op % 3 = 2 := by omega
  have hk : kase % 2 = 0 ∨ kase % 2 = 1 := by omega
  obtain ⟨k, hkk⟩ : ∃ k : Nat, kase % 2 = (k : Int) := ⟨(kase % 2).toNat, by omega⟩
  have key : Calls Try.prog 6 #[.int .i64 op, .int .i64 a, .int .i64 b, .int .i64 c, .int .i64 kase, .int .i64 value, .bool ok] w fun e w' => e = .returned (.bool true) ∧ Fr Nob w w' := by
    rcases ho with ho | ho | ho
    · exact tw10 w op a b c kase value ok x y z k hx hy hz hkk ho x8 y8 z8
    · exact tw11 w op a b c kase value ok x y z k hx hy hz hkk ho x8 y8 z8
    · rcases hk with hk | hk
      · exact tw15S w op a b c kase value ok x y z k hx hy hz hk ho x8 y8 z8
      · exact tw15R w op a b c kase value ok x y z k hx hy hz hk ho x8 y8 z8
  exact key.mono fun e w' ⟨h1, h2⟩ => ⟨h1, h2.below (Nat.le_refl _) fun _ q => q.elim⟩


/-! The row: out of the walk above. -/
namespace taskWakes
open Go.ChangeShapes Go.WideShapes Go.ChangeAt Go.RowKit
open Go.ChangeMaps (open_string shut_string)
theorem own : ownKnob Try.prog.godebug = none := by kernel_rfl
theorem laidOut : laidOutB Try.prog = true := by kernel_rfl
set_option maxRecDepth 100000 in
theorem lifted (os : Os) (started : os.Started) (H : Type) (enc : TypeId × Value → H) :
    ReturnsInHanded {} Try.checked os 6 .any (Rows.taskWakesSpec.pre6 enc Try.prog Try.f6 Rows.taskWakesRow.domain false) (Rows.taskWakesSpec.post enc Try.prog Try.f6 false true false false) := by
  refine returnsInHanded_of_change (C := Try.checked) own started (by kernel_rfl) Try.func6
    (ChangeSpec.witness6 (enc := enc) (C := Try.checked) false ⟨#[], #[.int .i64 0, .int .i64 0, .int .i64 0, .int .i64 0, .int .i64 0, .int .i64 0, .bool false], []⟩ 8 (by kernel_rfl) (by kernel_rfl) (by kernel_rfl) (by kernel_rfl)) ?_
  intro W base args ds gs before hval0 hW hcnd _
  have hval : ∀ (j : Nat) t v, Try.f6.params[j]? = some t → args[j]? = some v → Value.okWide Try.prog W .any base t v := hval0
  have hW' := hW
  obtain ⟨p, q, hA0, hV, rfl, hfz, hnd⟩ := hW
  have hA : DataW.TrodAll enc Try.prog W 0 (fun _ => true) true Try.f6.params.toList args.toList ds p := hA0
  rw [Try.params6] at hA hval
  obtain ⟨v0, vs0, d0, ds0, p0, q0, hargs, rfl, rfl, h0, r0⟩ := trodAll_cons hA
  obtain ⟨v1, vs1, d1, ds1, p1, q1, rfl, rfl, rfl, h1, r1⟩ := trodAll_cons r0
  obtain ⟨v2, vs2, d2, ds2, p2, q2, rfl, rfl, rfl, h2, r2⟩ := trodAll_cons r1
  obtain ⟨v3, vs3, d3, ds3, p3, q3, rfl, rfl, rfl, h3, r3⟩ := trodAll_cons r2
  obtain ⟨v4, vs4, d4, ds4, p4, q4, rfl, rfl, rfl, h4, r4⟩ := trodAll_cons r3
  obtain ⟨v5, vs5, d5, ds5, p5, q5, rfl, rfl, rfl, h5, r5⟩ := trodAll_cons r4
  obtain ⟨v6, vs6, d6, ds6, p6, q6, rfl, rfl, rfl, h6, r6⟩ := trodAll_cons r5
  obtain ⟨rfl, rfl, rfl⟩ := trodAll_nil r6
  obtain rfl : args = #[v0, v1, v2, v3, v4, v5, v6] := by cases args; simp_all
  obtain ⟨rfl, rfl⟩ := trodVars_none hV
  obtain ⟨a0, rfl, rfl, rfl, w0⟩ := open_int Try.underlying3 (hval 0 3 v0 rfl rfl) h0
  obtain ⟨a1, rfl, rfl, rfl, w1⟩ := open_int Try.underlying3 (hval 1 3 v1 rfl rfl) h1
  obtain ⟨a2, rfl, rfl, rfl, w2⟩ := open_int Try.underlying3 (hval 2 3 v2 rfl rfl) h2
  obtain ⟨a3, rfl, rfl, rfl, w3⟩ := open_int Try.underlying3 (hval 3 3 v3 rfl rfl) h3
  obtain ⟨a4, rfl, rfl, rfl, w4⟩ := open_int Try.underlying3 (hval 4 3 v4 rfl rfl) h4
  obtain ⟨a5, rfl, rfl, rfl, w5⟩ := open_int Try.underlying3 (hval 5 3 v5 rfl rfl) h5
  obtain ⟨a6, rfl, rfl, rfl⟩ := open_bool Try.underlying4 (hval 6 4 v6 rfl rfl) h6
  clear hA0 hval0
  refine (taskWakes_walk a0 a1 a2 a3 a4 a5 a6 W w0 w1 w2 w3 w4 w5).mono fun e W' ⟨he, bel⟩ => ?_
  subst he
  exact ⟨_, rfl, _, _, _, [], _, [], hW', trodAll_mk1 (shut_bool Try.underlying4 _), (trodAll_cons_mk (shut_int Try.underlying3 w0) (trodAll_cons_mk (shut_int Try.underlying3 w1) (trodAll_cons_mk (shut_int Try.underlying3 w2) (trodAll_cons_mk (shut_int Try.underlying3 w3) (trodAll_cons_mk (shut_int Try.underlying3 w4) (trodAll_cons_mk (shut_int Try.underlying3 w5) (trodAll_cons_mk (shut_bool Try.underlying4 _) trodAll_mk0))))))), rfl, bel.frame _, fun h => by cases h⟩
theorem over : Rows.taskWakesRow.holds Try.pinned (OpenSpec.ofChange Rows.taskWakesSpec) :=
  OpenClaim.holds_of_wide 6 Try.f6 rfl rfl rfl rfl rfl rfl rfl ⟨rfl, rfl, rfl, rfl, rfl⟩ rfl rfl rfl rfl rfl (by kernel_rfl) Try.func6 (by kernel_rfl)
    (of_decide_eq_true (by kernel_rfl)) (by unfold Func.isWrapper; first | (rw [if_pos (by decide +kernel)]; kernel_rfl) | (rw [if_neg (by decide +kernel)]; exact ⟨rfl, rfl⟩))
    (fun os started H enc _ => lifted os started H enc)
end taskWakes
/-- THE STATEMENT. -/
theorem taskWakes_holds : Rows.TaskWakesSaid := taskWakes.over
#print axioms taskWakes_holds
end Go.Proofs.Yteabiaoklpfbdaa
