/- TopTimes answers true whatever its inputs are: no condition. -/
import Derived.Test.YtcffplgimbbflaaGreatTmQ3
set_option linter.unusedVariables false
set_option linter.unusedSimpArgs false
namespace Go.Proofs.YtcffplgimbbflaaGreat
open Go.RowKit
set_option maxRecDepth 100000
theorem good_no_low (w : World) (op a b c : Int) (A : Option Addr) (m cp : Nat) (d : Bool) (places : Int) (h : op < 1) :
    Calls Tryz.prog 64 #[.agg #[.int .i64 op, .int .i64 a, .int .i64 b, .int .i64 c, .slice A m cp, .bool d], .int .i64 places] w fun e w' => e = .returned (.bool false) ∧ Fr Nob w w' := by
  have h1 : decide (op < 1) = true := by simp; omega
  go_enter Tryz.func64, Tryz.ntmps64
  go_wp2_with fail
  go_ret
  exact ⟨rfl, (Fr.refl _ _).alloc _⟩
theorem good_no_high (w : World) (op a b c : Int) (A : Option Addr) (m cp : Nat) (d : Bool) (places : Int) (h : 32 < op) :
    Calls Tryz.prog 64 #[.agg #[.int .i64 op, .int .i64 a, .int .i64 b, .int .i64 c, .slice A m cp, .bool d], .int .i64 places] w fun e w' => e = .returned (.bool false) ∧ Fr Nob w w' := by
  have h0 : ¬ op < 1 := by omega
  have h00 : decide (op < 1) = false := by simp; omega
  have h1 : decide ((32 : Int) < op) = true := by simp; omega
  go_enter Tryz.func64, Tryz.ntmps64
  go_wp2_with fail
  go_ret
  exact ⟨rfl, (Fr.refl _ _).alloc _⟩
theorem good_no_cases (w : World) (op a b c : Int) (A : Option Addr) (m cp : Nat) (d : Bool) (places : Int) (h1 : 1 ≤ op) (h2 : op ≤ 32) (h3 : op ≠ 15) (h4 : 0 < m) :
    Calls Tryz.prog 64 #[.agg #[.int .i64 op, .int .i64 a, .int .i64 b, .int .i64 c, .slice A m cp, .bool d], .int .i64 places] w fun e w' => e = .returned (.bool false) ∧ Fr Nob w w' := by
  have e1 : decide (op < 1) = false := by simp; omega
  have e2 : decide ((32 : Int) < op) = false := by simp; omega
  have e3 : (op != 15) = true := by simp [h3]
  have e4 : decide ((0 : Int) < (m : Int)) = true := by simp; omega
  have e5 : decide (0 < m) = true := by simp; omega
  clear h3
  go_enter Tryz.func64, Tryz.ntmps64
  go_wp2_with fail
  go_ret
  exact ⟨rfl, (Fr.refl _ _).alloc _⟩
theorem good_no_def (w : World) (op a b c : Int) (A : Option Addr) (m cp : Nat) (d : Bool) (places : Int) (h1 : 1 ≤ op) (h2 : op ≤ 32) (h3 : op ≠ 15) :
    Calls Tryz.prog 64 #[.agg #[.int .i64 op, .int .i64 a, .int .i64 b, .int .i64 c, .slice A 0 cp, .bool true], .int .i64 places] w fun e w' => e = .returned (.bool false) ∧ Fr Nob w w' := by
  have e1 : decide (op < 1) = false := by simp; omega
  have e2 : decide ((32 : Int) < op) = false := by simp; omega
  have e3 : (op != 15) = true := by simp [h3]
  clear h3
  go_enter Tryz.func64, Tryz.ntmps64
  go_wp2_with fail
  go_ret
  exact ⟨rfl, (Fr.refl _ _).alloc _⟩
theorem good_no_many (w : World) (op a b c : Int) (A : Option Addr) (m cp : Nat) (d : Bool) (places : Int) (h4 : 16 < m) :
    Calls Tryz.prog 64 #[.agg #[.int .i64 15, .int .i64 a, .int .i64 b, .int .i64 c, .slice A m cp, .bool d], .int .i64 places] w fun e w' => e = .returned (.bool false) ∧ Fr Nob w w' := by
  have e4 : decide ((16 : Int) < (m : Int)) = true := by simp; omega
  have e5 : decide (16 < m) = true := by simp; omega
  go_enter Tryz.func64, Tryz.ntmps64
  go_wp2_with fail
  go_ret
  exact ⟨rfl, (Fr.refl _ _).alloc _⟩
def fieldsB : ByteArray := ⟨([114, 110, 45, 114, 114, 45, 114, 110, 45, 112, 45, 45, 114, 112, 45, 114, 45, 45, 45, 45, 45, 114, 103, 45, 114, 110, 45, 114, 114, 45, 114, 114, 114, 114, 45, 45, 114, 114, 45, 114, 114, 45, 114, 114, 114, 114, 45, 45, 114, 114, 114, 114, 114, 114, 114, 114, 103, 114, 114, 45, 114, 114, 114, 114, 114, 45, 114, 114, 114, 114, 114, 114, 114, 114, 45, 114, 114, 45, 114, 114, 45, 114, 114, 45, 114, 114, 45, 114, 114, 114, 114, 114, 103, 114, 114, 45] : List UInt8).toArray⟩
theorem kind_tab (t : Nat) (h : t < fieldsB.size) : ((fieldsB[t]'h).toNat : Int) = fieldsL.getD t 0 := by
  have key : ∀ u : Fin fieldsB.size, ((fieldsB[u.1]'u.2).toNat : Int) = fieldsL.getD u.1 0 := by decide
  exact key ⟨t, h⟩
theorem kind0 (op : Int) (h : (3 * (op - 1)).toNat < fieldsB.size) : ((fieldsB[(3 * (op - 1)).toNat]'h).toNat : Int) = kindB op 0 := (kind_tab _ h).trans (by unfold kindB; simp)
theorem kind1 (op : Int) (h : (3 * (op - 1) + 1).toNat < fieldsB.size) : ((fieldsB[(3 * (op - 1) + 1).toNat]'h).toNat : Int) = kindB op 1 := kind_tab _ h
theorem kind2 (op : Int) (h : (3 * (op - 1) + 2).toNat < fieldsB.size) : ((fieldsB[(3 * (op - 1) + 2).toNat]'h).toNat : Int) = kindB op 2 := kind_tab _ h
theorem may_at (w : World) (k n places kd : Int) (h : k = kd) : Calls Tryz.prog 103 #[.int .u8 k, .int .i64 n, .int .i64 places] w fun e w' => e = .returned (.bool (mayB kd n places)) ∧ w = w' := by
  subst h; exact may_any w k n places
set_option maxHeartbeats 4000000 in
theorem good_yes_plain (w : World) (op a b c : Int) (A : Option Addr) (m cp : Nat) (d : Bool) (places : Int) (cs : List ICs) (h1 : 1 ≤ op) (h2 : op ≤ 32) (h3 : op ≠ 15) (hA : Rd w 3 (.slice A 0 cp) 0 ((([] : List ICs)).flatMap icsEn)) :
    Calls Tryz.prog 64 #[.agg #[.int .i64 op, .int .i64 a, .int .i64 b, .int .i64 c, .slice A 0 cp, .bool false], .int .i64 places] w fun e w' => e = .returned (.bool (mayB (kindB op 0) a places && mayB (kindB op 1) b places && mayB (kindB op 2) c places && (([] : List ICs)).all csB)) ∧ Fr Nob w w' := by
  have e1 : decide (op < 1) = false := by simp; omega
  have e2 : decide ((32 : Int) < op) = false := by simp; omega
  have e3 : (op != 15) = true := by simp [h3]
  clear h3
  obtain ⟨r0, hr0⟩ : ∃ r, r = mayB (kindB op 0) a places := ⟨_, rfl⟩
  obtain ⟨r1, hr1⟩ : ∃ r, r = mayB (kindB op 1) b places := ⟨_, rfl⟩
  obtain ⟨r2, hr2⟩ : ∃ r, r = mayB (kindB op 2) c places := ⟨_, rfl⟩
  rw [← hr0, ← hr1, ← hr2]
  have hm0 := fun W k (hk : k = kindB op 0) => may_at W k a places _ hk
  have hm1 := fun W k (hk : k = kindB op 1) => may_at W k b places _ hk
  have hm2 := fun W k (hk : k = kindB op 2) => may_at W k c places _ hk
  rw [← hr0] at hm0
  rw [← hr1] at hm1
  rw [← hr2] at hm2
  have Hm0 := Lib.hid hm0; have Hm1 := Lib.hid hm1; have Hm2 := Lib.hid hm2
  have Hrd := Lib.hid hA
  clear hA hr0 hr1 hr2 hm0 hm1 hm2
  go_enter Tryz.func64, Tryz.ntmps64
  go_wp2_with fail
  obtain ⟨w0, hw0⟩ : ∃ w0, w0 = (w.alloc (.cells #[.int .i64 op, .int .i64 a, .int .i64 b, .int .i64 c, .slice A 0 cp, .bool false] 25)).alloc (.cells #[.int .i64 a, .int .i64 b, .int .i64 c] 3) := ⟨_, rfl⟩
  rw [← hw0]
  have hf0 : Fr Nob w w0 := by rw [hw0]; exact ((Fr.refl _ _).alloc _).alloc _
  have hb1 : w0.heap[w.heap.size]? = some (.cells #[.int .i64 op, .int .i64 a, .int .i64 b, .int .i64 c, .slice A 0 cp, .bool false] 25 (0, 0)) := by rw [hw0, blk_alloc_ne _ (by simp)]; exact heap_alloc_new _ _
  have hb2 : w0.heap[w.heap.size + 1]? = some (.cells #[.int .i64 a, .int .i64 b, .int .i64 c] 3 (0, 0)) := by rw [hw0]; exact blk_alloc_eq _ (by simp)
  obtain ⟨bb, hbb⟩ : ∃ bb, bb = w.heap.size := ⟨_, rfl⟩
  rw [← hbb] at hb1 hb2 ⊢
  have x0 : w0.cell? ⟨bb, 0, none⟩ = some (.int .i64 op) := blk_cell hb1 0 rfl
  have x4 : w0.cell? ⟨bb, 4, none⟩ = some (.slice A 0 cp) := blk_cell hb1 4 rfl
  have y0 : w0.cell? ⟨bb + 1, 0, none⟩ = some (.int .i64 a) := blk_cell hb2 0 rfl
  have y1 : w0.cell? ⟨bb + 1, 1, none⟩ = some (.int .i64 b) := blk_cell hb2 1 rfl
  have y2 : w0.cell? ⟨bb + 1, 2, none⟩ = some (.int .i64 c) := blk_cell hb2 2 rfl
  have Hf0 := Lib.hid hf0
  clear hw0 hf0 hb1 hb2 hbb
  go_loopw [44] (fun i wr => ∃ k : Nat, k ≤ 3 ∧ i = .int .i64 k ∧ Hid ((0 < k → r0 = true) ∧ (1 < k → r1 = true) ∧ (2 < k → r2 = true)) ∧ w0 = wr) (fun i _ => 3 - (intOf i).toNat)
  case atStart => exact ⟨0, by omega, rfl, Lib.hid ⟨fun h => by omega, fun h => by omega, fun h => by omega⟩, rfl⟩
  case round =>
    obtain ⟨k, hk, rfl, hrs, rfl⟩ := hrel
    rcases (by omega : k = 0 ∨ k = 1 ∨ k = 2 ∨ k = 3) with rfl | rfl | rfl | rfl
    · go_wp2_with fail
      refine (Hm0.out w0 _ ?_).mono ?_
      · exact kind0 op _
      rintro e w' ⟨rfl, rfl⟩
      cases r0 with
      | true =>
        have hrs2 : Hid ((0 < 1 → true = true) ∧ (1 < 1 → r1 = true) ∧ (2 < 1 → r2 = true)) := Lib.hid ⟨fun _ => rfl, fun h => by omega, fun h => by omega⟩
        go_wp2_with fail
        go_roundw
        case rel => exact ⟨1, by omega, rfl, hrs2, by first | rfl | trivial⟩
        case measure => simp [intOf]
      | false =>
        go_wp2_with fail
        go_ret
        exact ⟨by simp, Hf0.out⟩
    · go_wp2_with fail
      refine (Hm1.out w0 _ ?_).mono ?_
      · exact kind1 op _
      rintro e w' ⟨rfl, rfl⟩
      cases r1 with
      | true =>
        have hrs2 : Hid ((0 < 2 → r0 = true) ∧ (1 < 2 → true = true) ∧ (2 < 2 → r2 = true)) := Lib.hid ⟨fun _ => hrs.out.1 (by omega), fun h => rfl, fun h => by omega⟩
        go_wp2_with fail
        go_roundw
        case rel => exact ⟨2, by omega, rfl, hrs2, by first | rfl | trivial⟩
        case measure => simp [intOf]
      | false =>
        go_wp2_with fail
        go_ret
        exact ⟨by simp, Hf0.out⟩
    · go_wp2_with fail
      refine (Hm2.out w0 _ ?_).mono ?_
      · exact kind2 op _
      rintro e w' ⟨rfl, rfl⟩
      cases r2 with
      | true =>
        have hrs2 : Hid ((0 < 3 → r0 = true) ∧ (1 < 3 → r1 = true) ∧ (2 < 3 → true = true)) := Lib.hid ⟨fun _ => hrs.out.1 (by omega), fun h => hrs.out.2.1 (by omega), fun h => rfl⟩
        go_wp2_with fail
        go_roundw
        case rel => exact ⟨3, by omega, rfl, hrs2, by first | rfl | trivial⟩
        case measure => simp [intOf]
      | false =>
        go_wp2_with fail
        go_ret
        exact ⟨by simp, Hf0.out⟩
    · obtain ⟨q0, q1, q2⟩ := hrs.out
      obtain rfl := q0 (by omega)
      obtain rfl := q1 (by omega)
      obtain rfl := q2 (by omega)
      clear q0 q1 q2 hrs
      go_wp2_with fail
      refine (contains_cases w0 _ (([] : List ICs)) 0 rfl (Hrd.out.fr Hf0.out)).mono ?_
      rintro e w' ⟨rfl, hf⟩
      have Hf := Lib.hid (Hf0.out.trans0 hf)
      clear hf
      go_wp2_with fail
      go_ret
      exact ⟨by rfl, Hf.out⟩
set_option maxHeartbeats 4000000 in
theorem good_yes_select (w : World) (op a b c : Int) (A : Option Addr) (m cp : Nat) (d : Bool) (places : Int) (cs : List ICs) (hcs : cs.length = m) (hm : m ≤ 16) (hA : Rd w 3 (.slice A m cp) m ((cs).flatMap icsEn)) :
    Calls Tryz.prog 64 #[.agg #[.int .i64 15, .int .i64 a, .int .i64 b, .int .i64 c, .slice A m cp, .bool d], .int .i64 places] w fun e w' => e = .returned (.bool (mayB (kindB 15 0) a places && mayB (kindB 15 1) b places && mayB (kindB 15 2) c places && (cs).all csB)) ∧ Fr Nob w w' := by
  have e4 : decide ((16 : Int) < (m : Int)) = false := by simp; omega
  have e5 : decide (16 < m) = false := by simp; omega
  obtain ⟨r0, hr0⟩ : ∃ r, r = mayB (kindB 15 0) a places := ⟨_, rfl⟩
  obtain ⟨r1, hr1⟩ : ∃ r, r = mayB (kindB 15 1) b places := ⟨_, rfl⟩
  obtain ⟨r2, hr2⟩ : ∃ r, r = mayB (kindB 15 2) c places := ⟨_, rfl⟩
  rw [← hr0, ← hr1, ← hr2]
  have hm0 := fun W k (hk : k = kindB 15 0) => may_at W k a places _ hk
  have hm1 := fun W k (hk : k = kindB 15 1) => may_at W k b places _ hk
  have hm2 := fun W k (hk : k = kindB 15 2) => may_at W k c places _ hk
  rw [← hr0] at hm0
  rw [← hr1] at hm1
  rw [← hr2] at hm2
  have Hm0 := Lib.hid hm0; have Hm1 := Lib.hid hm1; have Hm2 := Lib.hid hm2
  have Hrd := Lib.hid hA
  clear hA hr0 hr1 hr2 hm0 hm1 hm2
  go_enter Tryz.func64, Tryz.ntmps64
  go_wp2_with fail
  obtain ⟨w0, hw0⟩ : ∃ w0, w0 = (w.alloc (.cells #[.int .i64 15, .int .i64 a, .int .i64 b, .int .i64 c, .slice A m cp, .bool d] 25)).alloc (.cells #[.int .i64 a, .int .i64 b, .int .i64 c] 3) := ⟨_, rfl⟩
  rw [← hw0]
  have hf0 : Fr Nob w w0 := by rw [hw0]; exact ((Fr.refl _ _).alloc _).alloc _
  have hb1 : w0.heap[w.heap.size]? = some (.cells #[.int .i64 15, .int .i64 a, .int .i64 b, .int .i64 c, .slice A m cp, .bool d] 25 (0, 0)) := by rw [hw0, blk_alloc_ne _ (by simp)]; exact heap_alloc_new _ _
  have hb2 : w0.heap[w.heap.size + 1]? = some (.cells #[.int .i64 a, .int .i64 b, .int .i64 c] 3 (0, 0)) := by rw [hw0]; exact blk_alloc_eq _ (by simp)
  obtain ⟨bb, hbb⟩ : ∃ bb, bb = w.heap.size := ⟨_, rfl⟩
  rw [← hbb] at hb1 hb2 ⊢
  have x0 : w0.cell? ⟨bb, 0, none⟩ = some (.int .i64 15) := blk_cell hb1 0 rfl
  have x4 : w0.cell? ⟨bb, 4, none⟩ = some (.slice A m cp) := blk_cell hb1 4 rfl
  have y0 : w0.cell? ⟨bb + 1, 0, none⟩ = some (.int .i64 a) := blk_cell hb2 0 rfl
  have y1 : w0.cell? ⟨bb + 1, 1, none⟩ = some (.int .i64 b) := blk_cell hb2 1 rfl
  have y2 : w0.cell? ⟨bb + 1, 2, none⟩ = some (.int .i64 c) := blk_cell hb2 2 rfl
  have Hf0 := Lib.hid hf0
  clear hw0 hf0 hb1 hb2 hbb
  go_loopw [44] (fun i wr => ∃ k : Nat, k ≤ 3 ∧ i = .int .i64 k ∧ Hid ((0 < k → r0 = true) ∧ (1 < k → r1 = true) ∧ (2 < k → r2 = true)) ∧ w0 = wr) (fun i _ => 3 - (intOf i).toNat)
  case atStart => exact ⟨0, by omega, rfl, Lib.hid ⟨fun h => by omega, fun h => by omega, fun h => by omega⟩, rfl⟩
  case round =>
    obtain ⟨k, hk, rfl, hrs, rfl⟩ := hrel
    rcases (by omega : k = 0 ∨ k = 1 ∨ k = 2 ∨ k = 3) with rfl | rfl | rfl | rfl
    · go_wp2_with fail
      refine (Hm0.out w0 _ ?_).mono ?_
      · rfl
      rintro e w' ⟨rfl, rfl⟩
      cases r0 with
      | true =>
        have hrs2 : Hid ((0 < 1 → true = true) ∧ (1 < 1 → r1 = true) ∧ (2 < 1 → r2 = true)) := Lib.hid ⟨fun _ => rfl, fun h => by omega, fun h => by omega⟩
        go_wp2_with fail
        go_roundw
        case rel => exact ⟨1, by omega, rfl, hrs2, by first | rfl | trivial⟩
        case measure => simp [intOf]
      | false =>
        go_wp2_with fail
        go_ret
        exact ⟨by simp, Hf0.out⟩
    · go_wp2_with fail
      refine (Hm1.out w0 _ ?_).mono ?_
      · rfl
      rintro e w' ⟨rfl, rfl⟩
      cases r1 with
      | true =>
        have hrs2 : Hid ((0 < 2 → r0 = true) ∧ (1 < 2 → true = true) ∧ (2 < 2 → r2 = true)) := Lib.hid ⟨fun _ => hrs.out.1 (by omega), fun h => rfl, fun h => by omega⟩
        go_wp2_with fail
        go_roundw
        case rel => exact ⟨2, by omega, rfl, hrs2, by first | rfl | trivial⟩
        case measure => simp [intOf]
      | false =>
        go_wp2_with fail
        go_ret
        exact ⟨by simp, Hf0.out⟩
    · go_wp2_with fail
      refine (Hm2.out w0 _ ?_).mono ?_
      · rfl
      rintro e w' ⟨rfl, rfl⟩
      cases r2 with
      | true =>
        have hrs2 : Hid ((0 < 3 → r0 = true) ∧ (1 < 3 → r1 = true) ∧ (2 < 3 → true = true)) := Lib.hid ⟨fun _ => hrs.out.1 (by omega), fun h => hrs.out.2.1 (by omega), fun h => rfl⟩
        go_wp2_with fail
        go_roundw
        case rel => exact ⟨3, by omega, rfl, hrs2, by first | rfl | trivial⟩
        case measure => simp [intOf]
      | false =>
        go_wp2_with fail
        go_ret
        exact ⟨by simp, Hf0.out⟩
    · obtain ⟨q0, q1, q2⟩ := hrs.out
      obtain rfl := q0 (by omega)
      obtain rfl := q1 (by omega)
      obtain rfl := q2 (by omega)
      clear q0 q1 q2 hrs
      go_wp2_with fail
      refine (contains_cases w0 _ (cs) m hcs (Hrd.out.fr Hf0.out)).mono ?_
      rintro e w' ⟨rfl, hf⟩
      have Hf := Lib.hid (Hf0.out.trans0 hf)
      clear hf
      go_wp2_with fail
      go_ret
      exact ⟨by rw [List.any_eq_not_all_not]; simp, Hf.out⟩
theorem good_any (w : World) (i : Ins) (places : Int) (h : InsOk w i) :
    Calls Tryz.prog 64 #[insV i, .int .i64 places] w fun e w' => e = .returned (.bool (goodB i places)) ∧ Fr Nob w w' := by
  obtain ⟨⟨op, a, b, c⟩, v, cs, d⟩ := i
  unfold InsOk at h
  dsimp only at h
  obtain ⟨q1, q2, A, cp, rfl, q3, q4, q5⟩ := id h
  show Calls Tryz.prog 64 #[.agg #[.int .i64 op, .int .i64 a, .int .i64 b, .int .i64 c, .slice A cs.length cp, .bool d], .int .i64 places] w _
  unfold goodB
  dsimp only
  by_cases h1 : op < 1
  · have : headB op cs d = false := by unfold headB; simp; omega
    rw [this]; simpa using good_no_low w op a b c A cs.length cp d places h1
  · by_cases h2 : 32 < op
    · have : headB op cs d = false := by unfold headB; simp; omega
      rw [this]; simpa using good_no_high w op a b c A cs.length cp d places h2
    · by_cases h3 : op = 15
      · subst h3
        by_cases h4 : 16 < cs.length
        · have : headB 15 cs d = false := by unfold headB; simp; omega
          rw [this]; simpa using good_no_many w 15 a b c A cs.length cp d places h4
        · have : headB 15 cs d = true := by unfold headB; simp; omega
          rw [this]; simpa using good_yes_select w 15 a b c A cs.length cp d places cs rfl (by omega) h
      · have h15 : (op == 15) = false := beq_eq_false_iff_ne.2 h3
        by_cases h5 : 0 < cs.length
        · have : headB op cs d = false := by
            have hz : (cs.length == 0) = false := beq_eq_false_iff_ne.2 (by omega)
            unfold headB; rw [h15, hz]; simp
          rw [this]; simpa using good_no_cases w op a b c A cs.length cp d places (by omega) (by omega) h3 h5
        · obtain rfl : cs = [] := List.eq_nil_of_length_eq_zero (by omega)
          cases d with
          | true =>
            have : headB op [] true = false := by unfold headB; rw [h15]; simp
            rw [this]; simpa using good_no_def w op a b c A 0 cp true places (by omega) (by omega) h3
          | false =>
            have : headB op [] false = true := by unfold headB; simp; omega
            rw [this]; simpa using good_yes_plain w op a b c A 0 cp false places [] (by omega) (by omega) h3 h
def progB (ps : List Ins) : Bool := decide (ps.length ≤ 100) && ps.all fun i => goodB i ps.length
theorem insGet (ps : List Ins) (k j : Nat) (y : Ins) (h : ps[k]? = some y) (hj : j < 6) : (ps.flatMap insEn)[k * 6 + j]? = (insEn y)[j]? := by
  induction ps generalizing k with
  | nil => simp at h
  | cons x ps ih =>
    rw [List.flatMap_cons]
    cases k with
    | zero =>
      simp at h; subst h
      rw [Nat.zero_mul, Nat.zero_add, List.getElem?_append_left (by simpa using hj)]
    | succ k =>
      rw [List.getElem?_append_right (by simp; omega), show (k + 1) * 6 + j - (insEn x).length = k * 6 + j by simp; omega]
      exact ih k (by simpa using h)
/-- Of an instruction: that it may not be, among n. -/
theorem bad_instr (w : World) (i : Ins) (pb n : Nat) (A : Option Addr) (c : Nat) (hp : w.cell? ⟨pb, 0, none⟩ = some (.slice A n c)) (h : InsOk w i) :
    Calls Tryz.prog 63 #[insV i, .pointer (some ⟨pb, 0, none⟩)] w fun e w' => e = .returned (.bool (!(goodB i n))) ∧ Fr Nob w w' := by
  have hg := fun W (hf : Fr Nob w W) => good_any W i n (h.fr hf)
  obtain ⟨⟨op, a, b, k⟩, v, cs, d⟩ := i
  obtain ⟨_, _, A2, c2, hv, _⟩ := id h
  dsimp only at hv
  subst hv
  have hp1 := ((Fr.refl Nob w).alloc (.cells #[.int .i64 op, .int .i64 a, .int .i64 b, .int .i64 k, .slice A2 cs.length c2, .bool d] 25)).cell (p := ⟨pb, 0, none⟩) id hp
  generalize goodB _ _ = r at *
  have Hg := Lib.hid hg
  clear hg h
  go_enter Tryz.func63, Tryz.ntmps63
  go_wp2_with fail
  refine (Hg.out _ ((Fr.refl _ _).alloc _)).mono ?_
  rintro e w' ⟨rfl, hf⟩
  have Hf := Lib.hid hf
  clear hf hp1
  go_wp2_with fail
  go_ret
  exact ⟨rfl, ((Fr.refl Nob w).alloc _).trans0 Hf.out⟩
set_option maxHeartbeats 1000000 in
theorem index_instrs (w : World) (v : Value) (ps : List Ins) (n pb : Nat) (A0 : Option Addr) (c0 : Nat) (hn : ps.length = n) (h : Rd w 6 v n (ps.flatMap insEn)) (hok : ∀ i ∈ ps, InsOk w i) (hp : w.cell? ⟨pb, 0, none⟩ = some (.slice A0 n c0)) :
    Calls Tryz.prog 65 #[v, .func (.func 63) #[] #[.pointer (some ⟨pb, 0, none⟩)]] w (IxP (ps.any fun i => !(goodB i n)) w) := by
  obtain ⟨_, hl, A, c, rfl, hc1, hc2, hA⟩ := h
  unfold maxLen at hl
  have hyes : ∀ (k : Nat) (x : Ins), ps[k]? = some x → goodB x n = false → (ps.any fun i => !(goodB i n)) = true := fun k x hk e => List.any_eq_true.2 ⟨x, List.mem_of_getElem? hk, by simp [e]⟩
  have hno : (∀ (k : Nat) (x : Ins), k < n → ps[k]? = some x → goodB x n = true) → (ps.any fun i => !(goodB i n)) = false := fun hh => by
    rw [List.any_eq_false]
    intro y hy
    obtain ⟨k, hk, e⟩ := List.mem_iff_getElem.1 hy
    have := hh k y (by omega) (by rw [List.getElem?_eq_getElem hk, e])
    simp [this]
  have hg : ∀ k, k < n → ∃ x : Ins, ps[k]? = some x ∧ InsOk w x ∧ ∀ j u, j < 6 → (insEn x)[j]? = some u → (ps.flatMap insEn)[k * 6 + j]? = some u := fun k hk => by
    have h0 : ps[k]? = some (ps[k]'(by omega)) := by simp
    exact ⟨_, h0, hok _ (List.mem_of_getElem? h0), fun j u hj hu => (insGet ps k j _ h0 hj).trans hu⟩
  have HA := Lib.hid hA; have Hyes := Lib.hid hyes; have Hno := Lib.hid hno; have Hg := Lib.hid hg; have Hp := Lib.hid hp
  generalize (ps.any fun i => !(goodB i n)) = P at *
  clear hA hyes hno hg hok hp
  go_enter Tryz.func65, Tryz.ntmps65
  go_wp2_with fail
  go_loopw [8] (fun i wr => ∃ k : Nat, k ≤ n ∧ i = .int .i64 k ∧ Fr Nob w wr ∧ Hid (∀ (j : Nat) (x : Ins), j < k → ps[j]? = some x → goodB x n = true)) (fun i _ => n - (intOf i).toNat)
  case atStart => exact ⟨0, Nat.zero_le _, rfl, Fr.refl _ _, Lib.hid fun j x hj => by omega⟩
  case round =>
    obtain ⟨k, hk, rfl, hfr, hall⟩ := hrel
    have Hfr := Lib.hid hfr
    clear hfr
    by_cases hlt : k < n
    · obtain ⟨x, hx, hio, hq⟩ := Hg.out k hlt
      obtain ⟨g, o, rfl, hgl, hc⟩ := HA.out (by omega)
      have hbc := fun W (hf : Fr Nob w W) => bad_instr W x pb n A0 c0 (hf.cell id Hp.out) (hio.fr hf)
      have hy := Hyes.out k x hx
      have hall2 : goodB x n = true → ∀ (j : Nat) (y : Ins), j < k + 1 → ps[j]? = some y → goodB y n = true := fun hb j y hj hy => by
        by_cases hjk : j = k
        · subst hjk; rw [hx] at hy; cases hy; exact hb
        · exact hall.out j y (by omega) hy
      generalize goodB x n = r at *
      obtain ⟨⟨op, a, b, e⟩, v, cs, d⟩ := x
      obtain ⟨_, _, A2, c2, hv, _⟩ := id hio
      dsimp only at hv
      subst hv
      have x0 := Hfr.out.cell (p := ⟨g, o + (k * 6 + 0), none⟩) id (hc _ _ (hq 0 _ (by omega) rfl))
      have x1 := Hfr.out.cell (p := ⟨g, o + (k * 6 + 1), none⟩) id (hc _ _ (hq 1 _ (by omega) rfl))
      have x2 := Hfr.out.cell (p := ⟨g, o + (k * 6 + 2), none⟩) id (hc _ _ (hq 2 _ (by omega) rfl))
      have x3 := Hfr.out.cell (p := ⟨g, o + (k * 6 + 3), none⟩) id (hc _ _ (hq 3 _ (by omega) rfl))
      have x4 := Hfr.out.cell (p := ⟨g, o + (k * 6 + 4), none⟩) id (hc _ _ (hq 4 _ (by omega) rfl))
      have x5 := Hfr.out.cell (p := ⟨g, o + (k * 6 + 5), none⟩) id (hc _ _ (hq 5 _ (by omega) rfl))
      rw [← Nat.add_assoc] at x1 x2 x3 x4 x5
      rw [Nat.add_zero] at x0
      dsimp only at x0 x1 x2 x3 x4 x5 hbc
      have Hbc := Lib.hid hbc; have Hy := Lib.hid hy; have Hall2 := Lib.hid hall2
      have hki : (k : Int) < n := by omega
      clear hc hq hx hbc hy hall2 hio
      cases r with
      | true =>
        have Hn2 := Lib.hid (Hall2.out rfl)
        go_wp2_with fail
        refine (Hbc.out _ Hfr.out).mono ?_
        rintro e w2 ⟨rfl, hf2⟩
        have Hf2 := Lib.hid (Hfr.out.trans0 hf2)
        clear hf2
        go_wp2_with fail
        go_roundw
        case rel => exact ⟨k + 1, by omega, by go_num, Hf2.out, Hn2⟩
        case measure => simp [intOf]; omega
      | false =>
        have hP := Hy.out rfl
        have HP := Lib.hid hP
        clear hP
        go_wp2_with fail
        refine (Hbc.out _ Hfr.out).mono ?_
        rintro e w2 ⟨rfl, hf2⟩
        have Hf2 := Lib.hid (Hfr.out.trans0 hf2)
        clear hf2
        go_wp2_with fail
        go_ret
        exact ⟨k, rfl, by rw [HP.out]; simp, Hf2.out⟩
    · obtain rfl : k = n := by omega
      have HP := Lib.hid (Hno.out fun j x hj hx => hall.out j x hj hx)
      go_wp2_with fail
      go_ret
      exact ⟨-1, rfl, by rw [HP.out]; rfl, Hfr.out⟩
theorem contains_instrs (w : World) (v : Value) (ps : List Ins) (n pb : Nat) (A0 : Option Addr) (c0 : Nat) (hn : ps.length = n) (h : Rd w 6 v n (ps.flatMap insEn)) (hok : ∀ i ∈ ps, InsOk w i) (hp : w.cell? ⟨pb, 0, none⟩ = some (.slice A0 n c0)) :
    Calls Tryz.prog 38 #[v, .func (.func 63) #[] #[.pointer (some ⟨pb, 0, none⟩)]] w fun e w' => e = .returned (.bool (ps.any fun i => !(goodB i n))) ∧ Fr Nob w w' := by
  have H := Lib.hid (index_instrs w v ps n pb A0 c0 hn h hok hp)
  obtain ⟨_, _, A, c, rfl, _⟩ := h
  generalize (ps.any fun i => !(goodB i n)) = P at *
  clear hp hok
  go_enter Tryz.func38, Tryz.ntmps38
  go_wp2_with fail
  refine H.out.mono ?_
  rintro e w' ⟨r, rfl, hr, hf⟩
  have Hf := Lib.hid hf; have Hr := Lib.hid hr
  clear hf hr
  go_wp2_with fail
  go_ret
  exact ⟨by rw [← Hr.out]; rfl, Hf.out⟩
theorem check_any (w : World) (v : Value) (ps : List Ins) (n : Nat) (hn : ps.length = n) (h : Rd w 6 v n (ps.flatMap insEn)) (hok : ∀ i ∈ ps, InsOk w i) :
    Calls Tryz.prog 37 #[v] w fun e w' => e = .returned (.int .i64 (if progB ps = true then 0 else 1)) ∧ Fr Nob w w' := by
  obtain ⟨A, c, rfl⟩ : ∃ A c, v = .slice A n c := by obtain ⟨_, _, A, c, rfl, _⟩ := h; exact ⟨_, _, rfl⟩
  have hfa := (Fr.refl Nob w).alloc (.cells #[.slice A n c] 28)
  have hcon := contains_instrs (w.alloc (.cells #[.slice A n c] 28)) _ ps n w.heap.size A c hn (h.fr hfa) (fun i hi => (hok i hi).fr hfa) (blk_cell (heap_alloc_new w _) 0 rfl)
  have hall : (ps.any fun i => !(goodB i n)) = !(ps.all fun i => goodB i n) := by rw [List.any_eq_not_all_not]; simp
  rw [hall] at hcon
  have hpb : progB ps = (decide (n ≤ 100) && ps.all fun i => goodB i n) := by unfold progB; rw [hn]
  rw [hpb]
  generalize (ps.all fun i => goodB i n) = r at *
  have Hcon := Lib.hid hcon; have Hfa := Lib.hid hfa
  clear hcon hfa h hok hall hpb
  by_cases h1 : n ≤ 100
  · have e1 : decide ((100 : Int) < (n : Int)) = false := by simp; omega
    have e2 : decide (100 < n) = false := by simp; omega
    have e3 : (decide (n ≤ 100) && r) = r := by simp [h1]
    rw [e3]
    clear e3
    cases r with
    | true =>
      go_enter Tryz.func37, Tryz.ntmps37
      go_wp2_with fail
      refine Hcon.out.mono ?_
      rintro e w' ⟨rfl, hf⟩
      have Hf := Lib.hid (Hfa.out.trans0 hf)
      clear hf
      go_wp2_with fail
      go_ret
      exact ⟨rfl, Hf.out⟩
    | false =>
      go_enter Tryz.func37, Tryz.ntmps37
      go_wp2_with fail
      refine Hcon.out.mono ?_
      rintro e w' ⟨rfl, hf⟩
      have Hf := Lib.hid (Hfa.out.trans0 hf)
      clear hf
      go_wp2_with fail
      go_ret
      exact ⟨rfl, Hf.out⟩
  · have e1 : decide ((100 : Int) < (n : Int)) = true := by simp; omega
    have e2 : decide (100 < n) = true := by simp; omega
    have e3 : (decide (n ≤ 100) && r) = false := by simp; omega
    rw [e3]
    clear e3
    go_enter Tryz.func37, Tryz.ntmps37
    go_wp2_with fail
    go_ret
    exact ⟨rfl, Hfa.out⟩
def heldT (t : Int) : Int := max (min t 4611686018427387904) (-4611686018427387904)
def addT (t d : Int) : Int := max (min (heldT t + heldT d) 4611686018427387904) (-4611686018427387904)
theorem heldT_lo (t : Int) (h : t < -4611686018427387904) : heldT t = -4611686018427387904 := by unfold heldT; omega
theorem heldT_hi (t : Int) (h : 4611686018427387904 < t) : heldT t = 4611686018427387904 := by unfold heldT; omega
theorem heldT_in (t : Int) (h1 : -4611686018427387904 ≤ t) (h2 : t ≤ 4611686018427387904) : heldT t = t := by unfold heldT; omega
theorem heldT_bd (t : Int) : -4611686018427387904 ≤ heldT t ∧ heldT t ≤ 4611686018427387904 := by unfold heldT; omega
theorem held_any (w : World) (t : Int) : Calls Tryz.prog 109 #[.int .i64 t] w fun e w' => e = .returned (.int .i64 (heldT t)) ∧ w = w' := by
  by_cases h1 : t < -4611686018427387904
  · have H := Lib.hid (heldT_lo t h1)
    go_enter Tryz.func109, Tryz.ntmps109
    go_wp2
    all_goals
      go_ret
      exact ⟨by rw [H.out]; rfl, rfl⟩
  · by_cases h2 : 4611686018427387904 < t
    · have H := Lib.hid (heldT_hi t h2)
      go_enter Tryz.func109, Tryz.ntmps109
      go_wp2
      all_goals
        go_ret
        exact ⟨by rw [H.out]; rfl, rfl⟩
    · have H := Lib.hid (heldT_in t (by omega) (by omega))
      have h3 : -4611686018427387904 ≤ t := by omega
      have h4 : t ≤ 4611686018427387904 := by omega
      go_enter Tryz.func109, Tryz.ntmps109
      go_wp2
      all_goals
        go_ret
        exact ⟨by rw [H.out]; rfl, rfl⟩
theorem clock_add (w : World) (t d : Int) : Calls Tryz.prog 70 #[.int .i64 t, .int .i64 d] w fun e w' => e = .returned (.int .i64 (addT t d)) ∧ w = w' := by
  have h1 := fun W => held_any W t
  have h2 := fun W => held_any W d
  obtain ⟨a1, a2⟩ := heldT_bd t
  obtain ⟨b1, b2⟩ := heldT_bd d
  have hr : addT t d = max (min (heldT t + heldT d) 4611686018427387904) (-4611686018427387904) := rfl
  rw [hr]
  clear hr
  generalize heldT t = a at *
  generalize heldT d = b at *
  have H1 := Lib.hid h1; have H2 := Lib.hid h2
  clear h1 h2
  by_cases hb : 0 < b
  · have hd1 : decide (0 < b) = true := by simp; omega
    by_cases ha : 4611686018427387904 - b < a
    · have hd2 : decide (4611686018427387904 - b < a) = true := by simp; omega
      have hr : max (min (a + b) 4611686018427387904) (-4611686018427387904) = 4611686018427387904 := by omega
      have Hr := Lib.hid hr
      clear hr
      go_enter Tryz.func70, Tryz.ntmps70
      go_wp2_with fail
      refine (H1.out _).mono ?_
      rintro e w' ⟨rfl, rfl⟩
      go_wp2_with fail
      refine (H2.out _).mono ?_
      rintro e w' ⟨rfl, rfl⟩
      go_wp2_with fail
      go_ret
      exact ⟨by rw [Hr.out]; rfl, rfl⟩
    · have hd2 : decide (4611686018427387904 - b < a) = false := by simp; omega
      have hd3 : decide (b < 0) = false := by simp; omega
      have hr : max (min (a + b) 4611686018427387904) (-4611686018427387904) = a + b := by omega
      have hs1 : -4611686018427387904 ≤ a + b := by omega
      have hs2 : a + b ≤ 4611686018427387904 := by omega
      have Hr := Lib.hid hr
      clear hr
      go_enter Tryz.func70, Tryz.ntmps70
      go_wp2_with fail
      refine (H1.out _).mono ?_
      rintro e w' ⟨rfl, rfl⟩
      go_wp2_with fail
      refine (H2.out _).mono ?_
      rintro e w' ⟨rfl, rfl⟩
      go_wp2_with fail
      go_ret
      exact ⟨by rw [Hr.out]; rfl, rfl⟩
  · have hd1 : decide (0 < b) = false := by simp; omega
    by_cases hb0 : b < 0
    · have hd3 : decide (b < 0) = true := by simp; omega
      by_cases ha : a < -4611686018427387904 - b
      · have hd2 : decide (a < -4611686018427387904 - b) = true := by simp; omega
        have hr : max (min (a + b) 4611686018427387904) (-4611686018427387904) = -4611686018427387904 := by omega
        have Hr := Lib.hid hr
        clear hr
        go_enter Tryz.func70, Tryz.ntmps70
        go_wp2_with fail
        refine (H1.out _).mono ?_
        rintro e w' ⟨rfl, rfl⟩
        go_wp2_with fail
        refine (H2.out _).mono ?_
        rintro e w' ⟨rfl, rfl⟩
        go_wp2_with fail
        go_ret
        exact ⟨by rw [Hr.out]; rfl, rfl⟩
      · have hd2 : decide (a < -4611686018427387904 - b) = false := by simp; omega
        have hr : max (min (a + b) 4611686018427387904) (-4611686018427387904) = a + b := by omega
        have hs1 : -4611686018427387904 ≤ a + b := by omega
        have hs2 : a + b ≤ 4611686018427387904 := by omega
        have Hr := Lib.hid hr
        clear hr
        go_enter Tryz.func70, Tryz.ntmps70
        go_wp2_with fail
        refine (H1.out _).mono ?_
        rintro e w' ⟨rfl, rfl⟩
        go_wp2_with fail
        refine (H2.out _).mono ?_
        rintro e w' ⟨rfl, rfl⟩
        go_wp2_with fail
        go_ret
        exact ⟨by rw [Hr.out]; rfl, rfl⟩
    · obtain rfl : b = 0 := by omega
      have hr : max (min (a + 0) 4611686018427387904) (-4611686018427387904) = a := by omega
      rw [hr]
      clear hr
      go_enter Tryz.func70, Tryz.ntmps70
      go_wp2_with fail
      refine (H1.out _).mono ?_
      rintro e w' ⟨rfl, rfl⟩
      go_wp2_with fail
      refine (H2.out _).mono ?_
      rintro e w' ⟨rfl, rfl⟩
      go_wp2_with fail
      go_ret
      exact ⟨by first | rfl | simp, rfl⟩
def mineB (op : Int) : Bool := (decide (1 ≤ op) && decide (op ≤ 7)) || op == 16
theorem mine_any (w : World) (op : Int) : Calls Tryz.prog 84 #[.int .i64 op] w fun e w' => e = .returned (.bool (mineB op)) ∧ w = w' := by
  by_cases h1 : 1 ≤ op
  · have d1 : decide (1 ≤ op) = true := by simp; omega
    by_cases h7 : op ≤ 7
    · have d2 : decide (op ≤ 7) = true := by simp; omega
      have H : Hid (mineB op = true) := Lib.hid (by unfold mineB; rw [d1, d2]; rfl)
      go_enter Tryz.func84, Tryz.ntmps84
      go_wp2_with fail
      go_ret
      exact ⟨by rw [H.out]; rfl, rfl⟩
    · have d2 : decide (op ≤ 7) = false := by simp; omega
      have H : Hid (mineB op = (op == 16)) := Lib.hid (by unfold mineB; rw [d1, d2]; rfl)
      generalize hz : (op == 16) = z at *
      go_enter Tryz.func84, Tryz.ntmps84
      go_wp2_with fail
      go_ret
      exact ⟨by rw [H.out]; rfl, rfl⟩
  · have d1 : decide (1 ≤ op) = false := by simp; omega
    have H : Hid (mineB op = (op == 16)) := Lib.hid (by unfold mineB; rw [d1]; rfl)
    generalize hz : (op == 16) = z at *
    go_enter Tryz.func84, Tryz.ntmps84
    go_wp2_with fail
    go_ret
    exact ⟨by rw [H.out]; rfl, rfl⟩
/-- A whole block is stored into. -/
theorem wpList_store_row {P : Program} (w : World) {ops : Array Oper} {rest : List Oper} {o : Oper} {a : Act} {Q : Exit → Act → World → Prop} (hgd : o.guard = none) (ty : TypeId) (x y : Operand) (ho : o.op = .store ty x y)
    (b : Nat) (cells old : Array Value) (T : TypeId) (hx : a.eval x = .pointer (some ⟨b, 0, none⟩)) (hy : a.eval y = .agg cells) (hb : w.heap[b]? = some (.cells old T (0, 0))) (hsz : old.size = cells.size)
    (hi : (P.info? ty).map (·.size) = some cells.size) (h1 : cells.all (·.oneCell') = true)
    (h : ∀ w', w'.heap[b]? = some (.cells cells T (0, 0)) → Fr (fun k => k = b) w w' → wpList P ops Q rest (a.put o.dst undef) w') : wpList P ops Q (o :: rest) a w := by
  refine wpList_store_mid hgd ty x y ho b 0 cells hx hy (fun j hj => ?_) hi h1 (h _ ?_ ?_)
  · rw [Nat.zero_add]
    have hj' : j < old.size := by omega
    exact ⟨by rw [blk_cell hb j (Array.getElem?_eq_getElem hj')]; rfl, blk_froz hb j⟩
  · obtain ⟨blk', q1, q2, q3, q4⟩ := setCells_blk b T (0, 0) cells.toList 0 w old hb (by simp; omega)
    have : blk' = cells := by
      apply Array.ext_getElem?
      intro i
      by_cases hi : i < cells.size
      · have := q4 i cells[i] (by simp [hi])
        rw [Nat.zero_add] at this
        rw [this]; simp [hi]
      · rw [Array.getElem?_eq_none (by omega), Array.getElem?_eq_none (by omega)]
    rw [q1, this]
  · exact setCells_fr b _ 0 w
abbrev regA (r : Nat → Int) : Array Value := #[.int .i64 (r 0), .int .i64 (r 1), .int .i64 (r 2), .int .i64 (r 3), .int .i64 (r 4), .int .i64 (r 5), .int .i64 (r 6), .int .i64 (r 7)]
abbrev outA (pc : Int) (r : Nat → Int) (t : Bool) (x : Int) (e : Bool) : Array Value := #[.int .i64 pc, .int .i64 (r 0), .int .i64 (r 1), .int .i64 (r 2), .int .i64 (r 3), .int .i64 (r 4), .int .i64 (r 5), .int .i64 (r 6), .int .i64 (r 7), .bool t, .int .i64 x, .bool e]
abbrev outZ : Array Value := #[.int .i64 0, .int .i64 0, .int .i64 0, .int .i64 0, .int .i64 0, .int .i64 0, .int .i64 0, .int .i64 0, .int .i64 0, .bool false, .int .i64 0, .bool false]
theorem outA_one (pc : Int) (r : Nat → Int) (t : Bool) (x : Int) (e : Bool) : (outA pc r t x e).all (fun v => v.oneCell') = true := by
  refine Array.all_eq_true_iff_forall_mem.2 fun v hv => ?_
  simp at hv
  rcases hv with rfl | rfl | rfl | rfl | rfl | rfl | rfl | rfl | rfl | rfl | rfl | rfl <;> rfl
theorem outZ_one : outZ.all (fun v => v.oneCell') = true := outA_one 0 (fun _ => 0) false 0 false
theorem row_cells {w : World} {b : Nat} {pc : Int} {r : Nat → Int} {t : Bool} {x : Int} {e : Bool} {T : TypeId} (h : w.heap[b]? = some (.cells (outA pc r t x e) T (0, 0))) : w.cell? ⟨b, 0, none⟩ = some (.int .i64 pc) ∧ w.cell? ⟨b, 1, none⟩ = some (.int .i64 (r 0)) ∧ w.cell? ⟨b, 2, none⟩ = some (.int .i64 (r 1)) ∧ w.cell? ⟨b, 3, none⟩ = some (.int .i64 (r 2)) ∧ w.cell? ⟨b, 4, none⟩ = some (.int .i64 (r 3)) ∧ w.cell? ⟨b, 5, none⟩ = some (.int .i64 (r 4)) ∧ w.cell? ⟨b, 6, none⟩ = some (.int .i64 (r 5)) ∧ w.cell? ⟨b, 7, none⟩ = some (.int .i64 (r 6)) ∧ w.cell? ⟨b, 8, none⟩ = some (.int .i64 (r 7)) ∧ w.cell? ⟨b, 9, none⟩ = some (.bool t) ∧ w.cell? ⟨b, 10, none⟩ = some (.int .i64 x) ∧ w.cell? ⟨b, 11, none⟩ = some (.bool e) :=
  ⟨blk_cell h 0 rfl, blk_cell h 1 rfl, blk_cell h 2 rfl, blk_cell h 3 rfl, blk_cell h 4 rfl, blk_cell h 5 rfl, blk_cell h 6 rfl, blk_cell h 7 rfl, blk_cell h 8 rfl, blk_cell h 9 rfl, blk_cell h 10 rfl, blk_cell h 11 rfl⟩
theorem row_cellsZ {w : World} {b : Nat} {T : TypeId} (h : w.heap[b]? = some (.cells outZ T (0, 0))) : w.cell? ⟨b, 0, none⟩ = some (.int .i64 0) ∧ w.cell? ⟨b, 1, none⟩ = some (.int .i64 0) ∧ w.cell? ⟨b, 2, none⟩ = some (.int .i64 0) ∧ w.cell? ⟨b, 3, none⟩ = some (.int .i64 0) ∧ w.cell? ⟨b, 4, none⟩ = some (.int .i64 0) ∧ w.cell? ⟨b, 5, none⟩ = some (.int .i64 0) ∧ w.cell? ⟨b, 6, none⟩ = some (.int .i64 0) ∧ w.cell? ⟨b, 7, none⟩ = some (.int .i64 0) ∧ w.cell? ⟨b, 8, none⟩ = some (.int .i64 0) ∧ w.cell? ⟨b, 9, none⟩ = some (.bool false) ∧ w.cell? ⟨b, 10, none⟩ = some (.int .i64 0) ∧ w.cell? ⟨b, 11, none⟩ = some (.bool false) :=
  ⟨blk_cell h 0 rfl, blk_cell h 1 rfl, blk_cell h 2 rfl, blk_cell h 3 rfl, blk_cell h 4 rfl, blk_cell h 5 rfl, blk_cell h 6 rfl, blk_cell h 7 rfl, blk_cell h 8 rfl, blk_cell h 9 rfl, blk_cell h 10 rfl, blk_cell h 11 rfl⟩
def updR (r : Nat → Int) (a : Nat) (x : Int) : Nat → Int := fun j => if j = a then x else r j
theorem out_set (pc : Int) (r : Nat → Int) (t : Bool) (v : Int) (e : Bool) (a : Nat) (ha : a < 8) (x : Int) : (outA pc r t v e).setIfInBounds (1 + a) (.int .i64 x) = outA pc (updR r a x) t v e := by
  rcases (by omega : a = 0 ∨ a = 1 ∨ a = 2 ∨ a = 3 ∨ a = 4 ∨ a = 5 ∨ a = 6 ∨ a = 7) with rfl | rfl | rfl | rfl | rfl | rfl | rfl | rfl <;> rfl
theorem reg_get (r : Nat → Int) (a : Nat) (ha : a < 8) : (regA r)[a]? = some (.int .i64 (r a)) := by
  rcases (by omega : a = 0 ∨ a = 1 ∨ a = 2 ∨ a = 3 ∨ a = 4 ∨ a = 5 ∨ a = 6 ∨ a = 7) with rfl | rfl | rfl | rfl | rfl | rfl | rfl | rfl <;> rfl
theorem out_get (pc : Int) (r : Nat → Int) (t : Bool) (v : Int) (e : Bool) (a : Nat) (ha : a < 8) : (outA pc r t v e)[1 + a]? = some (.int .i64 (r a)) := by
  rcases (by omega : a = 0 ∨ a = 1 ∨ a = 2 ∨ a = 3 ∨ a = 4 ∨ a = 5 ∨ a = 6 ∨ a = 7) with rfl | rfl | rfl | rfl | rfl | rfl | rfl | rfl <;> rfl
theorem out_pc (pc : Int) (r : Nat → Int) (t : Bool) (v : Int) (e : Bool) (x : Int) : (outA pc r t v e).setIfInBounds 0 (.int .i64 x) = outA x r t v e := rfl
theorem out_told (pc : Int) (r : Nat → Int) (t : Bool) (v : Int) (e b : Bool) : (outA pc r t v e).setIfInBounds 9 (.bool b) = outA pc r b v e := rfl
theorem out_val (pc : Int) (r : Nat → Int) (t : Bool) (v : Int) (e : Bool) (x : Int) : (outA pc r t v e).setIfInBounds 10 (.int .i64 x) = outA pc r t x e := rfl
theorem out_end (pc : Int) (r : Nat → Int) (t : Bool) (v : Int) (e b : Bool) : (outA pc r t v e).setIfInBounds 11 (.bool b) = outA pc r t v b := rfl
theorem reg_cells {w : World} {b : Nat} {r : Nat → Int} {T : TypeId} (h : w.heap[b]? = some (.cells (regA r) T (0, 0))) : w.cell? ⟨b, 0, none⟩ = some (.int .i64 (r 0)) ∧ w.cell? ⟨b, 1, none⟩ = some (.int .i64 (r 1)) ∧ w.cell? ⟨b, 2, none⟩ = some (.int .i64 (r 2)) ∧ w.cell? ⟨b, 3, none⟩ = some (.int .i64 (r 3)) ∧ w.cell? ⟨b, 4, none⟩ = some (.int .i64 (r 4)) ∧ w.cell? ⟨b, 5, none⟩ = some (.int .i64 (r 5)) ∧ w.cell? ⟨b, 6, none⟩ = some (.int .i64 (r 6)) ∧ w.cell? ⟨b, 7, none⟩ = some (.int .i64 (r 7)) :=
  ⟨blk_cell h 0 rfl, blk_cell h 1 rfl, blk_cell h 2 rfl, blk_cell h 3 rfl, blk_cell h 4 rfl, blk_cell h 5 rfl, blk_cell h 6 rfl, blk_cell h 7 rfl⟩
section
variable (w : World) (v : Value) (ps : List Ins) (n : Nat) (pc : Int) (r : Nat → Int) (now : Int) (hn : ps.length = n) (h : Rd w 6 v n (ps.flatMap insEn)) (hok : ∀ i ∈ ps, InsOk w i)
include hn h hok
set_option maxHeartbeats 1000000 in
theorem do_bad (hbad : progB ps = false ∨ pc < 0 ∨ (n : Int) < pc) :
    Calls Tryz.prog 57 #[v, .int .i64 pc, .agg (regA r), .int .i64 now] w fun e w' => e = .returned (.tuple #[.agg outZ, .int .i64 1]) ∧ Fr Nob w w' := by
  obtain ⟨A, c, rfl⟩ : ∃ A c, v = .slice A n c := by obtain ⟨_, _, A, c, rfl, _⟩ := h; exact ⟨_, _, rfl⟩
  have hch := fun W (hf : Fr Nob w W) => check_any W _ ps n hn (h.fr hf) fun i hi => (hok i hi).fr hf
  have hi28 : (Tryz.prog.info? 138).map (fun i => i.size) = some 12 := by kernel_rfl
  have hf0 : Fr Nob w ((w.alloc (.cells (regA r) 74)).alloc (.cells outZ 138)) := ((Fr.refl _ _).alloc _).alloc _
  have hb0 : ((w.alloc (.cells (regA r) 74)).alloc (.cells outZ 138)).heap[w.heap.size + 1]? = some (.cells outZ 138 (0, 0)) := blk_alloc_eq _ (by simp)
  generalize progB ps = q at *
  have Hch := Lib.hid hch; have Hf0 := Lib.hid hf0; have Hb0 := Lib.hid hb0; have Hi := Lib.hid hi28
  clear hch h hok hf0 hb0 hi28
  have key : ∀ w1 w2, Fr Nob ((w.alloc (.cells (regA r) 74)).alloc (.cells outZ 138)) w1 → Fr (fun k => k = w.heap.size + 1) w1 w2 → Fr Nob w w2 := fun w1 w2 f1 f2 => (Hf0.out.trans0 f1).trans f2 fun k hk e => by omega
  have Key := Lib.hid key
  clear key
  cases q with
  | false =>
    clear hbad
    go_enter Tryz.func57, Tryz.ntmps57
    go_wp2_with fail
    refine (Hch.out _ Hf0.out).mono ?_
    rintro e w1 ⟨rfl, hf1⟩
    have Hf1 := Lib.hid hf1; have Hb1 := Lib.hid (hf1.blk id Hb0.out)
    clear hf1
    go_wp2_with (refine wpList_store_row w1 rfl 138 (.tmp 8) (.tmp 26) rfl (w.heap.size + 1) outZ outZ 138 rfl rfl Hb1.out rfl Hi.out outZ_one ?_; intro w2 hb2 hf2; have Hb2 := Lib.hid hb2; have Hf2 := Lib.hid hf2; clear hb2 hf2)
    obtain ⟨t0, t1, t2, t3, t4, t5, t6, t7, t8, t9, t10, t11⟩ := row_cellsZ Hb2.out
    exact bodyPost_ret (v := .tuple #[.agg outZ, .int .i64 1]) (by simp [results, Tryz.results57, go_sem, t0, t1, t2, t3, t4, t5, t6, t7, t8, t9, t10, t11]) rfl ⟨rfl, Key.out _ _ Hf1.out Hf2.out⟩
  | true =>
    have hb' : pc < 0 ∨ (n : Int) < pc := by rcases hbad with h | h; cases h; exact h
    clear hbad
    by_cases hp : pc < 0
    · have k1 : decide (pc < 0) = true := decide_eq_true hp
      have K1 := Lib.hid k1
      clear k1 hb' hp
      go_enter Tryz.func57, Tryz.ntmps57
      go_wp2_with fail
      refine (Hch.out _ Hf0.out).mono ?_
      rintro e w1 ⟨rfl, hf1⟩
      have Hf1 := Lib.hid hf1; have Hb1 := Lib.hid (hf1.blk id Hb0.out)
      clear hf1
      have K1' := K1.out
      go_wp2_with (refine wpList_store_row w1 rfl 138 (.tmp 8) (.tmp 26) rfl (w.heap.size + 1) outZ outZ 138 rfl rfl Hb1.out rfl Hi.out outZ_one ?_; intro w2 hb2 hf2; have Hb2 := Lib.hid hb2; have Hf2 := Lib.hid hf2; clear hb2 hf2)
      obtain ⟨t0, t1, t2, t3, t4, t5, t6, t7, t8, t9, t10, t11⟩ := row_cellsZ Hb2.out
      exact bodyPost_ret (v := .tuple #[.agg outZ, .int .i64 1]) (by simp [results, Tryz.results57, go_sem, t0, t1, t2, t3, t4, t5, t6, t7, t8, t9, t10, t11]) rfl ⟨rfl, Key.out _ _ Hf1.out Hf2.out⟩
    · have k1 : decide (pc < 0) = false := decide_eq_false hp
      have k2 : decide ((n : Int) < pc) = true := decide_eq_true (by omega)
      have K1 := Lib.hid k1; have K2 := Lib.hid k2
      clear k1 k2 hb' hp
      go_enter Tryz.func57, Tryz.ntmps57
      go_wp2_with fail
      refine (Hch.out _ Hf0.out).mono ?_
      rintro e w1 ⟨rfl, hf1⟩
      have Hf1 := Lib.hid hf1; have Hb1 := Lib.hid (hf1.blk id Hb0.out)
      clear hf1
      have K1' := K1.out; have K2' := K2.out
      go_wp2_with (refine wpList_store_row w1 rfl 138 (.tmp 8) (.tmp 26) rfl (w.heap.size + 1) outZ outZ 138 rfl rfl Hb1.out rfl Hi.out outZ_one ?_; intro w2 hb2 hf2; have Hb2 := Lib.hid hb2; have Hf2 := Lib.hid hf2; clear hb2 hf2)
      obtain ⟨t0, t1, t2, t3, t4, t5, t6, t7, t8, t9, t10, t11⟩ := row_cellsZ Hb2.out
      exact bodyPost_ret (v := .tuple #[.agg outZ, .int .i64 1]) (by simp [results, Tryz.results57, go_sem, t0, t1, t2, t3, t4, t5, t6, t7, t8, t9, t10, t11]) rfl ⟨rfl, Key.out _ _ Hf1.out Hf2.out⟩
set_option maxHeartbeats 1000000 in
theorem do_end (hgood : progB ps = true) (hpc : pc = n) :
    Calls Tryz.prog 57 #[v, .int .i64 pc, .agg (regA r), .int .i64 now] w fun e w' => e = .returned (.tuple #[.agg (outA n r false 0 true), .int .i64 0]) ∧ Fr Nob w w' := by
  obtain ⟨A, c, rfl⟩ : ∃ A c, v = .slice A n c := by obtain ⟨_, _, A, c, rfl, _⟩ := h; exact ⟨_, _, rfl⟩
  have hch := fun W (hf : Fr Nob w W) => check_any W _ ps n hn (h.fr hf) fun i hi => (hok i hi).fr hf
  have hi28 : (Tryz.prog.info? 138).map (fun i => i.size) = some 12 := by kernel_rfl
  have hf0 : Fr Nob w ((w.alloc (.cells (regA r) 74)).alloc (.cells outZ 138)) := ((Fr.refl _ _).alloc _).alloc _
  have hb0 : ((w.alloc (.cells (regA r) 74)).alloc (.cells outZ 138)).heap[w.heap.size + 1]? = some (.cells outZ 138 (0, 0)) := blk_alloc_eq _ (by simp)
  have hr0 : ((w.alloc (.cells (regA r) 74)).alloc (.cells outZ 138)).heap[w.heap.size]? = some (.cells (regA r) 74 (0, 0)) := (Fr.alloc (Fr.refl Nob _) _).blk id (blk_alloc_eq _ rfl)
  rw [hgood] at hch
  subst hpc
  have hnn : ¬((n : Int) < 0) := by omega
  have Hch := Lib.hid hch; have Hf0 := Lib.hid hf0; have Hb0 := Lib.hid hb0; have Hi := Lib.hid hi28; have Hr0 := Lib.hid hr0
  clear hch h hok hf0 hb0 hi28 hr0
  have key : ∀ w1 w2, Fr Nob ((w.alloc (.cells (regA r) 74)).alloc (.cells outZ 138)) w1 → Fr (fun k => k = w.heap.size + 1) w1 w2 → Fr Nob w w2 := fun w1 w2 f1 f2 => (Hf0.out.trans0 f1).trans f2 fun k hk e => by omega
  have Key := Lib.hid key
  clear key
  go_enter Tryz.func57, Tryz.ntmps57
  go_wp2_with fail
  refine (Hch.out _ Hf0.out).mono ?_
  rintro e w1 ⟨rfl, hf1⟩
  have Hf1 := Lib.hid hf1; have Hb1 := Lib.hid (hf1.blk id Hb0.out)
  obtain ⟨r0, r1, r2, r3, r4, r5, r6, r7⟩ := reg_cells (hf1.blk id Hr0.out)
  clear hf1
  have k1 : decide ((n : Int) < 0) = false := decide_eq_false (by omega)
  go_wp2_with (refine wpList_store_row w1 rfl 138 (.tmp 8) (.tmp 34) rfl (w.heap.size + 1) (outA n r false 0 true) outZ 138 rfl rfl Hb1.out rfl Hi.out (outA_one _ _ _ _ _) ?_; intro w2 hb2 hf2; have Hb2 := Lib.hid hb2; have Hf2 := Lib.hid hf2; clear hb2 hf2)
  obtain ⟨t0, t1, t2, t3, t4, t5, t6, t7, t8, t9, t10, t11⟩ := row_cells Hb2.out
  exact bodyPost_ret (v := .tuple #[.agg (outA n r false 0 true), .int .i64 0]) (by simp [results, Tryz.results57, go_sem, t0, t1, t2, t3, t4, t5, t6, t7, t8, t9, t10, t11]) rfl ⟨rfl, Key.out _ _ Hf1.out Hf2.out⟩
end
section
variable (w : World) (v : Value) (ps : List Ins) (n k : Nat) (r : Nat → Int) (now : Int) (hn : ps.length = n) (h : Rd w 6 v n (ps.flatMap insEn)) (hok : ∀ i ∈ ps, InsOk w i)
include hn h hok
set_option maxHeartbeats 2000000 in
theorem do_set (a : Nat) (b : Int) (c : Int) (v2 : Value) (cs : List ICs) (d : Bool) (hk : ps[k]? = some (((1, (a : Int), b, c), v2, cs, d) : Ins)) (hgood : progB ps = true) (ha : a < 8) :
    Calls Tryz.prog 57 #[v, .int .i64 k, .agg (regA r), .int .i64 now] w fun e w' => e = .returned (.tuple #[.agg (outA (k + 1) (updR r a b) false 0 false), .int .i64 0]) ∧ Fr Nob w w' := by
  have hio : InsOk w ((1, (a : Int), b, c), v2, cs, d) := hok _ (List.mem_of_getElem? hk)
  have hkn : k < n := by rw [← hn]; exact (List.getElem?_eq_some_iff.1 hk).1
  have hch := fun W (hf : Fr Nob w W) => check_any W _ ps n hn (h.fr hf) fun i hi => (hok i hi).fr hf
  have hm : ∀ W : World, Calls Tryz.prog 84 #[.int .i64 1] W fun e w' => e = .returned (.bool true) ∧ W = w' := fun W => mine_any W 1
  obtain ⟨_, hl, A, c1, rfl, hc1, hc2, hA⟩ := h
  obtain ⟨g, o, rfl, hgl, hc⟩ := hA (by omega)
  unfold maxLen at hl
  obtain ⟨_, _, A2, c2, hv, _⟩ := id hio
  dsimp only at hv
  subst hv
  have q0 := hc _ _ ((insGet ps k 0 _ hk (by omega)).trans rfl)
  have q1 := hc _ _ ((insGet ps k 1 _ hk (by omega)).trans rfl)
  have q2 := hc _ _ ((insGet ps k 2 _ hk (by omega)).trans rfl)
  have q3 := hc _ _ ((insGet ps k 3 _ hk (by omega)).trans rfl)
  have q4 := hc _ _ ((insGet ps k 4 _ hk (by omega)).trans rfl)
  have q5 := hc _ _ ((insGet ps k 5 _ hk (by omega)).trans rfl)
  rw [← Nat.add_assoc] at q1 q2 q3 q4 q5
  rw [Nat.add_zero] at q0
  have hi28 : (Tryz.prog.info? 138).map (fun i => i.size) = some 12 := by kernel_rfl
  have hi39 : (Tryz.prog.info? 25).map (fun i => i.size) = some 6 := by kernel_rfl
  have hf0 : Fr Nob w ((w.alloc (.cells (regA r) 74)).alloc (.cells outZ 138)) := ((Fr.refl _ _).alloc _).alloc _
  have hb0 : ((w.alloc (.cells (regA r) 74)).alloc (.cells outZ 138)).heap[w.heap.size + 1]? = some (.cells outZ 138 (0, 0)) := blk_alloc_eq _ (by simp)
  have hr0 : ((w.alloc (.cells (regA r) 74)).alloc (.cells outZ 138)).heap[w.heap.size]? = some (.cells (regA r) 74 (0, 0)) := (Fr.alloc (Fr.refl Nob _) _).blk id (blk_alloc_eq _ rfl)
  rw [hgood] at hch
  have hki : (k : Int) < n := by omega
  have Hch := Lib.hid hch; have Hf0 := Lib.hid hf0; have Hb0 := Lib.hid hb0; have Hi := Lib.hid hi28; have Hi39 := Lib.hid hi39; have Hr0 := Lib.hid hr0; have Hm := Lib.hid hm
  have Q0 := Lib.hid q0; have Q1 := Lib.hid q1; have Q2 := Lib.hid q2; have Q3 := Lib.hid q3; have Q4 := Lib.hid q4; have Q5 := Lib.hid q5
  clear hch hok hf0 hb0 hi28 hr0 hi39 hio hc hk hm q0 q1 q2 q3 q4 q5
  go_enter Tryz.func57, Tryz.ntmps57
  go_wp2_with fail
  refine (Hch.out _ Hf0.out).mono ?_
  rintro e w1 ⟨rfl, hf1⟩
  have Hf1 := Lib.hid hf1; have Hb1 := Lib.hid (hf1.blk id Hb0.out); have Hr1 := Lib.hid (hf1.blk id Hr0.out); have Hf01 := Lib.hid (Hf0.out.trans0 hf1)
  have Hlt := Lib.hid (lt_of_block Hb1.out)
  obtain ⟨r0, r1, r2, r3, r4, r5, r6, r7⟩ := reg_cells Hr1.out
  have x0 := Hf01.out.cell (p := ⟨g, o + k * 6, none⟩) id Q0.out
  clear hf1
  have k0 : decide (0 ≤ k) = true := decide_eq_true (Nat.zero_le k)
  have k0' : decide ((0 : Int) ≤ k) = true := decide_eq_true (by omega)
  have k1 : decide ((k : Int) < 0) = false := decide_eq_false (by omega)
  have k2 : decide ((n : Int) < k) = false := decide_eq_false (by omega)
  have k2' : decide (n < k) = false := decide_eq_false (by omega)
  have k3 : decide (k < n) = true := decide_eq_true hkn
  have k4 : decide ((k : Int) < n) = true := decide_eq_true hki
  have k5 : ((k : Int) == (n : Int)) = false := beq_eq_false_iff_ne.2 (by omega)
  have k6 : (k == n) = false := beq_eq_false_iff_ne.2 (by omega)
  go_wp2_with fail
  refine (Hm.out _).mono ?_
  rintro e _ ⟨rfl, rfl⟩
  go_wp2_with (first
    | (refine wpList_store_row _ rfl 138 (.tmp 10) (.tmp 47) rfl w1.heap.size (outA (k + 1) r false 0 false) outZ 138 rfl rfl (blk_alloc_eq _ rfl) rfl Hi.out (outA_one _ _ _ _ _) ?_
       intro w2 hb2 hf2
       have Hb2 := Lib.hid hb2; have Hf2 := Lib.hid (((Fr.refl (From w1.heap.size) w1).alloc _).trans0 (hf2.mono fun k _ e => by rw [e]; exact Nat.le_refl _))
       clear hb2 hf2
       have y0 := Hf2.out.cell (p := ⟨g, o + k * 6, none⟩) (by simp [From]; have := Hlt.out; omega) (Hf01.out.cell (p := ⟨g, o + k * 6, none⟩) id Q0.out)
       have y1 := Hf2.out.cell (p := ⟨g, o + k * 6 + 1, none⟩) (by simp [From]; have := Hlt.out; omega) (Hf01.out.cell (p := ⟨g, o + k * 6 + 1, none⟩) id Q1.out)
       have y2 := Hf2.out.cell (p := ⟨g, o + k * 6 + 2, none⟩) (by simp [From]; have := Hlt.out; omega) (Hf01.out.cell (p := ⟨g, o + k * 6 + 2, none⟩) id Q2.out)
       have y3 := Hf2.out.cell (p := ⟨g, o + k * 6 + 3, none⟩) (by simp [From]; have := Hlt.out; omega) (Hf01.out.cell (p := ⟨g, o + k * 6 + 3, none⟩) id Q3.out)
       have y4 := Hf2.out.cell (p := ⟨g, o + k * 6 + 4, none⟩) (by simp [From]; have := Hlt.out; omega) (Hf01.out.cell (p := ⟨g, o + k * 6 + 4, none⟩) id Q4.out)
       have y5 := Hf2.out.cell (p := ⟨g, o + k * 6 + 5, none⟩) (by simp [From]; have := Hlt.out; omega) (Hf01.out.cell (p := ⟨g, o + k * 6 + 5, none⟩) id Q5.out)
       have hlt2 := lt_of_block Hb2.out
       have hf23 : Fr (From w2.heap.size) w2 (w2.alloc (.cells #[.int .i64 1, .int .i64 (a : Int), .int .i64 b, .int .i64 c, .slice A2 cs.length c2, .bool d] 25)) := (Fr.refl (From w2.heap.size) w2).alloc _
       have hf13 : Fr (From w1.heap.size) w1 (w2.alloc (.cells #[.int .i64 1, .int .i64 (a : Int), .int .i64 b, .int .i64 c, .slice A2 cs.length c2, .bool d] 25)) := Hf2.out.trans hf23 fun k hk q => by have := Hf2.out.size; simp [From] at q ⊢; omega
       have Hc3 := Lib.hid (hf23.blk (by simp [From]; omega) Hb2.out); have Hf3 := Lib.hid hf13
       have Hr3 := Lib.hid (hf13.blk (by simp [From]; have := Hlt.out; omega) Hr1.out)
       have Hz3 := Lib.hid (hf13.blk (by simp [From]; have := Hlt.out; omega) Hb1.out)
       have oc := blk_cell Hc3.out (1 + a) (out_get _ _ _ _ _ a ha)
       have of := blk_froz Hc3.out (1 + a)
       clear hlt2 hf23 hf13)
    | (refine wpList_load_row rfl 138 (.tmp 10) rfl w1.heap.size rfl 138 (outA (k + 1) (updR r a b) false 0 false) (0, 0) _ ?_ rfl rfl Hi.out ?_
       focus (rw [blk_set Hc3.out (1 + a) _, out_set _ _ _ _ _ a ha]))
    | (refine wpList_store_row _ rfl 138 (.tmp 8) (.tmp 118) rfl (w.heap.size + 1) (outA (k + 1) (updR r a b) false 0 false) outZ 138 rfl rfl (by rw [blk_set_ne _ _ (by have := Hlt.out; omega)]; exact Hz3.out) rfl Hi.out (outA_one _ _ _ _ _) ?_
       intro w4 hb4 hf4
       have Hb4 := Lib.hid hb4
       have Hf4 := Lib.hid ((((Hf01.out.none (S := fun k => w.heap.size + 1 ≤ k)).trans (Hf3.out.setCell (.inl (Nat.le_refl _)) _) (fun k _ q => by have := Hlt.out; simp [From] at q; omega)).trans hf4 (fun k _ q => by omega)))
       clear hb4 hf4))
  obtain ⟨t0, t1, t2, t3, t4, t5, t6, t7, t8, t9, t10, t11⟩ := row_cells Hb4.out
  exact bodyPost_ret (v := .tuple #[.agg (outA (k + 1) (updR r a b) false 0 false), .int .i64 0]) (by simp [results, Tryz.results57, go_sem, t0, t1, t2, t3, t4, t5, t6, t7, t8, t9, t10, t11]) rfl ⟨rfl, Hf4.out.mono fun k hk q => by omega⟩
end
end Go.Proofs.YtcffplgimbbflaaGreat
