/- What good and Check of package prog do. -/
import Derived.Test.YteabiaoklpfbdaaInstr
import Derived.WalkSpells
set_option linter.unusedVariables false
set_option linter.unusedSimpArgs false
namespace Go.Proofs.Yteabiaoklpfbdaa
open Go.RowKit
set_option maxRecDepth 100000

theorem good_no_low (w : World) (op a b c : Int) (A : Option Addr) (m cp : Nat) (d : Bool) (places : Int) (h : op < 1) :
    Calls Try.prog 43 #[.agg #[.int .i64 op, .int .i64 a, .int .i64 b, .int .i64 c, .slice A m cp, .bool d], .int .i64 places] w fun e w' => e = .returned (.bool false) ∧ Fr Nob w w' := by
  have h1 : decide (op < 1) = true := by simp; omega
  go_enter Try.func43, Try.ntmps43
  go_wp2_with fail
  go_ret
  exact ⟨rfl, (Fr.refl _ _).alloc _⟩

theorem good_no_high (w : World) (op a b c : Int) (A : Option Addr) (m cp : Nat) (d : Bool) (places : Int) (h : 32 < op) :
    Calls Try.prog 43 #[.agg #[.int .i64 op, .int .i64 a, .int .i64 b, .int .i64 c, .slice A m cp, .bool d], .int .i64 places] w fun e w' => e = .returned (.bool false) ∧ Fr Nob w w' := by
  have h0 : ¬ op < 1 := by omega
  have h00 : decide (op < 1) = false := by simp; omega
  have h1 : decide ((32 : Int) < op) = true := by simp; omega
  go_enter Try.func43, Try.ntmps43
  go_wp2_with fail
  go_ret
  exact ⟨rfl, (Fr.refl _ _).alloc _⟩

theorem good_no_cases (w : World) (op a b c : Int) (A : Option Addr) (m cp : Nat) (d : Bool) (places : Int) (h1 : 1 ≤ op) (h2 : op ≤ 32) (h3 : op ≠ 15) (h4 : 0 < m) :
    Calls Try.prog 43 #[.agg #[.int .i64 op, .int .i64 a, .int .i64 b, .int .i64 c, .slice A m cp, .bool d], .int .i64 places] w fun e w' => e = .returned (.bool false) ∧ Fr Nob w w' := by
  have e1 : decide (op < 1) = false := by simp; omega
  have e2 : decide ((32 : Int) < op) = false := by simp; omega
  have e3 : (op != 15) = true := by simp [h3]
  have e4 : decide ((0 : Int) < (m : Int)) = true := by simp; omega
  have e5 : decide (0 < m) = true := by simp; omega
  clear h3
  go_enter Try.func43, Try.ntmps43
  go_wp2_with fail
  go_ret
  exact ⟨rfl, (Fr.refl _ _).alloc _⟩

theorem good_no_def (w : World) (op a b c : Int) (A : Option Addr) (m cp : Nat) (d : Bool) (places : Int) (h1 : 1 ≤ op) (h2 : op ≤ 32) (h3 : op ≠ 15) :
    Calls Try.prog 43 #[.agg #[.int .i64 op, .int .i64 a, .int .i64 b, .int .i64 c, .slice A 0 cp, .bool true], .int .i64 places] w fun e w' => e = .returned (.bool false) ∧ Fr Nob w w' := by
  have e1 : decide (op < 1) = false := by simp; omega
  have e2 : decide ((32 : Int) < op) = false := by simp; omega
  have e3 : (op != 15) = true := by simp [h3]
  clear h3
  go_enter Try.func43, Try.ntmps43
  go_wp2_with fail
  go_ret
  exact ⟨rfl, (Fr.refl _ _).alloc _⟩

theorem good_no_many (w : World) (op a b c : Int) (A : Option Addr) (m cp : Nat) (d : Bool) (places : Int) (h4 : 16 < m) :
    Calls Try.prog 43 #[.agg #[.int .i64 15, .int .i64 a, .int .i64 b, .int .i64 c, .slice A m cp, .bool d], .int .i64 places] w fun e w' => e = .returned (.bool false) ∧ Fr Nob w w' := by
  have e4 : decide ((16 : Int) < (m : Int)) = true := by simp; omega
  have e5 : decide (16 < m) = true := by simp; omega
  go_enter Try.func43, Try.ntmps43
  go_wp2_with fail
  go_ret
  exact ⟨rfl, (Fr.refl _ _).alloc _⟩

def fieldsB : ByteArray := ⟨([114, 110, 45, 114, 114, 45, 114, 110, 45, 112, 45, 45, 114, 112, 45, 114, 45, 45, 45, 45, 45, 114, 103, 45, 114, 110, 45, 114, 114, 45, 114, 114, 114, 114, 45, 45, 114, 114, 45, 114, 114, 45, 114, 114, 114, 114, 45, 45, 114, 114, 114, 114, 114, 114, 114, 114, 103, 114, 114, 45, 114, 114, 114, 114, 114, 45, 114, 114, 114, 114, 114, 114, 114, 114, 45, 114, 114, 45, 114, 114, 45, 114, 114, 45, 114, 114, 45, 114, 114, 114, 114, 114, 103, 114, 114, 45] : List UInt8).toArray⟩
theorem kind_tab (t : Nat) (h : t < fieldsB.size) : ((fieldsB[t]'h).toNat : Int) = fieldsL.getD t 0 := by
  have key : ∀ u : Fin fieldsB.size, ((fieldsB[u.1]'u.2).toNat : Int) = fieldsL.getD u.1 0 := by decide
  exact key ⟨t, h⟩
theorem kind0 (op : Int) (h : (3 * (op - 1)).toNat < fieldsB.size) : ((fieldsB[(3 * (op - 1)).toNat]'h).toNat : Int) = kindB op 0 := (kind_tab _ h).trans (by unfold kindB; simp)
theorem kind1 (op : Int) (h : (3 * (op - 1) + 1).toNat < fieldsB.size) : ((fieldsB[(3 * (op - 1) + 1).toNat]'h).toNat : Int) = kindB op 1 := kind_tab _ h
theorem kind2 (op : Int) (h : (3 * (op - 1) + 2).toNat < fieldsB.size) : ((fieldsB[(3 * (op - 1) + 2).toNat]'h).toNat : Int) = kindB op 2 := kind_tab _ h

theorem may_at (w : World) (k n places kd : Int) (h : k = kd) : Calls Try.prog 51 #[.int .u8 k, .int .i64 n, .int .i64 places] w fun e w' => e = .returned (.bool (mayB kd n places)) ∧ w = w' := by
  subst h; exact may_any w k n places

set_option maxHeartbeats 4000000 in
theorem good_yes_plain (w : World) (op a b c : Int) (A : Option Addr) (m cp : Nat) (d : Bool) (places : Int) (cs : List Cs) (h1 : 1 ≤ op) (h2 : op ≤ 32) (h3 : op ≠ 15) (hA : Rd w 3 (.slice A 0 cp) 0 ((([] : List Cs)).flatMap csEn)) :
    Calls Try.prog 43 #[.agg #[.int .i64 op, .int .i64 a, .int .i64 b, .int .i64 c, .slice A 0 cp, .bool false], .int .i64 places] w fun e w' => e = .returned (.bool (mayB (kindB op 0) a places && mayB (kindB op 1) b places && mayB (kindB op 2) c places && (([] : List Cs)).all csB)) ∧ Fr Nob w w' := by
  have e1 : decide (op < 1) = false := by simp; omega
  have e2 : decide ((32 : Int) < op) = false := by simp; omega
  have e3 : (op != 15) = true := by simp [h3]
  clear h3
  obtain ⟨r0, hr0⟩ : ∃ r, r = mayB (kindB op 0) a places := ⟨_, rfl⟩
  obtain ⟨r1, hr1⟩ : ∃ r, r = mayB (kindB op 1) b places := ⟨_, rfl⟩
  obtain ⟨r2, hr2⟩ : ∃ r, r = mayB (kindB op 2) c places := ⟨_, rfl⟩
  rw [← hr0, ← hr1, ← hr2]
  have hm0 := fun W k (hk : k = kindB op 0) => may_at W k a places _ hk
  have hm1 := fun W k (hk : k = kindB op 1) => may_at W k b places _ hk
  have hm2 := fun W k (hk : k = kindB op 2) => may_at W k c places _ hk
  rw [← hr0] at hm0
  rw [← hr1] at hm1
  rw [← hr2] at hm2
  have Hm0 := Lib.hid hm0; have Hm1 := Lib.hid hm1; have Hm2 := Lib.hid hm2
  have Hrd := Lib.hid hA
  clear hA hr0 hr1 hr2 hm0 hm1 hm2
  go_enter Try.func43, Try.ntmps43
  go_wp2_with fail
  obtain ⟨w0, hw0⟩ : ∃ w0, w0 = (w.alloc (.cells #[.int .i64 op, .int .i64 a, .int .i64 b, .int .i64 c, .slice A 0 cp, .bool false] 34)).alloc (.cells #[.int .i64 a, .int .i64 b, .int .i64 c] 3) := ⟨_, rfl⟩
  rw [← hw0]
  have hf0 : Fr Nob w w0 := by rw [hw0]; exact ((Fr.refl _ _).alloc _).alloc _
  have hb1 : w0.heap[w.heap.size]? = some (.cells #[.int .i64 op, .int .i64 a, .int .i64 b, .int .i64 c, .slice A 0 cp, .bool false] 34 (0, 0)) := by rw [hw0, blk_alloc_ne _ (by simp)]; exact heap_alloc_new _ _
  have hb2 : w0.heap[w.heap.size + 1]? = some (.cells #[.int .i64 a, .int .i64 b, .int .i64 c] 3 (0, 0)) := by rw [hw0]; exact blk_alloc_eq _ (by simp)
  obtain ⟨bb, hbb⟩ : ∃ bb, bb = w.heap.size := ⟨_, rfl⟩
  rw [← hbb] at hb1 hb2 ⊢
  have x0 : w0.cell? ⟨bb, 0, none⟩ = some (.int .i64 op) := blk_cell hb1 0 rfl
  have x4 : w0.cell? ⟨bb, 4, none⟩ = some (.slice A 0 cp) := blk_cell hb1 4 rfl
  have y0 : w0.cell? ⟨bb + 1, 0, none⟩ = some (.int .i64 a) := blk_cell hb2 0 rfl
  have y1 : w0.cell? ⟨bb + 1, 1, none⟩ = some (.int .i64 b) := blk_cell hb2 1 rfl
  have y2 : w0.cell? ⟨bb + 1, 2, none⟩ = some (.int .i64 c) := blk_cell hb2 2 rfl
  have Hf0 := Lib.hid hf0
  clear hw0 hf0 hb1 hb2 hbb
  go_loopw [44] (fun i wr => ∃ k : Nat, k ≤ 3 ∧ i = .int .i64 k ∧ Hid ((0 < k → r0 = true) ∧ (1 < k → r1 = true) ∧ (2 < k → r2 = true)) ∧ w0 = wr) (fun i _ => 3 - (intOf i).toNat)
  case atStart => exact ⟨0, by omega, rfl, Lib.hid ⟨fun h => by omega, fun h => by omega, fun h => by omega⟩, rfl⟩
  case round =>
    obtain ⟨k, hk, rfl, hrs, rfl⟩ := hrel
    rcases (by omega : k = 0 ∨ k = 1 ∨ k = 2 ∨ k = 3) with rfl | rfl | rfl | rfl
    · go_wp2_with fail
      refine (Hm0.out w0 _ ?_).mono ?_
      · exact kind0 op _
      rintro e w' ⟨rfl, rfl⟩
      cases r0 with
      | true =>
        have hrs2 : Hid ((0 < 1 → true = true) ∧ (1 < 1 → r1 = true) ∧ (2 < 1 → r2 = true)) := Lib.hid ⟨fun _ => rfl, fun h => by omega, fun h => by omega⟩
        go_wp2_with fail
        go_roundw
        case rel => exact ⟨1, by omega, rfl, hrs2, by first | rfl | trivial⟩
        case measure => simp [intOf]
      | false =>
        go_wp2_with fail
        go_ret
        exact ⟨by simp, Hf0.out⟩
    · go_wp2_with fail
      refine (Hm1.out w0 _ ?_).mono ?_
      · exact kind1 op _
      rintro e w' ⟨rfl, rfl⟩
      cases r1 with
      | true =>
        have hrs2 : Hid ((0 < 2 → r0 = true) ∧ (1 < 2 → true = true) ∧ (2 < 2 → r2 = true)) := Lib.hid ⟨fun _ => hrs.out.1 (by omega), fun h => rfl, fun h => by omega⟩
        go_wp2_with fail
        go_roundw
        case rel => exact ⟨2, by omega, rfl, hrs2, by first | rfl | trivial⟩
        case measure => simp [intOf]
      | false =>
        go_wp2_with fail
        go_ret
        exact ⟨by simp, Hf0.out⟩
    · go_wp2_with fail
      refine (Hm2.out w0 _ ?_).mono ?_
      · exact kind2 op _
      rintro e w' ⟨rfl, rfl⟩
      cases r2 with
      | true =>
        have hrs2 : Hid ((0 < 3 → r0 = true) ∧ (1 < 3 → r1 = true) ∧ (2 < 3 → true = true)) := Lib.hid ⟨fun _ => hrs.out.1 (by omega), fun h => hrs.out.2.1 (by omega), fun h => rfl⟩
        go_wp2_with fail
        go_roundw
        case rel => exact ⟨3, by omega, rfl, hrs2, by first | rfl | trivial⟩
        case measure => simp [intOf]
      | false =>
        go_wp2_with fail
        go_ret
        exact ⟨by simp, Hf0.out⟩
    · obtain ⟨q0, q1, q2⟩ := hrs.out
      obtain rfl := q0 (by omega)
      obtain rfl := q1 (by omega)
      obtain rfl := q2 (by omega)
      clear q0 q1 q2 hrs
      go_wp2_with fail
      refine (contains_cases w0 _ (([] : List Cs)) 0 rfl (Hrd.out.fr Hf0.out)).mono ?_
      rintro e w' ⟨rfl, hf⟩
      have Hf := Lib.hid (Hf0.out.trans0 hf)
      clear hf
      go_wp2_with fail
      go_ret
      exact ⟨by rfl, Hf.out⟩

set_option maxHeartbeats 4000000 in
theorem good_yes_select (w : World) (op a b c : Int) (A : Option Addr) (m cp : Nat) (d : Bool) (places : Int) (cs : List Cs) (hcs : cs.length = m) (hm : m ≤ 16) (hA : Rd w 3 (.slice A m cp) m ((cs).flatMap csEn)) :
    Calls Try.prog 43 #[.agg #[.int .i64 15, .int .i64 a, .int .i64 b, .int .i64 c, .slice A m cp, .bool d], .int .i64 places] w fun e w' => e = .returned (.bool (mayB (kindB 15 0) a places && mayB (kindB 15 1) b places && mayB (kindB 15 2) c places && (cs).all csB)) ∧ Fr Nob w w' := by
  have e4 : decide ((16 : Int) < (m : Int)) = false := by simp; omega
  have e5 : decide (16 < m) = false := by simp; omega
  obtain ⟨r0, hr0⟩ : ∃ r, r = mayB (kindB 15 0) a places := ⟨_, rfl⟩
  obtain ⟨r1, hr1⟩ : ∃ r, r = mayB (kindB 15 1) b places := ⟨_, rfl⟩
  obtain ⟨r2, hr2⟩ : ∃ r, r = mayB (kindB 15 2) c places := ⟨_, rfl⟩
  rw [← hr0, ← hr1, ← hr2]
  have hm0 := fun W k (hk : k = kindB 15 0) => may_at W k a places _ hk
  have hm1 := fun W k (hk : k = kindB 15 1) => may_at W k b places _ hk
  have hm2 := fun W k (hk : k = kindB 15 2) => may_at W k c places _ hk
  rw [← hr0] at hm0
  rw [← hr1] at hm1
  rw [← hr2] at hm2
  have Hm0 := Lib.hid hm0; have Hm1 := Lib.hid hm1; have Hm2 := Lib.hid hm2
  have Hrd := Lib.hid hA
  clear hA hr0 hr1 hr2 hm0 hm1 hm2
  go_enter Try.func43, Try.ntmps43
  go_wp2_with fail
  obtain ⟨w0, hw0⟩ : ∃ w0, w0 = (w.alloc (.cells #[.int .i64 15, .int .i64 a, .int .i64 b, .int .i64 c, .slice A m cp, .bool d] 34)).alloc (.cells #[.int .i64 a, .int .i64 b, .int .i64 c] 3) := ⟨_, rfl⟩
  rw [← hw0]
  have hf0 : Fr Nob w w0 := by rw [hw0]; exact ((Fr.refl _ _).alloc _).alloc _
  have hb1 : w0.heap[w.heap.size]? = some (.cells #[.int .i64 15, .int .i64 a, .int .i64 b, .int .i64 c, .slice A m cp, .bool d] 34 (0, 0)) := by rw [hw0, blk_alloc_ne _ (by simp)]; exact heap_alloc_new _ _
  have hb2 : w0.heap[w.heap.size + 1]? = some (.cells #[.int .i64 a, .int .i64 b, .int .i64 c] 3 (0, 0)) := by rw [hw0]; exact blk_alloc_eq _ (by simp)
  obtain ⟨bb, hbb⟩ : ∃ bb, bb = w.heap.size := ⟨_, rfl⟩
  rw [← hbb] at hb1 hb2 ⊢
  have x0 : w0.cell? ⟨bb, 0, none⟩ = some (.int .i64 15) := blk_cell hb1 0 rfl
  have x4 : w0.cell? ⟨bb, 4, none⟩ = some (.slice A m cp) := blk_cell hb1 4 rfl
  have y0 : w0.cell? ⟨bb + 1, 0, none⟩ = some (.int .i64 a) := blk_cell hb2 0 rfl
  have y1 : w0.cell? ⟨bb + 1, 1, none⟩ = some (.int .i64 b) := blk_cell hb2 1 rfl
  have y2 : w0.cell? ⟨bb + 1, 2, none⟩ = some (.int .i64 c) := blk_cell hb2 2 rfl
  have Hf0 := Lib.hid hf0
  clear hw0 hf0 hb1 hb2 hbb
  go_loopw [44] (fun i wr => ∃ k : Nat, k ≤ 3 ∧ i = .int .i64 k ∧ Hid ((0 < k → r0 = true) ∧ (1 < k → r1 = true) ∧ (2 < k → r2 = true)) ∧ w0 = wr) (fun i _ => 3 - (intOf i).toNat)
  case atStart => exact ⟨0, by omega, rfl, Lib.hid ⟨fun h => by omega, fun h => by omega, fun h => by omega⟩, rfl⟩
  case round =>
    obtain ⟨k, hk, rfl, hrs, rfl⟩ := hrel
    rcases (by omega : k = 0 ∨ k = 1 ∨ k = 2 ∨ k = 3) with rfl | rfl | rfl | rfl
    · go_wp2_with fail
      refine (Hm0.out w0 _ ?_).mono ?_
      · rfl
      rintro e w' ⟨rfl, rfl⟩
      cases r0 with
      | true =>
        have hrs2 : Hid ((0 < 1 → true = true) ∧ (1 < 1 → r1 = true) ∧ (2 < 1 → r2 = true)) := Lib.hid ⟨fun _ => rfl, fun h => by omega, fun h => by omega⟩
        go_wp2_with fail
        go_roundw
        case rel => exact ⟨1, by omega, rfl, hrs2, by first | rfl | trivial⟩
        case measure => simp [intOf]
      | false =>
        go_wp2_with fail
        go_ret
        exact ⟨by simp, Hf0.out⟩
    · go_wp2_with fail
      refine (Hm1.out w0 _ ?_).mono ?_
      · rfl
      rintro e w' ⟨rfl, rfl⟩
      cases r1 with
      | true =>
        have hrs2 : Hid ((0 < 2 → r0 = true) ∧ (1 < 2 → true = true) ∧ (2 < 2 → r2 = true)) := Lib.hid ⟨fun _ => hrs.out.1 (by omega), fun h => rfl, fun h => by omega⟩
        go_wp2_with fail
        go_roundw
        case rel => exact ⟨2, by omega, rfl, hrs2, by first | rfl | trivial⟩
        case measure => simp [intOf]
      | false =>
        go_wp2_with fail
        go_ret
        exact ⟨by simp, Hf0.out⟩
    · go_wp2_with fail
      refine (Hm2.out w0 _ ?_).mono ?_
      · rfl
      rintro e w' ⟨rfl, rfl⟩
      cases r2 with
      | true =>
        have hrs2 : Hid ((0 < 3 → r0 = true) ∧ (1 < 3 → r1 = true) ∧ (2 < 3 → true = true)) := Lib.hid ⟨fun _ => hrs.out.1 (by omega), fun h => hrs.out.2.1 (by omega), fun h => rfl⟩
        go_wp2_with fail
        go_roundw
        case rel => exact ⟨3, by omega, rfl, hrs2, by first | rfl | trivial⟩
        case measure => simp [intOf]
      | false =>
        go_wp2_with fail
        go_ret
        exact ⟨by simp, Hf0.out⟩
    · obtain ⟨q0, q1, q2⟩ := hrs.out
      obtain rfl := q0 (by omega)
      obtain rfl := q1 (by omega)
      obtain rfl := q2 (by omega)
      clear q0 q1 q2 hrs
      go_wp2_with fail
      refine (contains_cases w0 _ (cs) m hcs (Hrd.out.fr Hf0.out)).mono ?_
      rintro e w' ⟨rfl, hf⟩
      have Hf := Lib.hid (Hf0.out.trans0 hf)
      clear hf
      go_wp2_with fail
      go_ret
      exact ⟨by rw [List.any_eq_not_all_not]; simp, Hf.out⟩

theorem good_any (w : World) (i : Ins) (places : Int) (h : InsOk w i) :
    Calls Try.prog 43 #[insV i, .int .i64 places] w fun e w' => e = .returned (.bool (goodB i places)) ∧ Fr Nob w w' := by
  obtain ⟨⟨op, a, b, c⟩, v, cs, d⟩ := i
  unfold InsOk at h
  dsimp only at h
  obtain ⟨q1, q2, A, cp, rfl, q3, q4, q5⟩ := id h
  show Calls Try.prog 43 #[.agg #[.int .i64 op, .int .i64 a, .int .i64 b, .int .i64 c, .slice A cs.length cp, .bool d], .int .i64 places] w _
  unfold goodB
  dsimp only
  by_cases h1 : op < 1
  · have : headB op cs d = false := by unfold headB; simp; omega
    rw [this]; simpa using good_no_low w op a b c A cs.length cp d places h1
  · by_cases h2 : 32 < op
    · have : headB op cs d = false := by unfold headB; simp; omega
      rw [this]; simpa using good_no_high w op a b c A cs.length cp d places h2
    · by_cases h3 : op = 15
      · subst h3
        by_cases h4 : 16 < cs.length
        · have : headB 15 cs d = false := by unfold headB; simp; omega
          rw [this]; simpa using good_no_many w 15 a b c A cs.length cp d places h4
        · have : headB 15 cs d = true := by unfold headB; simp; omega
          rw [this]; simpa using good_yes_select w 15 a b c A cs.length cp d places cs rfl (by omega) h
      · have h15 : (op == 15) = false := beq_eq_false_iff_ne.2 h3
        by_cases h5 : 0 < cs.length
        · have : headB op cs d = false := by
            have hz : (cs.length == 0) = false := beq_eq_false_iff_ne.2 (by omega)
            unfold headB; rw [h15, hz]; simp
          rw [this]; simpa using good_no_cases w op a b c A cs.length cp d places (by omega) (by omega) h3 h5
        · obtain rfl : cs = [] := List.eq_nil_of_length_eq_zero (by omega)
          cases d with
          | true =>
            have : headB op [] true = false := by unfold headB; rw [h15]; simp
            rw [this]; simpa using good_no_def w op a b c A 0 cp true places (by omega) (by omega) h3
          | false =>
            have : headB op [] false = true := by unfold headB; simp; omega
            rw [this]; simpa using good_yes_plain w op a b c A 0 cp false places [] (by omega) (by omega) h3 h
end Go.Proofs.Yteabiaoklpfbdaa
