/- What awake of the laws of trees answers: true, and nothing that was there has turned. -/
import Derived.Test.YtpjkjnejlmmapaaTreeAdd
import Derived.Test.YtpjkjnejlmmapaaTreeWalk
import Derived.Test.YtpjkjnejlmmapaaAlike
set_option linter.unusedVariables false
set_option linter.unusedSimpArgs false
namespace Go.Proofs.Ytpjkjnejlmmapaa
open Go.RowKit
set_option maxRecDepth 100000
theorem there14 {B : Nat} {w w' : World} (hz : B ≤ w.heap.size) : ∀ k, And' (From B) w w' k → From B k := fun k q => by
  rcases q with q | q
  · exact q
  · unfold From; omega
set_option maxHeartbeats 4000000 in
theorem tree_awake (w : World) : Calls Try.prog 35 #[] w fun e w' => e = .returned (.bool true) ∧ Fr Nob w w' := by
  go_enter Try.func35, Try.ntmps35
  go_wp2_with fail
  refine (tree_new w).mono ?_
  rintro e w1 ⟨b, rfl, hf1, hr1⟩
  have F1 := Lib.hid (hf1.none (S := From w.heap.size))
  have z1 := hf1.size
  have R1 := Lib.hid (hr1.mono (S' := From w.heap.size) fun k _ q => q.1)
  clear hf1 hr1
  go_wp2_with fail
  refine (tree_add_lone w1 _ b [] (-1) true 0 rfl R1.out (by omega) (by omega) (by omega) (.inl rfl)).mono ?_
  rintro e w2 ⟨rfl, hf2, hr2⟩
  have F2 := Lib.hid (F1.out.trans0 hf2)
  have z2 := Nat.le_trans z1 hf2.size
  have R2 : Hid (TreeAt w2 (From w.heap.size) b [(-1, false)]) := hr2.mono fun k _ q => there14 z1 k q
  clear hf2 hr2
  go_wp2_with fail
  refine (tree_add_hang w2 _ b _ 0 1 rfl R2.out (by omega) (by omega)).mono ?_
  rintro e w3 ⟨rfl, hf3, hr3⟩
  have F3 := Lib.hid (F2.out.trans0 hf3)
  have z3 := Nat.le_trans z2 hf3.size
  have R3 : Hid (TreeAt w3 (From w.heap.size) b [(-1, false), (0, true)]) := hr3.mono fun k _ q => there14 z2 k q
  clear hf3 hr3
  go_wp2_with fail
  refine (tree_add_hang w3 _ b _ 0 2 rfl R3.out (by omega) (by omega)).mono ?_
  rintro e w4 ⟨rfl, hf4, hr4⟩
  have F4 := Lib.hid (F3.out.trans0 hf4)
  have z4 := Nat.le_trans z3 hf4.size
  have R4 : Hid (TreeAt w4 (From w.heap.size) b [(-1, false), (0, true), (0, true)]) := hr4.mono fun k _ q => there14 z3 k q
  clear hf4 hr4
  go_wp2_with fail
  refine (tree_add_hang w4 _ b _ 1 3 rfl R4.out (by omega) (by omega)).mono ?_
  rintro e w5 ⟨rfl, hf5, hr5⟩
  have F5 := Lib.hid (F4.out.trans0 hf5)
  have R5 : Hid (TreeAt w5 (From w.heap.size) b [(-1, false), (0, true), (0, true), (1, true)]) := hr5.mono fun k _ q => there14 z4 k q
  clear hf5 hr5
  go_wp2_with fail
  refine (tree_add_bad w5 _ b _ 9 true R5.out (by simp)).mono ?_
  rintro e w6 ⟨rfl, hf6⟩
  have F6 := Lib.hid (F5.out.trans0 hf6.none)
  have R6 := Lib.hid (R5.out.fr0 hf6)
  clear hf6
  go_wp2_with fail
  refine (tree_parent w6 _ b _ 0 (-1) false rfl R6.out).mono ?_
  rintro e w7 ⟨rfl, hf7⟩
  have F7 := Lib.hid (F6.out.trans0 hf7.none)
  have R7 := Lib.hid (R6.out.fr0 hf7)
  clear hf7
  go_wp2_with fail
  refine (tree_walk b _ 4 0 w7 _ (by simp) (by simp) R7.out).mono ?_
  rintro e w8 ⟨vw, rfl, hf8, hs8⟩
  have e8 : walk [(-1, false), (0, true), (0, true), (1, true)] 0 = [0, 1, 3, 2] := by decide
  rw [e8] at hs8
  obtain ⟨A8, c8, rfl⟩ := hs8.slice
  have F8 := Lib.hid (F7.out.trans0 hf8.none)
  have R8 := Lib.hid ((R7.out.mono (S' := fun k => w.heap.size ≤ k ∧ k < w7.heap.size) fun k hk q => ⟨q, hk⟩).fr0 hf8)
  have S8 := Lib.hid (hs8.mono (S' := fun k => w7.heap.size ≤ k ∧ k < w8.heap.size) fun k hk q => ⟨q, hk⟩)
  clear hf8 hs8 e8 R7
  go_wp2_with fail
  refine (tree_off w8 _ b _ 1 0 R8.out rfl).mono ?_
  rintro e w9 ⟨rfl, hf9, hr9⟩
  have F9 := Lib.hid (F8.out.trans0 (hf9.mono fun k _ q => q.1))
  have S9 := Lib.hid (S8.out.fr hf9 fun k p q => by omega)
  have R9 : Hid (TreeAt w9 (From w.heap.size) b [(-1, false), (0, false), (0, true), (1, true)]) := hr9.mono fun k _ q => q.1
  clear hf9 hr9 R8 S8
  go_wp2_with fail
  refine (tree_off_no w9 _ b _ 1 R9.out (.inr (.inr ⟨0, rfl⟩))).mono ?_
  rintro e w10 ⟨rfl, hf10⟩
  have F10 := Lib.hid (F9.out.trans0 hf10.none)
  have R10 := Lib.hid (R9.out.fr0 hf10)
  have S10 := Lib.hid (S9.out.fr hf10 fun _ _ q => q)
  clear hf10
  go_wp2_with fail
  refine (tree_add_nil w10 (-1) true).mono ?_
  rintro e w11 ⟨rfl, hf11⟩
  have F11 := Lib.hid (F10.out.trans0 hf11.none)
  have R11 := Lib.hid (R10.out.fr0 hf11)
  have S11 := Lib.hid (S10.out.fr hf11 fun _ _ q => q)
  clear hf11
  go_wp2_with fail
  obtain ⟨w12, hw12⟩ : ∃ w12, w12 = w11.alloc (.cells #[.int .i64 0, .int .i64 1, .int .i64 3, .int .i64 2] 3) := ⟨_, rfl⟩
  have hl12 : Sl w12 (From 0) 3 1 (.slice (some ⟨w11.heap.size, 0, none⟩) 4 4) 4 (ints [0, 1, 3, 2]) := by rw [hw12]; exact Sl.lit w11 3 1 #[.int .i64 0, .int .i64 1, .int .i64 3, .int .i64 2] 4 (From 0) (by simp [From]) (by simp [maxLen]) rfl
  have hf12 : Fr Nob w11 w12 := by rw [hw12]; exact (Fr.refl _ _).alloc _
  rw [← hw12]
  have F12 := Lib.hid (F11.out.trans0 hf12.none)
  have R12 := Lib.hid (R11.out.fr0 hf12)
  have S12 := Lib.hid (S11.out.fr hf12 fun _ _ q => q)
  have L12 := Lib.hid hl12
  clear hf12 hw12 hl12
  refine (alike_ints w12 _ _ [0, 1, 3, 2] S12.out.rd L12.out.rd).mono ?_
  rintro e w13 ⟨rfl, hq13⟩
  have hf13 := Fr.ofDrew hq13
  have F13 := Lib.hid (F12.out.trans0 hf13.none)
  have R13 := Lib.hid (R12.out.fr0 hf13)
  clear hf13 hq13 L12 S12
  go_wp2_with fail
  refine (tree_kids w13 _ b _ 0 (by simp) R13.out).mono ?_
  rintro e w14 ⟨vk, rfl, hf14, hs14⟩
  have e14 : kids [(-1, false), (0, false), (0, true), (1, true)] (0 : Nat) = [2] := by decide
  rw [e14] at hs14
  obtain ⟨A14, c14, rfl⟩ := hs14.slice
  have F14 := Lib.hid (F13.out.trans0 hf14.none)
  have R14 := Lib.hid (R13.out.fr0 hf14)
  have S14 := Lib.hid hs14
  clear hf14 hs14 e14
  go_wp2_with fail
  obtain ⟨w15, hw15⟩ : ∃ w15, w15 = w14.alloc (.cells #[.int .i64 2] 3) := ⟨_, rfl⟩
  have hl15 : Sl w15 (From 0) 3 1 (.slice (some ⟨w14.heap.size, 0, none⟩) 1 1) 1 (ints [2]) := by rw [hw15]; exact Sl.lit w14 3 1 #[.int .i64 2] 1 (From 0) (by simp [From]) (by simp [maxLen]) rfl
  have hf15 : Fr Nob w14 w15 := by rw [hw15]; exact (Fr.refl _ _).alloc _
  rw [← hw15]
  have F15 := Lib.hid (F14.out.trans0 hf15.none)
  have R15 := Lib.hid (R14.out.fr0 hf15)
  have S15 := Lib.hid (S14.out.fr hf15 fun _ _ q => q)
  have L15 := Lib.hid hl15
  clear hf15 hw15 hl15
  refine (alike_ints w15 _ _ [2] S15.out.rd L15.out.rd).mono ?_
  rintro e w16 ⟨rfl, hq16⟩
  have hf16 := Fr.ofDrew hq16
  have F16 := Lib.hid (F15.out.trans0 hf16.none)
  have R16 := Lib.hid (R15.out.fr0 hf16)
  clear hf16 hq16 L15 S15
  go_wp2_with fail
  refine (tree_under w16 _ b _ 3 0 R16.out (by simp)).mono ?_
  rintro e w17 ⟨rfl, hf17⟩
  have e17 : decide ((3 : Int) ∈ walk [(-1, false), (0, false), (0, true), (1, true)] 0) = false := by decide
  rw [e17]
  have F17 := Lib.hid (F16.out.trans0 hf17.none)
  have R17 := Lib.hid (R16.out.fr0 hf17)
  clear hf17 e17
  go_wp2_with fail
  refine (tree_under w17 _ b _ 3 1 R17.out (by simp)).mono ?_
  rintro e w18 ⟨rfl, hf18⟩
  have e18 : decide ((3 : Int) ∈ walk [(-1, false), (0, false), (0, true), (1, true)] 1) = true := by decide
  rw [e18]
  have F18 := Lib.hid (F17.out.trans0 hf18.none)
  have R18 := Lib.hid (R17.out.fr0 hf18)
  clear hf18 e18
  go_wp2_with fail
  refine (tree_len w18 _ b _ 4 rfl R18.out).mono ?_
  rintro e w19 ⟨rfl, rfl⟩
  go_wp2_with fail
  go_ret
  exact ⟨rfl, F18.out.mono fun k hk q => by unfold From at q; omega⟩
end Go.Proofs.Ytpjkjnejlmmapaa
