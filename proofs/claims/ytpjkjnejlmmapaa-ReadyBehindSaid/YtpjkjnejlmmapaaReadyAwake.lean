/- The closed part of ready's statements: awake answers true, in whatever memory. -/
import Derived.Test.YtpjkjnejlmmapaaReady
set_option linter.unusedVariables false
set_option linter.unusedSimpArgs false
namespace Go.Proofs.Ytpjkjnejlmmapaa
open Go.RowKit
set_option maxRecDepth 100000
theorem there0 {B : Nat} {w w' : World} {S : Nat → Prop} (hz : B ≤ w.heap.size) (hS : ∀ k, S k → From B k) : ∀ k, And' S w w' k → From B k := fun k q => by
  rcases q with q | q
  · exact hS k q
  · unfold From; omega
set_option maxHeartbeats 2000000 in
theorem ready_awake (w : World) : Calls Try.prog 15 #[] w fun e w' => e = .returned (.bool true) ∧ Fr Nob w w' := by
  go_enter Try.func15, Try.ntmps15
  go_wp2_with fail
  refine (ready_new w).mono ?_
  rintro e w1 ⟨b, rfl, hf1, hr1⟩
  have F1 := hf1.none (S := From w.heap.size)
  have z1 := hf1.size
  have R1 := hr1.mono (S' := From w.heap.size) fun k _ q => q.1
  clear hf1 hr1
  go_wp2_with fail
  refine (ready_add w1 _ b [] 5 R1 (by omega) (by simp) (by simp)).mono ?_
  rintro e w2 ⟨rfl, hf2, hr2⟩
  have F2 := F1.trans0 hf2
  have z2 := F2.size
  have R2 := hr2.mono (S' := From w.heap.size) fun k _ q => there0 z1 (fun _ q => q) k q
  clear hf2 hr2
  go_wp2_with fail
  refine (ready_add w2 _ b _ 7 R2 (by omega) (by simp) (by simp)).mono ?_
  rintro e w3 ⟨rfl, hf3, hr3⟩
  have F3 := F2.trans0 hf3
  have z3 := F3.size
  have R3 := hr3.mono (S' := From w.heap.size) fun k _ q => there0 z2 (fun _ q => q) k q
  clear hf3 hr3
  go_wp2_with fail
  refine (ready_add_no w3 _ b _ 5 R3 (by simp)).mono ?_
  rintro e w4 ⟨rfl, hf4⟩
  have F4 := F3.trans0 hf4.none
  have R4 := R3.fr0 hf4
  clear hf4
  go_wp2_with fail
  refine (ready_pick w4 _ b _ 3 2 rfl R4 (by omega)).mono ?_
  rintro e w5 ⟨rfl, hf5⟩
  have F5 := F4.trans0 hf5.none
  have R5 := R4.fr0 hf5
  clear hf5
  go_wp2_with fail
  refine (ready_remove w5 _ b _ 5 R5 (by simp)).mono ?_
  rintro e w6 ⟨rfl, hf6, R6⟩
  have F6 := F5.trans0 hf6
  clear hf6
  go_wp2_with fail
  refine (ready_add_no w6 _ b _ (-1) R6 (.inl (by omega))).mono ?_
  rintro e w7 ⟨rfl, hf7⟩
  have F7 := F6.trans0 hf7.none
  have R7 := R6.fr0 hf7
  clear hf7
  go_wp2_with fail
  refine (ready_pick_nil w7 0).mono ?_
  rintro e w8 ⟨rfl, hf8⟩
  have F8 := F7.trans0 hf8.none
  have R8 := R7.fr0 hf8
  clear hf8
  go_wp2_with fail
  refine (ready_all w8 _ b [7] 1 rfl R8).mono ?_
  rintro e w9 ⟨v9, rfl, hf9, hs9⟩
  have F9 := F8.trans0 hf9.none
  have R9 := R8.fr0 hf9
  clear hf9
  obtain ⟨A, cap, rfl⟩ := hs9.slice
  go_wp2_with fail
  have hs8 : Sl (w9.alloc (.cells #[.int .i64 7] 3)) (From w8.heap.size) 3 1 (.slice A 1 cap) 1 (ints [7]) := hs9.alloc _
  have hl8 : Sl (w9.alloc (.cells #[.int .i64 7] 3)) (From 0) 3 1 (.slice (some ⟨w9.heap.size, 0, none⟩) 1 1) 1 (ints [7]) :=
    Sl.lit w9 3 1 #[.int .i64 7] 1 (From 0) (by simp [From]) (by simp [maxLen]) rfl
  refine (alike_ints _ _ _ [7] hs8.rd hl8.rd).mono ?_
  rintro e w10 ⟨rfl, hq⟩
  have hf10 := ((Fr.refl Nob w9).alloc (.cells #[.int .i64 7] 3)).trans0 (Fr.ofDrew hq)
  have F10 := F9.trans0 hf10.none
  have R10 := R9.fr0 hf10
  clear hf10 hq
  go_wp2_with fail
  refine (ready_len w10 _ b [7] 1 rfl R10).mono ?_
  rintro e w11 ⟨rfl, rfl⟩
  go_wp2_with fail
  refine (ready_add_nil w10 1).mono ?_
  rintro e w11 ⟨rfl, hf11⟩
  have F11 := F10.trans0 hf11.none
  go_wp2_with fail
  go_ret
  exact ⟨rfl, F11.mono fun k hk q => by unfold From at q; omega⟩
end Go.Proofs.Ytpjkjnejlmmapaa
