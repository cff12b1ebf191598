/- The closed part of ring's statements: awake answers true, in whatever memory. -/
import Derived.Test.YtaghnlmfhfbhhaaRing
import Derived.Test.YtaghnlmfhfbhhaaAlike
set_option linter.unusedVariables false
set_option linter.unusedSimpArgs false
namespace Go.Proofs.Ytaghnlmfhfbhhaa
open Go.RowKit
set_option maxRecDepth 100000
set_option maxHeartbeats 2000000 in
theorem ring_awake (w : World) : Calls Try.prog 29 #[] w fun e w' => e = .returned (.bool true) ∧ Fr Nob w w' := by
  go_enter Try.func29, Try.ntmps29
  go_wp2_with fail
  refine (ring_new_good 2 w (by omega)).mono ?_
  rintro e w1 ⟨b, rfl, hf1, hr1⟩
  go_wp2_with fail
  refine (ring_new_bad 65 w1 (.inr (by omega))).mono ?_
  rintro e w1 ⟨rfl, rfl⟩
  go_wp2_with fail
  refine (ring_push_yes w1 _ b 2 [] 1 hr1 (by simp)).mono ?_
  rintro e w2 ⟨rfl, hf2, hr2⟩
  go_wp2_with fail
  refine (ring_push_yes w2 _ b 2 [1] 2 hr2 (by simp)).mono ?_
  rintro e w3 ⟨rfl, hf3, hr3⟩
  go_wp2_with fail
  refine (ring_push_no w3 _ b 2 [1, 2] 3 hr3 (by simp)).mono ?_
  rintro e w4 ⟨rfl, m4, rfl⟩
  go_wp2_with fail
  refine (ring_pop_some (w3.drewN m4) _ b 2 1 [2] (hr3.fr ((Fr.refl Nob w3).drewN m4) fun _ _ _ q => q)).mono ?_
  rintro e w5 ⟨rfl, hf5, hr5⟩
  go_wp2_with fail
  refine (ring_push_yes w5 _ b 2 [2] 4 hr5 (by simp)).mono ?_
  rintro e w6 ⟨rfl, hf6, hr6⟩
  go_wp2_with fail
  refine (ring_all w6 _ b 2 [2, 4] hr6).mono ?_
  rintro e w7 ⟨l, rfl, hf7, hs7⟩
  obtain ⟨A, cap, rfl⟩ := hs7.slice
  go_wp2_with fail
  refine (ring_pop_nil w7).mono ?_
  rintro e w8 ⟨rfl, m8, rfl⟩
  go_wp2_with fail
  have hs8 : Sl ((w7.drewN m8).alloc (.cells #[.int .i64 2, .int .i64 4] 3)) (From w6.heap.size) 3 1 (.slice A 2 cap) 2 (ints [2, 4]) := (hs7.drewN m8).alloc _
  have hl8 : Sl ((w7.drewN m8).alloc (.cells #[.int .i64 2, .int .i64 4] 3)) (From 0) 3 1 (.slice (some ⟨w7.heap.size, 0, none⟩) 2 2) 2 (ints [2, 4]) :=
    Sl.lit (w7.drewN m8) 3 1 #[.int .i64 2, .int .i64 4] 2 (From 0) (by simp [From]) (by simp [maxLen]) rfl
  refine (alike_ints _ _ _ [2, 4] hs8.rd hl8.rd).mono ?_
  rintro e w9 ⟨rfl, m9, rfl⟩
  have hr9 := hr6.fr (hf7.trans0 ((((Fr.refl Nob w7).drewN m8).alloc (.cells #[.int .i64 2, .int .i64 4] 3)).drewN m9)) fun _ _ _ q => q
  go_wp2_with fail
  refine (ring_len _ _ b 2 [2, 4] hr9).mono ?_
  rintro e w9 ⟨rfl, rfl⟩
  go_wp2_with fail
  refine (ring_size _ _ b 2 [2, 4] hr9).mono ?_
  rintro e w9 ⟨rfl, rfl⟩
  go_wp2_with fail
  refine (ring_clear _ _ b 2 [2, 4] hr9).mono ?_
  rintro e w10 ⟨rfl, hf10, hr10⟩
  go_wp2_with fail
  refine (ring_len _ _ b 2 [] hr10).mono ?_
  rintro e w9 ⟨rfl, rfl⟩
  go_wp2_with fail
  refine (ring_push_nil _ 1).mono ?_
  rintro e w11 ⟨rfl, m11, rfl⟩
  go_wp2_with fail
  refine (ring_len_nil _).mono ?_
  rintro e w9 ⟨rfl, rfl⟩
  go_wp2_with fail
  go_ret
  refine ⟨rfl, ?_⟩
  have q5 := ((hf2.trans0 hf3).trans0 ((Fr.refl (From w.heap.size) w3).drewN m4)).trans0 (hf5.trans0 hf6)
  have q9 := q5.trans (hf7.trans0 ((((Fr.refl Nob w7).drewN m8).alloc (.cells #[.int .i64 2, .int .i64 4] 3)).drewN m9)) fun _ _ q => q.elim
  exact (hf1.mono (T := From w.heap.size) (fun _ _ q => q.elim)).trans0 (((q9.trans0 hf10).drewN m11)) |>.mono fun k hk q => by simp [From] at q; omega
end Go.Proofs.Ytaghnlmfhfbhhaa
