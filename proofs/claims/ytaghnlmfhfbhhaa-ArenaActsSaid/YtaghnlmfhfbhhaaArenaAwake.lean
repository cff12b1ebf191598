/- The closed part of arena's statements: awake answers true, in whatever memory. -/
import Derived.Test.YtaghnlmfhfbhhaaArena
set_option linter.unusedVariables false
set_option linter.unusedSimpArgs false
namespace Go.Proofs.Ytaghnlmfhfbhhaa
open Go.RowKit
set_option maxRecDepth 100000
abbrev xA : ByteArray := ⟨#[120]⟩
set_option maxHeartbeats 2000000 in
theorem arena_awake (w : World) : Calls Try.prog 14 #[] w fun e w' => e = .returned (.bool true) ∧ Fr Nob w w' := by
  go_enter Try.func14, Try.ntmps14
  go_wp2_with fail
  refine (arena_str_new_good 1 w (by omega) (by omega)).mono ?_
  rintro e w1 ⟨b, rfl, hf1, hr1⟩
  go_wp2_with fail
  refine (arena_int_new_bad 0 w1 (.inl (by omega))).mono ?_
  rintro e w1 ⟨rfl, rfl⟩
  go_wp2_with fail
  refine (arena_str_add w1 _ b 1 0 [] ⟨#[120]⟩ hr1 (by omega)).mono ?_
  rintro e w2 ⟨rfl, hf2, hr2⟩
  go_wp2_with fail
  refine (arena_str_add_full w2 _ b 1 _ ⟨#[121]⟩ hr2).mono ?_
  rintro e w3 ⟨rfl, hf3⟩
  have hr3 := hr2.fr hf3 fun _ _ q => q
  go_wp2_with fail
  refine (arena_str_set w3 _ b 1 1 _ 0 ⟨#[122]⟩ hr3 (by omega)).mono ?_
  rintro e w4 ⟨rfl, hf4, hr4⟩
  go_wp2_with fail
  refine (arena_str_get w4 _ b 1 1 _ 0 ⟨#[122]⟩ hr4 (by omega) rfl).mono ?_
  rintro e w5 ⟨rfl, hf5⟩
  have hr5 := hr4.fr hf5 fun _ _ q => q
  go_wp2_with fail
  refine (arena_str_get_no w5 _ b 1 1 _ 1 hr5 (.inr (by omega))).mono ?_
  rintro e w6 ⟨rfl, hf6⟩
  have hr6 := hr5.fr hf6 fun _ _ q => q
  go_wp2_with fail
  refine (arena_int_add_nil w6 1).mono ?_
  rintro e w7 ⟨rfl, hf7⟩
  have hr7 := hr6.fr hf7 fun _ _ q => q
  go_wp2_with fail
  refine (arena_str_set_no w7 _ b 1 1 _ (-1) ⟨#[113]⟩ hr7 (.inl (by omega))).mono ?_
  rintro e w8 ⟨rfl, hf8⟩
  have hr8 := hr7.fr hf8 fun _ _ q => q
  go_wp2_with fail
  refine (arena_str_len w8 _ b 1 1 _ hr8).mono ?_
  rintro e w9 ⟨rfl, rfl⟩
  go_wp2_with fail
  refine (arena_str_left w8 _ b 1 1 _ hr8).mono ?_
  rintro e w9 ⟨rfl, hq⟩
  have hf9 := Fr.ofDrew hq; clear hq
  go_wp2_with fail
  refine (arena_int_left_nil w9).mono ?_
  rintro e w10 ⟨rfl, rfl⟩
  go_wp2_with fail
  go_ret
  refine ⟨rfl, ?_⟩
  have hz1 := hf1.size
  have q4 := (hf2.mono (T := From w.heap.size) fun k _ q => q.1).trans0 ((hf3.none).trans0 (hf4.mono fun k _ q => by rcases q with q | q; exact q.1; unfold From; omega))
  exact (hf1.none.trans0 (q4.trans (((((hf5.trans0 hf6).trans0 hf7).trans0 hf8).trans0 hf9)) fun _ _ q => q.elim)).mono fun k hk q => by unfold From at q; omega
end Go.Proofs.Ytaghnlmfhfbhhaa
