/- The closed part of fair's statements: awake answers true, in whatever memory. -/
import Derived.Test.YtaghnlmfhfbhhaaFair
set_option linter.unusedVariables false
set_option linter.unusedSimpArgs false
namespace Go.Proofs.Ytaghnlmfhfbhhaa
open Go.RowKit
set_option maxRecDepth 100000
theorem looks_nil (w : World) : Looks w (.slice none 0 0) [] := ⟨⟨rfl, by simp [maxLen], none, 0, rfl, Nat.le_refl _, by simp [maxLen], fun h => by simp at h⟩, fun m hm => by simp at hm⟩
set_option maxHeartbeats 2000000 in
theorem fair_awake (w : World) : Calls Try.prog 39 #[] w fun e w' => e = .returned (.bool true) ∧ Fr Nob w w' := by
  go_enter Try.func39, Try.ntmps39
  go_wp2_with fail
  let M : List (Value × Lk) := [(.slice (some ⟨w.heap.size, 0, none⟩) 2 2, ([0, 1], 0)), (.slice (some ⟨w.heap.size + 1, 0, none⟩) 2 2, ([0, 1], 0)), (.slice (some ⟨w.heap.size + 2, 0, none⟩) 2 2, ([0, 1], 1))]
  obtain ⟨W, hW⟩ : ∃ W : World, W = (((w.alloc (.cells #[.int .i64 0, .int .i64 1] 3)).alloc (.cells #[.int .i64 0, .int .i64 1] 3)).alloc (.cells #[.int .i64 0, .int .i64 1] 3)).alloc (.cells #[.slice (some ⟨w.heap.size, 0, none⟩) 2 2, .int .i64 0, .slice (some ⟨w.heap.size + 1, 0, none⟩) 2 2, .int .i64 0, .slice (some ⟨w.heap.size + 2, 0, none⟩) 2 2, .int .i64 1] 74) := ⟨_, rfl⟩
  rw [← hW]
  have hL : Looks W (.slice (some ⟨w.heap.size + 3, 0, none⟩) 3 3) M := by
    refine ⟨?_, ?_⟩
    · have h := (Sl.lit (((w.alloc (.cells #[.int .i64 0, .int .i64 1] 3)).alloc (.cells #[.int .i64 0, .int .i64 1] 3)).alloc (.cells #[.int .i64 0, .int .i64 1] 3)) 74 2 #[.slice (some ⟨w.heap.size, 0, none⟩) 2 2, .int .i64 0, .slice (some ⟨w.heap.size + 1, 0, none⟩) 2 2, .int .i64 0, .slice (some ⟨w.heap.size + 2, 0, none⟩) 2 2, .int .i64 1] 3 (From 0) (by simp [From]) (by simp [maxLen]) rfl).rd
      rw [← hW] at h
      simp at h
      exact h
    · have h1 := ((((Sl.lit w 3 1 #[.int .i64 0, .int .i64 1] 2 (From 0) (by simp [From]) (by simp [maxLen]) rfl).alloc (.cells #[.int .i64 0, .int .i64 1] 3)).alloc (.cells #[.int .i64 0, .int .i64 1] 3)).alloc (.cells #[.slice (some ⟨w.heap.size, 0, none⟩) 2 2, .int .i64 0, .slice (some ⟨w.heap.size + 1, 0, none⟩) 2 2, .int .i64 0, .slice (some ⟨w.heap.size + 2, 0, none⟩) 2 2, .int .i64 1] 74)).rd
      have h2 := (((Sl.lit (w.alloc (.cells #[.int .i64 0, .int .i64 1] 3)) 3 1 #[.int .i64 0, .int .i64 1] 2 (From 0) (by simp [From]) (by simp [maxLen]) rfl).alloc (.cells #[.int .i64 0, .int .i64 1] 3)).alloc (.cells #[.slice (some ⟨w.heap.size, 0, none⟩) 2 2, .int .i64 0, .slice (some ⟨w.heap.size + 1, 0, none⟩) 2 2, .int .i64 0, .slice (some ⟨w.heap.size + 2, 0, none⟩) 2 2, .int .i64 1] 74)).rd
      have h3 := ((Sl.lit ((w.alloc (.cells #[.int .i64 0, .int .i64 1] 3)).alloc (.cells #[.int .i64 0, .int .i64 1] 3)) 3 1 #[.int .i64 0, .int .i64 1] 2 (From 0) (by simp [From]) (by simp [maxLen]) rfl).alloc (.cells #[.slice (some ⟨w.heap.size, 0, none⟩) 2 2, .int .i64 0, .slice (some ⟨w.heap.size + 1, 0, none⟩) 2 2, .int .i64 0, .slice (some ⟨w.heap.size + 2, 0, none⟩) 2 2, .int .i64 1] 74)).rd
      rw [← hW] at h1 h2 h3
      intro m hm
      simp only [M, List.mem_cons, List.not_mem_nil, or_false] at hm
      rcases hm with rfl | rfl | rfl
      · simpa using h1
      · simpa using h2
      · simpa using h3
  have hfW : Fr Nob w W := by rw [hW]; exact ((((Fr.refl _ _).alloc _).alloc _).alloc _).alloc _
  have e1 : longest (M.map (·.2)) = 2 := by rfl
  have e2 : fairB (M.map (·.2)) 2 = false := by rfl
  have e3 : fairB (M.map (·.2)) 3 = true := by rfl
  have e4 : fairB (M.map (·.2)) 0 = false := by rfl
  have e5 : pickedN (M.map (·.2)) 0 = 2 := by rfl
  have e6 : readyN (M.map (·.2)) 0 = 3 := by rfl
  have hlen : M.length ≤ 1000000 := by simp [M]
  generalize M = M at *
  have HfW := Lib.hid hfW; have HL := Lib.hid hL; have E1 := Lib.hid e1; have E2 := Lib.hid e2; have E3 := Lib.hid e3; have E4 := Lib.hid e4; have E5 := Lib.hid e5; have E6 := Lib.hid e6
  clear hfW hL e1 e2 e3 e4 e5 e6 hW
  go_wp2_with fail
  refine (fair_share W _ M 0 HL.out hlen).mono ?_
  rintro e w1 ⟨rfl, hf1⟩
  rw [E5.out, E6.out]
  have H1 := Lib.hid (HL.out.fr hf1); have F1 := Lib.hid (HfW.out.trans0 hf1); clear hf1
  go_wp2_with fail
  refine (fair_longest w1 _ M H1.out hlen).mono ?_
  rintro e w2 ⟨rfl, hf2⟩
  rw [E1.out]
  have H2 := Lib.hid (H1.out.fr hf2); have F2 := Lib.hid (F1.out.trans0 hf2); clear hf2
  go_wp2_with fail
  refine (fair_fair w2 _ M 2 H2.out hlen).mono ?_
  rintro e w3 ⟨rfl, hf3⟩
  rw [E2.out]
  have H3 := Lib.hid (H2.out.fr hf3); have F3 := Lib.hid (F2.out.trans0 hf3); clear hf3
  go_wp2_with fail
  refine (fair_fair w3 _ M 3 H3.out hlen).mono ?_
  rintro e w4 ⟨rfl, hf4⟩
  rw [E3.out]
  have H4 := Lib.hid (H3.out.fr hf4); have F4 := Lib.hid (F3.out.trans0 hf4); clear hf4
  go_wp2_with fail
  refine (fair_fair w4 _ M 0 H4.out hlen).mono ?_
  rintro e w5 ⟨rfl, hf5⟩
  rw [E4.out]
  have F5 := Lib.hid (F4.out.trans0 hf5); clear hf5
  go_wp2_with fail
  refine (fair_longest w5 _ [] (looks_nil w5) (by simp)).mono ?_
  rintro e w6 ⟨rfl, hf6⟩
  have e7 : longest (([] : List (Value × Lk)).map (·.2)) = 0 := rfl
  rw [e7]
  have F6 := Lib.hid (F5.out.trans0 hf6); clear hf6 e7
  go_wp2_with fail
  refine (fair_fair w6 _ [] 1 (looks_nil w6) (by simp)).mono ?_
  rintro e w7 ⟨rfl, hf7⟩
  have e8 : fairB (([] : List (Value × Lk)).map (·.2)) 1 = true := rfl
  rw [e8]
  clear e8
  have F7 := Lib.hid (F6.out.trans0 hf7); clear hf7
  go_wp2_with fail
  go_ret
  exact ⟨rfl, F7.out⟩
end Go.Proofs.Ytaghnlmfhfbhhaa
