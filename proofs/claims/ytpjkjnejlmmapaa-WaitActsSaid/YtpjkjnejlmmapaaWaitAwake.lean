/- The acts on no queue, the acts whose outcome is known, and the closed part of wait's statements: awake answers true, in whatever memory. -/
import Derived.Test.YtpjkjnejlmmapaaWaitRemove
set_option linter.unusedVariables false
set_option linter.unusedSimpArgs false
namespace Go.Proofs.Ytpjkjnejlmmapaa
open Go.RowKit
set_option maxRecDepth 100000

theorem wait_pop_some (w : World) (S : Nat → Prop) (b : Nat) (x : Wt) (q : List Wt) (h : WaitAt w S b (x :: q)) :
    Calls Try.prog 28 #[.pointer (some ⟨b, 0, none⟩)] w fun e w' => e = .returned (.tuple #[wtVal x, .bool true]) ∧ Fr S w w' ∧ WaitAt w' S b q := by
  refine (wait_pop w S b _ h).mono ?_
  rintro e w' (⟨i, y, h1, h2, h3, h4, h5, h6⟩ | ⟨h1, _⟩)
  · cases i with
    | zero => simp at h1; subst h1; exact ⟨h4, h5, by simpa using h6⟩
    | succ i => have := h3 0 (by omega) x rfl; simp at this
  · have := h1 x (List.mem_cons_self ..); simp at this
theorem wait_pop_none (w : World) (S : Nat → Prop) (b : Nat) (h : WaitAt w S b []) :
    Calls Try.prog 28 #[.pointer (some ⟨b, 0, none⟩)] w fun e w' => e = .returned (.tuple #[wtVal (0, 0, 0), .bool false]) ∧ Fr Nob w w' := by
  refine (wait_pop w S b _ h).mono ?_
  rintro e w' (⟨i, y, h1, _⟩ | ⟨_, h2, h3⟩)
  · simp at h1
  · exact ⟨h2, h3⟩
theorem wait_take_at (w : World) (S : Nat → Prop) (b : Nat) (ws : List Wt) (t c : Int) (i : Nat) (x : Wt) (h : WaitAt w S b ws) (hx : ws[i]? = some x) (hp : (x.1 == t && x.2.1 == c) = true) (hmin : ∀ j, j < i → ∀ y : Wt, ws[j]? = some y → (y.1 == t && y.2.1 == c) = false) :
    Calls Try.prog 30 #[.pointer (some ⟨b, 0, none⟩), .int .i64 t, .int .i64 c] w fun e w' => e = .returned (.tuple #[wtVal x, .bool true]) ∧ Fr S w w' ∧ WaitAt w' S b (ws.eraseIdx i) := by
  refine (wait_take w S b _ h t c).mono ?_
  rintro e w' (⟨i', y, h1, h2, h3, h4, h5, h6⟩ | ⟨h1, _⟩)
  · have hii : i' = i := by
      rcases Nat.lt_trichotomy i' i with h | h | h
      · have := hmin i' h y h1; dsimp only at h2; rw [this] at h2; cases h2
      · exact h
      · have := h3 i h x hx; dsimp only at this; rw [this] at hp; cases hp
    subst hii
    rw [hx] at h1; cases h1
    exact ⟨h4, h5, h6⟩
  · have := h1 x (List.mem_of_getElem? hx); dsimp only at this; rw [this] at hp; cases hp
theorem wait_take_no (w : World) (S : Nat → Prop) (b : Nat) (ws : List Wt) (t c : Int) (h : WaitAt w S b ws) (hno : ∀ y ∈ ws, (y.1 == t && y.2.1 == c) = false) :
    Calls Try.prog 30 #[.pointer (some ⟨b, 0, none⟩), .int .i64 t, .int .i64 c] w fun e w' => e = .returned (.tuple #[wtVal (0, 0, 0), .bool false]) ∧ Fr Nob w w' := by
  refine (wait_take w S b _ h t c).mono ?_
  rintro e w' (⟨i', y, h1, h2, _⟩ | ⟨_, h2, h3⟩)
  · have := hno y (List.mem_of_getElem? h1); dsimp only at h2; rw [this] at h2; cases h2
  · exact ⟨h2, h3⟩
set_option maxHeartbeats 800000 in
theorem wait_take_nil (w : World) (v : Value) :
    Calls Try.prog 53 #[.pointer none, v] w fun e w' => e = .returned (.tuple #[wtVal (0, 0, 0), .bool false]) ∧ Fr Nob w w' := by
  go_enter Try.func53, Try.ntmps53
  go_wp2_with fail
  obtain ⟨w0, hw0⟩ : ∃ w0, w0 = w.alloc (.cells #[.int .i64 0, .int .i64 0, .int .i64 0] 46) := ⟨_, rfl⟩
  rw [← hw0]
  have hr0 : w0.heap[w.heap.size]? = some (.cells #[.int .i64 0, .int .i64 0, .int .i64 0] 46 (0, 0)) := by rw [hw0]; exact heap_alloc_new _ _
  have t0 : w0.cell? ⟨w.heap.size, 0, none⟩ = some (.int .i64 0) := blk_cell hr0 0 rfl
  have t1 : w0.cell? ⟨w.heap.size, 1, none⟩ = some (.int .i64 0) := blk_cell hr0 1 rfl
  have t2 : w0.cell? ⟨w.heap.size, 2, none⟩ = some (.int .i64 0) := blk_cell hr0 2 rfl
  have hf3 : Fr Nob w w0 := by rw [hw0]; exact (Fr.refl Nob w).alloc _
  exact bodyPost_ret (v := .tuple #[wtVal (0, 0, 0), .bool false]) (by simp [results, Try.results53, go_sem, t0, t1, t2]) rfl ⟨rfl, hf3⟩
set_option maxHeartbeats 800000 in
theorem wait_remove_nil (w : World) (t : Int) :
    Calls Try.prog 29 #[.pointer none, .int .i64 t] w fun e w' => e = .returned (.int .i64 0) ∧ Fr Nob w w' := by
  go_enter Try.func29, Try.ntmps29
  go_wp2_with fail
  obtain ⟨w0, hw0⟩ : ∃ w0, w0 = w.alloc (.cells #[.int .i64 t] 3) := ⟨_, rfl⟩
  rw [← hw0]
  have Hf0 : Hid (Fr Nob w w0) := by rw [hw0]; exact (Fr.refl Nob _).alloc _
  clear hw0
  go_loopw [4] (fun c wr => c = .int .i64 0 ∧ wr = w0) (fun _ _ => 0)
  case atStart => exact ⟨rfl, rfl⟩
  case round =>
    obtain ⟨rfl, rfl⟩ := hrel
    go_wp2_with fail
    refine (wait_take_nil wr _).mono ?_
    rintro e w1 ⟨rfl, hf1⟩
    have Hf1 := Lib.hid (Hf0.out.trans0 hf1); clear hf1
    go_wp2_with fail
    go_ret
    exact ⟨rfl, Hf1.out.alloc _⟩

theorem there1 {B : Nat} {w w' : World} (hz : B ≤ w.heap.size) : ∀ k, And' (From B) w w' k → From B k := fun k q => by
  rcases q with q | q
  · exact q
  · unfold From; omega
set_option maxHeartbeats 2000000 in
theorem wait_awake (w : World) : Calls Try.prog 25 #[] w fun e w' => e = .returned (.bool true) ∧ Fr Nob w w' := by
  go_enter Try.func25, Try.ntmps25
  go_wp2_with fail
  refine (wait_new w).mono ?_
  rintro e w1 ⟨b, rfl, hf1, hr1⟩
  have F1 := hf1.none (S := From w.heap.size)
  have z1 := hf1.size
  have R1 := hr1.mono (S' := From w.heap.size) fun k _ q => q.1
  clear hf1 hr1
  go_wp2_with fail
  refine (wait_push w1 _ b [] (1, 0, 0) 0 rfl R1 (by omega)).mono ?_
  rintro e w2 ⟨rfl, hf2, hr2⟩
  have F2 := F1.trans0 hf2
  have z2 := F2.size
  have R2 := hr2.mono (S' := From w.heap.size) fun k _ q => there1 z1 k q
  clear hf2 hr2
  go_wp2_with fail
  refine (wait_push w2 _ b _ (2, 3, 9) 1 rfl R2 (by omega)).mono ?_
  rintro e w3 ⟨rfl, hf3, hr3⟩
  have F3 := F2.trans0 hf3
  have z3 := F3.size
  have R3 := hr3.mono (S' := From w.heap.size) fun k _ q => there1 z2 k q
  clear hf3 hr3
  go_wp2_with fail
  refine (wait_push w3 _ b _ (1, 1, 0) 2 rfl R3 (by omega)).mono ?_
  rintro e w4 ⟨rfl, hf4, hr4⟩
  have F4 := F3.trans0 hf4
  have R4 := hr4.mono (S' := From w.heap.size) fun k _ q => there1 z3 k q
  clear hf4 hr4
  go_wp2_with fail
  refine (wait_remove w4 _ b _ 1 R4).mono ?_
  rintro e w5 ⟨rfl, hf5, hr5⟩
  have F5 := F4.trans0 hf5
  have R5 : WaitAt w5 (From w.heap.size) b [(2, 3, 9)] := hr5
  have e5 : (([] ++ [(1, 0, 0)] ++ [(2, 3, 9)] ++ [((1, 1, 0) : Wt)]).length - (notT ([] ++ [(1, 0, 0)] ++ [(2, 3, 9)] ++ [((1, 1, 0) : Wt)]) 1).length : Nat) = 2 := rfl
  rw [e5]
  clear hf5 hr5 e5
  go_wp2_with fail
  refine (wait_take_at w5 _ b _ 2 3 0 (2, 3, 9) R5 rfl rfl (fun j hj => by omega)).mono ?_
  rintro e w6 ⟨rfl, hf6, hr6⟩
  have F6 := F5.trans0 hf6
  have R6 : WaitAt w6 (From w.heap.size) b [] := hr6
  clear hf6 hr6
  go_wp2_with fail
  obtain ⟨wv, hwv⟩ : ∃ wv, wv = w6.alloc (.cells #[.int .i64 2, .int .i64 3, .int .i64 9] 46) := ⟨_, rfl⟩
  first | rw [← hwv] | skip
  have hfv : Fr Nob w6 wv := by rw [hwv]; exact (Fr.refl _ _).alloc _
  have v2 : wv.cell? ⟨w6.heap.size, 2, none⟩ = some (.int .i64 9) := by rw [hwv]; exact blk_cell (heap_alloc_new w6 _) 2 rfl
  have Fv := F6.trans0 hfv.none
  have Rv := R6.fr0 hfv
  clear hwv hfv
  refine (wait_pop_none wv _ b Rv).mono ?_
  rintro e w7 ⟨rfl, hf7⟩
  have F7 := Fv.trans0 hf7.none
  have R7 := Rv.fr0 hf7
  have v2 := hf7.cell id v2
  have v2' := ((Fr.refl Nob w7).alloc (.cells #[.int .i64 0, .int .i64 0, .int .i64 0] 46)).cell id v2
  clear hf7
  go_wp2_with fail
  have hf7 : Fr Nob w7 (w7.alloc (.cells #[.int .i64 0, .int .i64 0, .int .i64 0] 46)) := (Fr.refl Nob w7).alloc _
  have F7 := F7.trans0 hf7.none
  have R7 := R7.fr0 hf7
  clear hf7 v2 v2'
  generalize w7.alloc (.cells #[.int .i64 0, .int .i64 0, .int .i64 0] 46) = w7 at *
  refine (wait_len w7 _ b [] 0 rfl R7).mono ?_
  rintro e w8 ⟨rfl, rfl⟩
  go_wp2_with fail
  refine (wait_has w7 _ b [] 2 R7).mono ?_
  rintro e w8 ⟨rfl, hf8⟩
  have e8 : hasT [] 2 = false := rfl
  rw [e8]
  have F8 := F7.trans0 hf8.none
  clear hf8 e8
  go_wp2_with fail
  refine (wait_push_nil w8 (0, 0, 0)).mono ?_
  rintro e w9 ⟨rfl, hf9⟩
  have F9 := F8.trans0 hf9.none
  clear hf9
  go_wp2_with fail
  refine (wait_remove_nil w9 1).mono ?_
  rintro e w10 ⟨rfl, hf10⟩
  have F10 := F9.trans0 hf10.none
  clear hf10
  go_wp2_with fail
  go_ret
  exact ⟨rfl, F10.mono fun k hk q => by unfold From at q; omega⟩
end Go.Proofs.Ytpjkjnejlmmapaa
