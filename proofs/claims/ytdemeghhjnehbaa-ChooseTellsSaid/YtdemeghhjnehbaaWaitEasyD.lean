/- The acts on no queue, the acts whose outcome is known, and the closed part of wait's statements: awake answers true, in whatever memory. -/
import Derived.Test.YtdemeghhjnehbaaWaitRemoveD
set_option linter.unusedVariables false
set_option linter.unusedSimpArgs false
namespace Go.Proofs.Ytdemeghhjnehbaa
open Go.RowKit
set_option maxRecDepth 100000

theorem wait_pop_some (w : World) (S : Nat → Prop) (b : Nat) (x : Wt) (q : List Wt) (h : WaitAt w S b (x :: q)) :
    Calls Try.prog 71 #[.pointer (some ⟨b, 0, none⟩)] w fun e w' => e = .returned (.tuple #[wtVal x, .bool true]) ∧ Fr S w w' ∧ WaitAt w' S b q := by
  refine (wait_pop w S b _ h).mono ?_
  rintro e w' (⟨i, y, h1, h2, h3, h4, h5, h6⟩ | ⟨h1, _⟩)
  · cases i with
    | zero => simp at h1; subst h1; exact ⟨h4, h5, by simpa using h6⟩
    | succ i => have := h3 0 (by omega) x rfl; simp at this
  · have := h1 x (List.mem_cons_self ..); simp at this
theorem wait_pop_none (w : World) (S : Nat → Prop) (b : Nat) (h : WaitAt w S b []) :
    Calls Try.prog 71 #[.pointer (some ⟨b, 0, none⟩)] w fun e w' => e = .returned (.tuple #[wtVal (0, 0, 0), .bool false]) ∧ Fr Nob w w' := by
  refine (wait_pop w S b _ h).mono ?_
  rintro e w' (⟨i, y, h1, _⟩ | ⟨_, h2, h3⟩)
  · simp at h1
  · exact ⟨h2, h3⟩
set_option maxHeartbeats 800000 in
theorem wait_take_nil (w : World) (v : Value) :
    Calls Try.prog 83 #[.pointer none, v] w fun e w' => e = .returned (.tuple #[wtVal (0, 0, 0), .bool false]) ∧ Fr Nob w w' := by
  go_enter Try.func83, Try.ntmps83
  go_wp2_with fail
  obtain ⟨w0, hw0⟩ : ∃ w0, w0 = w.alloc (.cells #[.int .i64 0, .int .i64 0, .int .i64 0] 63) := ⟨_, rfl⟩
  rw [← hw0]
  have hr0 : w0.heap[w.heap.size]? = some (.cells #[.int .i64 0, .int .i64 0, .int .i64 0] 63 (0, 0)) := by rw [hw0]; exact heap_alloc_new _ _
  have t0 : w0.cell? ⟨w.heap.size, 0, none⟩ = some (.int .i64 0) := blk_cell hr0 0 rfl
  have t1 : w0.cell? ⟨w.heap.size, 1, none⟩ = some (.int .i64 0) := blk_cell hr0 1 rfl
  have t2 : w0.cell? ⟨w.heap.size, 2, none⟩ = some (.int .i64 0) := blk_cell hr0 2 rfl
  have hf3 : Fr Nob w w0 := by rw [hw0]; exact (Fr.refl Nob w).alloc _
  exact bodyPost_ret (v := .tuple #[wtVal (0, 0, 0), .bool false]) (by simp [results, Try.results83, go_sem, t0, t1, t2]) rfl ⟨rfl, hf3⟩
set_option maxHeartbeats 800000 in
theorem wait_remove_nil (w : World) (t : Int) :
    Calls Try.prog 70 #[.pointer none, .int .i64 t] w fun e w' => e = .returned (.int .i64 0) ∧ Fr Nob w w' := by
  go_enter Try.func70, Try.ntmps70
  go_wp2_with fail
  obtain ⟨w0, hw0⟩ : ∃ w0, w0 = w.alloc (.cells #[.int .i64 t] 3) := ⟨_, rfl⟩
  rw [← hw0]
  have Hf0 : Hid (Fr Nob w w0) := by rw [hw0]; exact (Fr.refl Nob _).alloc _
  clear hw0
  go_loopw [4] (fun c wr => c = .int .i64 0 ∧ wr = w0) (fun _ _ => 0)
  case atStart => exact ⟨rfl, rfl⟩
  case round =>
    obtain ⟨rfl, rfl⟩ := hrel
    go_wp2_with fail
    refine (wait_take_nil wr _).mono ?_
    rintro e w1 ⟨rfl, hf1⟩
    have Hf1 := Lib.hid (Hf0.out.trans0 hf1); clear hf1
    go_wp2_with fail
    go_ret
    exact ⟨rfl, Hf1.out.alloc _⟩

theorem there1 {B : Nat} {w w' : World} (hz : B ≤ w.heap.size) : ∀ k, And' (From B) w w' k → From B k := fun k q => by
  rcases q with q | q
  · exact q
  · unfold From; omega
end Go.Proofs.Ytdemeghhjnehbaa
