/- What a channel that is none does. -/
import Derived.Test.YtdemeghhjnehbaaAlikeBoth
set_option linter.unusedVariables false
set_option linter.unusedSimpArgs false
namespace Go.Proofs.Ytdemeghhjnehbaa
open Go.RowKit
set_option maxRecDepth 100000
theorem can_nil (w : World) (s : Bool) : Calls Try.prog 40 #[.pointer none, .bool s] w fun e w' => e = .returned (.bool false) ∧ w = w' := by
  go_enter Try.func40, Try.ntmps40
  go_wp2_with fail
  go_ret
  exact ⟨rfl, rfl⟩
theorem mute_nil (w : World) : Calls Try.prog 33 #[.pointer none] w fun e w' => e = .returned (.bool false) ∧ w = w' := by
  go_enter Try.func33, Try.ntmps33
  go_wp2_with fail
  go_ret
  exact ⟨rfl, rfl⟩
theorem wait_nil (w : World) (x : Wt) (s : Bool) : Calls Try.prog 36 #[.pointer none, wtVal x, .bool s] w fun e w' => e = .returned (.int .i64 6) ∧ Fr Nob w w' := by
  go_enter Try.func36, Try.ntmps36
  go_wp2_with fail
  go_ret
  exact ⟨rfl, by first | exact (Fr.refl _ _).alloc _ | exact Fr.refl _ _⟩
theorem queue_nil (w : World) (s : Bool) : Calls Try.prog 41 #[.pointer none, .bool s] w fun e w' => e = .returned (.pointer none) ∧ w = w' := by
  go_enter Try.func41, Try.ntmps41
  go_wp2_with fail
  go_ret
  exact ⟨rfl, rfl⟩
theorem remove_nil (w : World) (t : Int) : Calls Try.prog 37 #[.pointer none, .int .i64 t] w fun e w' => e = .returned (.int .i64 0) ∧ Fr Nob w w' := by
  have Hq := Lib.hid (fun W s => queue_nil W s)
  have Hr := Lib.hid (fun W => wait_remove_nil W t)
  go_enter Try.func37, Try.ntmps37
  go_wp2_with fail
  refine (Hq.out _ _).mono ?_
  rintro e _ ⟨rfl, rfl⟩
  go_wp2_with fail
  refine (Hr.out _).mono ?_
  rintro e w1 ⟨rfl, hf1⟩
  have Hf1 := Lib.hid hf1
  clear hf1
  go_wp2_with fail
  refine (Hq.out _ _).mono ?_
  rintro e _ ⟨rfl, rfl⟩
  go_wp2_with fail
  refine (Hr.out _).mono ?_
  rintro e w2 ⟨rfl, hf2⟩
  have Hf2 := Lib.hid hf2
  clear hf2
  go_wp2_with fail
  go_ret
  exact ⟨rfl, Hf1.out.trans0 Hf2.out⟩
theorem chan_close_nil (w : World) : Calls Try.prog 18 #[.pointer none] w fun e w' => e = .returned (.tuple #[.slice none 0 0, .int .i64 6]) ∧ w = w' := by
  go_enter Try.func18, Try.ntmps18
  go_wp2_with fail
  go_ret2
  exact ⟨rfl, rfl⟩
section
variable (w : World) (v t : Int) (s : Bool) (y0 y1 y2 : Int)
theorem send_nil : Calls Try.prog 14 #[.pointer none, .int .i64 v] w fun e w' => e = .returned (.tuple #[.bool false, .slice none 0 0, .int .i64 0]) ∧ Fr Nob w w' := by
  go_enter Try.func14, Try.ntmps14
  go_wp2_with fail
  go_ret3
  exact ⟨rfl, by first | exact Fr.refl _ _ | exact (Fr.refl _ _).alloc _⟩
theorem recv_nil : Calls Try.prog 48 #[.pointer none] w fun e w' => e = .returned (.tuple #[.int .i64 0, .bool false, .bool false, .slice none 0 0]) ∧ Fr Nob w w' := by
  go_enter Try.func48, Try.ntmps48
  go_wp2_with fail
  exact bodyPost_ret (v := .tuple #[.int .i64 0, .bool false, .bool false, .slice none 0 0]) (by simp [results, Try.results48, go_sem]) rfl ⟨rfl, by first | exact Fr.refl _ _ | exact (Fr.refl _ _).alloc _⟩
theorem put_nil : Calls Try.prog 53 #[.pointer none, .int .i64 v] w fun e w' => e = .returned (.tuple #[.slice none 0 0, .bool false]) ∧ Fr Nob w w' := by
  go_enter Try.func53, Try.ntmps53
  go_wp2_with fail
  go_ret2
  exact ⟨rfl, by first | exact Fr.refl _ _ | exact (Fr.refl _ _).alloc _⟩
theorem drop_nil : Calls Try.prog 55 #[.pointer none] w fun e w' => e = .returned (.bool false) ∧ Fr Nob w w' := by
  go_enter Try.func55, Try.ntmps55
  go_wp2_with fail
  go_ret
  exact ⟨rfl, by first | exact Fr.refl _ _ | exact (Fr.refl _ _).alloc _⟩
theorem over_nil : Calls Try.prog 57 #[.pointer none] w fun e w' => e = .returned (.slice none 0 0) ∧ Fr Nob w w' := by
  go_enter Try.func57, Try.ntmps57
  go_wp2_with fail
  go_ret
  exact ⟨rfl, by first | exact Fr.refl _ _ | exact (Fr.refl _ _).alloc _⟩
theorem len_nil : Calls Try.prog 17 #[.pointer none] w fun e w' => e = .returned (.int .i64 0) ∧ Fr Nob w w' := by
  go_enter Try.func17, Try.ntmps17
  go_wp2_with fail
  go_ret
  exact ⟨rfl, by first | exact Fr.refl _ _ | exact (Fr.refl _ _).alloc _⟩
theorem cap_nil : Calls Try.prog 61 #[.pointer none] w fun e w' => e = .returned (.int .i64 0) ∧ Fr Nob w w' := by
  go_enter Try.func61, Try.ntmps61
  go_wp2_with fail
  go_ret
  exact ⟨rfl, by first | exact Fr.refl _ _ | exact (Fr.refl _ _).alloc _⟩
theorem closed_nil : Calls Try.prog 62 #[.pointer none] w fun e w' => e = .returned (.bool false) ∧ Fr Nob w w' := by
  go_enter Try.func62, Try.ntmps62
  go_wp2_with fail
  go_ret
  exact ⟨rfl, by first | exact Fr.refl _ _ | exact (Fr.refl _ _).alloc _⟩
theorem all_nil : Calls Try.prog 42 #[.pointer none] w fun e w' => e = .returned (.slice none 0 0) ∧ Fr Nob w w' := by
  go_enter Try.func42, Try.ntmps42
  go_wp2_with fail
  go_ret
  exact ⟨rfl, Fr.refl _ _⟩
theorem waiting_nil : Calls Try.prog 16 #[.pointer none, .bool s] w fun e w' => e = .returned (.slice none 0 0) ∧ Fr Nob w w' := by
  go_enter Try.func16, Try.ntmps16
  go_wp2_with fail
  refine (queue_nil _ _).mono ?_
  rintro e _ ⟨rfl, rfl⟩
  go_wp2_with fail
  refine (all_nil _).mono ?_
  rintro e w2 ⟨rfl, hf⟩
  go_wp2_with fail
  go_ret
  exact ⟨rfl, hf⟩
theorem rsend_nil : Calls Try.prog 47 #[.pointer none, .int .i64 v] w fun e w' => e = .returned (.tuple #[.bool false, .slice none 0 0, .int .i64 0]) ∧ Fr Nob w w' := by
  go_enter Try.func47, Try.ntmps47
  go_wp2_with fail
  go_ret3
  exact ⟨rfl, by first | exact Fr.refl _ _ | exact (Fr.refl _ _).alloc _⟩
theorem rrecv_nil : Calls Try.prog 49 #[.pointer none] w fun e w' => e = .returned (.tuple #[.int .i64 0, .bool false, .bool false, .slice none 0 0]) ∧ Fr Nob w w' := by
  go_enter Try.func49, Try.ntmps49
  go_wp2_with fail
  exact bodyPost_ret (v := .tuple #[.int .i64 0, .bool false, .bool false, .slice none 0 0]) (by simp [results, Try.results49, go_sem]) rfl ⟨rfl, by first | exact Fr.refl _ _ | exact (Fr.refl _ _).alloc _⟩
theorem rclose_nil : Calls Try.prog 50 #[.pointer none] w fun e w' => e = .returned (.tuple #[.slice none 0 0, .int .i64 6]) ∧ Fr Nob w w' := by
  go_enter Try.func50, Try.ntmps50
  go_wp2_with fail
  go_ret2
  exact ⟨rfl, by first | exact Fr.refl _ _ | exact (Fr.refl _ _).alloc _⟩
theorem rwait_nil : Calls Try.prog 51 #[.pointer none, .agg #[.int .i64 y0, .int .i64 y1, .int .i64 y2], .bool s] w fun e w' => e = .returned (.int .i64 6) ∧ Fr Nob w w' := by
  go_enter Try.func51, Try.ntmps51
  go_wp2_with fail
  go_ret
  exact ⟨rfl, by first | exact Fr.refl _ _ | exact (Fr.refl _ _).alloc _⟩
theorem rremove_nil : Calls Try.prog 52 #[.pointer none, .int .i64 t] w fun e w' => e = .returned (.int .i64 0) ∧ Fr Nob w w' := by
  go_enter Try.func52, Try.ntmps52
  go_wp2_with fail
  go_ret
  exact ⟨rfl, by first | exact Fr.refl _ _ | exact (Fr.refl _ _).alloc _⟩
theorem rput_nil : Calls Try.prog 54 #[.pointer none, .int .i64 v] w fun e w' => e = .returned (.tuple #[.slice none 0 0, .bool false]) ∧ Fr Nob w w' := by
  go_enter Try.func54, Try.ntmps54
  go_wp2_with fail
  go_ret2
  exact ⟨rfl, by first | exact Fr.refl _ _ | exact (Fr.refl _ _).alloc _⟩
theorem rdrop_nil : Calls Try.prog 56 #[.pointer none] w fun e w' => e = .returned (.bool false) ∧ Fr Nob w w' := by
  go_enter Try.func56, Try.ntmps56
  go_wp2_with fail
  go_ret
  exact ⟨rfl, by first | exact Fr.refl _ _ | exact (Fr.refl _ _).alloc _⟩
theorem rover_nil : Calls Try.prog 58 #[.pointer none] w fun e w' => e = .returned (.slice none 0 0) ∧ Fr Nob w w' := by
  go_enter Try.func58, Try.ntmps58
  go_wp2_with fail
  go_ret
  exact ⟨rfl, by first | exact Fr.refl _ _ | exact (Fr.refl _ _).alloc _⟩
end
end Go.Proofs.Ytdemeghhjnehbaa
