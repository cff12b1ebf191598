/- What the small functions of a channel do. -/
import Derived.Test.YtdemeghhjnehbaaChan
set_option linter.unusedVariables false
set_option linter.unusedSimpArgs false
namespace Go.Proofs.Ytdemeghhjnehbaa
open Go.RowKit
set_option maxRecDepth 100000
theorem ChP.cells {w : World} {S : Nat → Prop} {b rb qb sb : Nat} {R A B : Nat → Prop} {c : ChS} (h : ChP w S b rb qb sb R A B c) :
    w.cell? ⟨b, 0, none⟩ = some (.pointer (some ⟨rb, 0, none⟩)) ∧ w.cell? ⟨b, 1, none⟩ = some (.pointer (some ⟨qb, 0, none⟩)) ∧ w.cell? ⟨b, 2, none⟩ = some (.pointer (some ⟨sb, 0, none⟩)) ∧ w.cell? ⟨b, 3, none⟩ = some (.bool c.timed) ∧ w.cell? ⟨b, 4, none⟩ = some (.bool c.signal) ∧ w.cell? ⟨b, 5, none⟩ = some (.bool c.closed) :=
  ⟨blk_cell h.blk 0 rfl, blk_cell h.blk 1 rfl, blk_cell h.blk 2 rfl, blk_cell h.blk 3 rfl, blk_cell h.blk 4 rfl, blk_cell h.blk 5 rfl⟩
section
variable (w : World) (S : Nat → Prop) (b : Nat) (c : ChS) (h : ChanAt w S b c)
include h
theorem chan_mute (m : Bool) (hm : c.mute = m) : Calls Try.prog 33 #[.pointer (some ⟨b, 0, none⟩)] w fun e w' => e = .returned (.bool m) ∧ w = w' := by
  obtain ⟨rb, qb, sb, R, A, B, h⟩ := h
  obtain ⟨_, _, _, p3, p4, _⟩ := h.cells
  have hm' : (c.timed || c.signal) = m := hm
  generalize c.timed = t at *
  generalize c.signal = s at *
  clear h hm
  have Hm := Lib.hid hm'
  clear hm'
  cases t with
  | true =>
    go_enter Try.func33, Try.ntmps33
    go_wp2_with fail
    go_ret
    exact ⟨by rw [← Hm.out]; rfl, rfl⟩
  | false =>
    go_enter Try.func33, Try.ntmps33
    go_wp2_with fail
    go_ret
    exact ⟨by rw [← Hm.out]; rfl, rfl⟩
theorem chan_closed (m : Bool) (hm : c.closed = m) : Calls Try.prog 62 #[.pointer (some ⟨b, 0, none⟩)] w fun e w' => e = .returned (.bool m) ∧ w = w' := by
  obtain ⟨rb, qb, sb, R, A, B, h⟩ := h
  obtain ⟨_, _, _, _, _, p5⟩ := h.cells
  rw [hm] at p5
  clear h hm
  go_enter Try.func62, Try.ntmps62
  go_wp2_with fail
  go_ret
  exact ⟨rfl, rfl⟩
theorem chan_len (n : Nat) (hn : c.lenR = n) : Calls Try.prog 17 #[.pointer (some ⟨b, 0, none⟩)] w fun e w' => e = .returned (.int .i64 (n : Int)) ∧ w = w' := by
  obtain ⟨rb, qb, sb, R, A, B, h⟩ := h
  obtain ⟨p0, _, _, p3, _, _⟩ := h.cells
  unfold ChS.lenR at hn
  by_cases ht : c.timed = true
  · rw [if_pos ht] at hn
    subst hn
    rw [ht] at p3
    clear h ht
    go_enter Try.func17, Try.ntmps17
    go_wp2_with fail
    go_ret
    exact ⟨rfl, rfl⟩
  · rw [if_neg ht] at hn
    have ht' : c.timed = false := by simpa using ht
    rw [ht'] at p3
    have Hl := Lib.hid (ring_len_n w R rb c.size c.q h.ring n hn)
    clear h ht ht' hn
    go_enter Try.func17, Try.ntmps17
    go_wp2_with fail
    refine Hl.out.mono ?_
    rintro e _ ⟨rfl, rfl⟩
    go_wp2_with fail
    go_ret
    exact ⟨rfl, rfl⟩
theorem chan_cap (n : Nat) (hn : c.capR = n) : Calls Try.prog 61 #[.pointer (some ⟨b, 0, none⟩)] w fun e w' => e = .returned (.int .i64 (n : Int)) ∧ w = w' := by
  obtain ⟨rb, qb, sb, R, A, B, h⟩ := h
  obtain ⟨p0, _, _, p3, _, _⟩ := h.cells
  unfold ChS.capR at hn
  by_cases ht : c.timed = true
  · rw [if_pos ht] at hn
    subst hn
    rw [ht] at p3
    clear h ht
    go_enter Try.func61, Try.ntmps61
    go_wp2_with fail
    go_ret
    exact ⟨rfl, rfl⟩
  · rw [if_neg ht] at hn
    have ht' : c.timed = false := by simpa using ht
    rw [ht'] at p3
    have hl := ring_size w R rb c.size c.q h.ring
    rw [hn] at hl
    have Hl := Lib.hid hl
    clear h ht ht' hn hl
    go_enter Try.func61, Try.ntmps61
    go_wp2_with fail
    refine Hl.out.mono ?_
    rintro e _ ⟨rfl, rfl⟩
    go_wp2_with fail
    go_ret
    exact ⟨rfl, rfl⟩
end
theorem chan_queue {w : World} {S : Nat → Prop} {b rb qb sb : Nat} {R A B : Nat → Prop} {c : ChS} (h : ChP w S b rb qb sb R A B c) (s : Bool) :
    Calls Try.prog 41 #[.pointer (some ⟨b, 0, none⟩), .bool s] w fun e w' => e = .returned (.pointer (some ⟨if s = true then sb else qb, 0, none⟩)) ∧ w = w' := by
  obtain ⟨_, p1, p2, _, _, _⟩ := h.cells
  clear h
  cases s with
  | true =>
    go_enter Try.func41, Try.ntmps41
    go_wp2_with fail
    go_ret
    exact ⟨rfl, rfl⟩
  | false =>
    go_enter Try.func41, Try.ntmps41
    go_wp2_with fail
    go_ret
    exact ⟨rfl, rfl⟩
section
variable (w : World) (S : Nat → Prop) (b : Nat) (c : ChS) (h : ChanAt w S b c)
include h
theorem chan_free (s f : Bool) (hf : c.free s = f) : Calls Try.prog 67 #[.pointer (some ⟨b, 0, none⟩), .bool s] w fun e w' => e = .returned (.bool f) ∧ ∃ m, w' = w.drewN m := by
  obtain ⟨rb, qb, sb, R, A, B, h⟩ := h
  obtain ⟨p0, _, _, _, _, _⟩ := h.cells
  have hl := fun W m (hw : W = w.drewN m) => ring_len_n W R rb c.size c.q (by rw [hw]; exact h.ring.fr ((Fr.refl Nob w).drewN m) (fun _ _ _ q => q)) c.q.length rfl
  have hz := fun W m (hw : W = w.drewN m) => ring_size W R rb c.size c.q (by rw [hw]; exact h.ring.fr ((Fr.refl Nob w).drewN m) (fun _ _ _ q => q))
  have hlen := h.ring.len
  unfold ChS.free at hf
  generalize c.q.length = n at *
  generalize c.size = sz at *
  have Hl := Lib.hid hl; have Hz := Lib.hid hz
  clear h hl hz
  cases s with
  | true =>
    rw [if_pos rfl] at hf
    have Hf := Lib.hid hf
    clear hf
    go_enter Try.func67, Try.ntmps67
    go_wp2_with fail
    go_quiet ((first | (go_at_call 43; exact Calls.quiet_of_same ((Hl.out _ _ rfl).mono fun e w' h => ⟨h.1, h.2.symm⟩)) | (go_at_call 81; exact Calls.quiet_of_same ((Hz.out _ _ rfl).mono fun e w' h => ⟨h.1, h.2.symm⟩))))
    go_wp2_with fail
    go_ret
    exact ⟨by rw [← Hf.out]; rfl, _, rfl⟩
  | false =>
    rw [if_neg (by simp)] at hf
    have Hf := Lib.hid hf
    clear hf
    go_enter Try.func67, Try.ntmps67
    go_wp2_with fail
    refine (Hl.out w 0 rfl).mono ?_
    rintro e _ ⟨rfl, rfl⟩
    go_wp2_with fail
    go_ret
    exact ⟨by rw [← Hf.out]; rfl, 0, rfl⟩
theorem chan_waiting (s : Bool) (l : List Wt) (n : Nat) (hl : c.queue s = l) (hn : l.length = n) : Calls Try.prog 16 #[.pointer (some ⟨b, 0, none⟩), .bool s] w fun e w' => ∃ v, e = .returned v ∧ Fr Nob w w' ∧ Sl w' (From w.heap.size) 63 3 v n (waits l) := by
  obtain ⟨rb, qb, sb, R, A, B, h⟩ := h
  have hq := chan_queue h s
  have ha : ∃ T : Nat → Prop, WaitAt w T (if s = true then sb else qb) l := by
    subst hl
    unfold ChS.queue
    cases s with
    | true => exact ⟨_, h.send⟩
    | false => exact ⟨_, h.recv⟩
  obtain ⟨T, ha⟩ := ha
  generalize (if s = true then sb else qb) = qq at *
  have Hq := Lib.hid hq; have Ha := Lib.hid (wait_all w T qq l n hn ha)
  clear h hq ha hl hn
  go_enter Try.func16, Try.ntmps16
  go_wp2_with fail
  refine Hq.out.mono ?_
  rintro e _ ⟨rfl, rfl⟩
  go_wp2_with fail
  refine Ha.out.mono ?_
  rintro e w1 ⟨v, rfl, hf, hs⟩
  have Hf := Lib.hid hf; have Hs := Lib.hid hs
  clear hf hs
  go_wp2_with fail
  go_ret
  exact ⟨v, rfl, Hf.out, Hs.out⟩
end
end Go.Proofs.Ytdemeghhjnehbaa
