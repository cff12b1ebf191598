/- What makes a channel: New, Timed, Signal; and what each act does to no channel. -/
import Derived.Test.YtdemeghhjnehbaaChanSmall
set_option linter.unusedVariables false
set_option linter.unusedSimpArgs false
namespace Go.Proofs.Ytdemeghhjnehbaa
open Go.RowKit
set_option maxRecDepth 100000
abbrev chNew (size : Nat) : ChS := ⟨size, [], [], [], false, false, false⟩
abbrev chTimed : ChS := ⟨1, [], [], [], true, false, false⟩
abbrev chSignal : ChS := ⟨0, [], [], [], false, true, false⟩
def NewP (w : World) (c : ChS) (e : Ending) (w' : World) : Prop := ∃ (b : Nat) (S : Nat → Prop), e = .returned (.tuple #[.pointer (some ⟨b, 0, none⟩), .int .i64 0]) ∧ Fr Nob w w' ∧ ChanAt w' S b c ∧ ∀ k, S k → w.heap.size ≤ k
def MadeP (w : World) (c : ChS) (e : Ending) (w' : World) : Prop := ∃ (b : Nat) (S : Nat → Prop), e = .returned (.pointer (some ⟨b, 0, none⟩)) ∧ Fr Nob w w' ∧ ChanAt w' S b c ∧ ∀ k, S k → w.heap.size ≤ k
theorem chan_new (w : World) (size : Nat) (hs : size ≤ 64) : Calls Try.prog 10 #[.int .i64 (size : Int)] w (NewP w (chNew size)) := by
  have H := Lib.hid (ring_new_good size w hs)
  have Hw := Lib.hid (fun W => wait_new W)
  go_enter Try.func10, Try.ntmps10
  go_wp2_with fail
  refine H.out.mono ?_
  rintro e w1 ⟨rb, rfl, hf1, hr1⟩
  have Hf1 := Lib.hid hf1; have Hr1 := Lib.hid hr1
  clear hf1 hr1
  go_wp2_with fail
  refine (Hw.out w1).mono ?_
  rintro e w2 ⟨qb, rfl, hf2, hq2⟩
  have Hf2 := Lib.hid hf2; have Hq2 := Lib.hid hq2
  clear hf2 hq2
  go_wp2_with fail
  refine (Hw.out w2).mono ?_
  rintro e w3 ⟨sb, rfl, hf3, hq3⟩
  have Hf3 := Lib.hid hf3; have Hq3 := Lib.hid hq3
  clear hf3 hq3
  go_wp2_with fail
  go_ret2
  have hfa : Fr Nob w3 (w3.alloc (.cells #[.pointer (some ⟨rb, 0, none⟩), .pointer (some ⟨qb, 0, none⟩), .pointer (some ⟨sb, 0, none⟩), .bool false, .bool false, .bool false] 85)) := (Fr.refl _ _).alloc _
  have z1 := Hf1.out.size; have z2 := Hf2.out.size; have z3 := Hf3.out.size
  refine ⟨w3.heap.size, fun k => w.heap.size ≤ k ∧ k < w3.heap.size + 1, rfl, ((Hf1.out.trans0 Hf2.out).trans0 Hf3.out).trans0 hfa, ⟨rb, qb, sb, (fun k => w.heap.size ≤ k ∧ k < w1.heap.size), (fun k => w1.heap.size ≤ k ∧ k < w2.heap.size), (fun k => w2.heap.size ≤ k ∧ k < w3.heap.size), ?_⟩, fun k q => q.1⟩
  refine ⟨⟨by omega, by omega⟩, fun k q => by simp; omega, fun k q => ⟨⟨by omega, by omega⟩, by omega⟩, fun k q => ⟨⟨by omega, by omega⟩, by omega, by omega⟩, fun k q => ⟨⟨by omega, by omega⟩, by omega, by omega, by omega⟩, heap_alloc_new _ _, ?_, ?_, ?_⟩
  · exact (Hr1.out.mono (S' := fun k => w.heap.size ≤ k ∧ k < w1.heap.size) fun k hk q => ⟨q, hk⟩).fr ((Hf2.out.trans0 Hf3.out).trans0 hfa) fun _ _ _ q => q
  · exact Hq2.out.fr0 (Hf3.out.trans0 hfa)
  · exact Hq3.out.fr0 hfa
theorem chan_new_bad (w : World) (size : Int) (hs : size < 0 ∨ 64 < size) : Calls Try.prog 10 #[.int .i64 size] w fun e w' => e = .returned (.tuple #[.pointer none, .int .i64 1]) ∧ w = w' := by
  have H := Lib.hid (ring_new_bad size w hs)
  clear hs
  go_enter Try.func10, Try.ntmps10
  go_wp2_with fail
  refine H.out.mono ?_
  rintro e _ ⟨rfl, rfl⟩
  go_wp2_with fail
  go_ret2
  exact ⟨rfl, rfl⟩
theorem ChP.settle {w : World} {S : Nat → Prop} {b rb qb sb : Nat} {R A B : Nat → Prop} {c c' : ChS} (h : ChP w S b rb qb sb R A B c) (o : Nat) (v : Value) (hq : c'.q = c.q) (hs : c'.size = c.size) (hr : c'.rv = c.rv) (hd : c'.sd = c.sd)
    (ho : (#[.pointer (some ⟨rb, 0, none⟩), .pointer (some ⟨qb, 0, none⟩), .pointer (some ⟨sb, 0, none⟩), .bool c.timed, .bool c.signal, .bool c.closed] : Array Value).setIfInBounds o v = #[.pointer (some ⟨rb, 0, none⟩), .pointer (some ⟨qb, 0, none⟩), .pointer (some ⟨sb, 0, none⟩), .bool c'.timed, .bool c'.signal, .bool c'.closed]) : ChP (w.setCell ⟨b, o, none⟩ v) S b rb qb sb R A B c' := by
  have hf : Fr (fun k => k = b) w (w.setCell ⟨b, o, none⟩ v) := (Fr.refl (fun k => k = b) w).setCell (p := ⟨b, o, none⟩) (.inl rfl) _
  refine ⟨h.own, fun k q => by have := h.lt k q; have := hf.size; omega, h.subR, h.subA, h.subB, ?_, ?_, ?_, ?_⟩
  · have := blk_set h.blk o v
    rw [this, ho]; rfl
  · rw [hq, hs]; exact h.ring.fr hf fun k _ q e => (h.subR k q).2 e
  · rw [hr]; exact h.recv.fr hf fun k q e => (h.subA k q).2.1 e
  · rw [hd]; exact h.send.fr hf fun k q e => (h.subB k q).2.1 e
theorem chan_timed (w : World) : Calls Try.prog 28 #[] w (MadeP w chTimed) := by
  have H := Lib.hid (chan_new w 1 (by omega))
  go_enter Try.func28, Try.ntmps28
  go_wp2_with fail
  refine H.out.mono ?_
  rintro e w1 ⟨b, S, rfl, hf1, ⟨rb, qb, sb, R, A, B, hc1⟩, hS⟩
  obtain ⟨_, _, _, p3, _, _⟩ := hc1.cells
  have f3 := blk_froz hc1.blk 3
  have Hf1 := Lib.hid hf1; have Hc1 := Lib.hid hc1; have HS := Lib.hid hS
  clear hf1 hc1 hS
  go_wp2_with fail
  go_ret
  exact ⟨b, S, rfl, Hf1.out.setCell (p := ⟨b, 3, none⟩) (.inr (HS.out b Hc1.out.own)) _, ⟨rb, qb, sb, R, A, B, Hc1.out.settle (c' := chTimed) 3 _ rfl rfl rfl rfl rfl⟩, HS.out⟩
theorem chan_signal (w : World) : Calls Try.prog 46 #[] w (MadeP w chSignal) := by
  have H := Lib.hid (chan_new w 0 (by omega))
  go_enter Try.func46, Try.ntmps46
  go_wp2_with fail
  refine H.out.mono ?_
  rintro e w1 ⟨b, S, rfl, hf1, ⟨rb, qb, sb, R, A, B, hc1⟩, hS⟩
  obtain ⟨_, _, _, _, p4, _⟩ := hc1.cells
  have f4 := blk_froz hc1.blk 4
  have Hf1 := Lib.hid hf1; have Hc1 := Lib.hid hc1; have HS := Lib.hid hS
  clear hf1 hc1 hS
  go_wp2_with fail
  go_ret
  exact ⟨b, S, rfl, Hf1.out.setCell (p := ⟨b, 4, none⟩) (.inr (HS.out b Hc1.out.own)) _, ⟨rb, qb, sb, R, A, B, Hc1.out.settle (c' := chSignal) 4 _ rfl rfl rfl rfl rfl⟩, HS.out⟩
end Go.Proofs.Ytdemeghhjnehbaa
