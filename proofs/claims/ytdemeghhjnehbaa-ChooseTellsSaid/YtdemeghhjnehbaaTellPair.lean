/- What pair of the channels' statements does: a channel, and the document's own; and any act on both. -/
import Derived.Test.YtdemeghhjnehbaaTellShows
import Derived.Test.YtdemeghhjnehbaaRound
set_option linter.unusedVariables false
set_option linter.unusedSimpArgs false
namespace Go.Proofs.Ytdemeghhjnehbaa
open Go.RowKit
set_option maxRecDepth 100000
theorem ref_lit (w : World) (c : ChS) (hq : c.q = []) (hs : c.sd = []) (hr : c.rv = []) : RefAt (w.alloc (.cells #[.int .i64 (c.size : Int), .bool c.timed, .bool c.signal, .bool c.closed, .slice none 0 0, .slice none 0 0, .slice none 0 0] 100)) (fun k => k = w.heap.size) w.heap.size c :=
  ⟨_, _, _, rfl, fun k q => by simp; omega, heap_alloc_new _ _, by rw [hq]; exact Sl.nil _ _ _ _, by rw [hs]; exact Sl.nil _ _ _ _, by rw [hr]; exact Sl.nil _ _ _ _⟩
theorem both_new {w w1 w2 : World} {S T : Nat → Prop} {b m : Nat} {c : ChS} (hf1 : Fr Nob w w1) (hc : ChanAt w1 S b c) (hS : ∀ k, S k → w.heap.size ≤ k) (hf2 : Fr Nob w1 w2) (hr : RefAt w2 T m c) (hT : ∀ k, T k → w1.heap.size ≤ k) : Both w w2 b m c :=
  ⟨S, T, hc.fr0 hf2, hr, hS, fun k q => by have := hT k q; have := hf1.size; omega, fun k q r => by have := hc.lt k q; have := hT k r; omega, hf1.trans0 hf2⟩
def PairP (w : World) (e : Ending) (w' : World) : Prop := (e = .returned (.tuple #[.pointer none, .pointer none]) ∧ Fr Nob w w') ∨ ∃ (b m : Nat) (c : ChS), e = .returned (.tuple #[.pointer (some ⟨b, 0, none⟩), .pointer (some ⟨m, 0, none⟩)]) ∧ Both w w' b m c ∧ c.rv = [] ∧ c.sd = []
set_option maxHeartbeats 1000000 in
theorem pair_any (w : World) (kind size : Int) : Calls Try.prog 19 #[.int .i64 kind, .int .i64 size] w (PairP w) := by
  have hk : kind % 4 = 0 ∨ kind % 4 = 1 ∨ kind % 4 = 2 ∨ kind % 4 = 3 := by omega
  go_enter Try.func19, Try.ntmps19
  go_wp2_with fail
  refine (alike_round w kind 4 (by omega) (by omega)).mono ?_
  rintro e _ ⟨rfl, rfl⟩
  generalize kind % 4 = kk at *
  rcases hk with rfl | rfl | rfl | rfl
  · by_cases hs : size < 0 ∨ 64 < size
    · go_wp2_with fail
      refine (chan_new_bad w size hs).mono ?_
      rintro e _ ⟨rfl, rfl⟩
      by_cases h0 : size < 0
      · have d0 : decide (size < 0) = true := decide_eq_true h0
        clear hs
        go_wp2_with fail
        go_ret2
        exact .inl ⟨rfl, Fr.refl _ _⟩
      · have h1 : (64 : Int) < size := by omega
        have d0 : decide (size < 0) = false := decide_eq_false h0
        have d1 : decide ((64 : Int) < size) = true := decide_eq_true h1
        clear hs
        go_wp2_with fail
        go_ret2
        exact .inl ⟨rfl, Fr.refl _ _⟩
    · obtain ⟨n, rfl⟩ := Int.eq_ofNat_of_zero_le (show 0 ≤ size by omega)
      have hn : n ≤ 64 := by omega
      have h0 : ¬ (n : Int) < 0 := by omega
      have h1 : ¬ (64 : Int) < n := by omega
      have d0 : decide ((n : Int) < 0) = false := decide_eq_false h0
      have d1 : decide ((64 : Int) < n) = false := decide_eq_false h1
      clear hs
      go_wp2_with fail
      refine (chan_new w n hn).mono ?_
      rintro e w1 ⟨b, S, rfl, hf1, hc1, hS1⟩
      have Hf1 := Lib.hid hf1; have Hc1 := Lib.hid hc1; have HS1 := Lib.hid hS1
      clear hf1 hc1 hS1
      go_wp2_with fail
      go_ret2
      exact .inr ⟨b, w1.heap.size, chNew n, rfl, both_new Hf1.out Hc1.out HS1.out ((Fr.refl Nob w1).alloc _) (ref_lit w1 (chNew n) rfl rfl rfl) (fun k q => by omega), rfl, rfl⟩
  · go_wp2_with fail
    refine (chan_timed w).mono ?_
    rintro e w1 ⟨b, S, rfl, hf1, hc1, hS1⟩
    have Hf1 := Lib.hid hf1; have Hc1 := Lib.hid hc1; have HS1 := Lib.hid hS1
    clear hf1 hc1 hS1
    go_wp2_with fail
    refine (ref_timed w1).mono ?_
    rintro e w2 ⟨m, T, rfl, hf2, hr2, hT2⟩
    have Hb := Lib.hid (both_new Hf1.out Hc1.out HS1.out hf2 hr2 hT2)
    clear hf2 hr2 hT2
    go_wp2_with fail
    go_ret2
    exact .inr ⟨b, m, chTimed, rfl, Hb.out, rfl, rfl⟩
  · go_wp2_with fail
    refine (chan_signal w).mono ?_
    rintro e w1 ⟨b, S, rfl, hf1, hc1, hS1⟩
    have Hf1 := Lib.hid hf1; have Hc1 := Lib.hid hc1; have HS1 := Lib.hid hS1
    clear hf1 hc1 hS1
    go_wp2_with fail
    go_ret2
    exact .inr ⟨b, w1.heap.size, chSignal, rfl, both_new Hf1.out Hc1.out HS1.out ((Fr.refl Nob w1).alloc _) (ref_lit w1 chSignal rfl rfl rfl) (fun k q => by omega), rfl, rfl⟩
  · go_wp2_with fail
    go_ret2
    exact .inl ⟨rfl, Fr.refl _ _⟩
theorem nine (kd : Int) : kd = 1 ∨ kd = 2 ∨ kd = 3 ∨ kd = 4 ∨ kd = 5 ∨ kd = 6 ∨ kd = 7 ∨ kd = 8 ∨ ((kd == 1) = false ∧ (kd == 2) = false ∧ (kd == 3) = false ∧ (kd == 4) = false ∧ (kd == 5) = false ∧ (kd == 6) = false ∧ (kd == 7) = false ∧ (kd == 8) = false) := by simp; omega
theorem does_any {w0 w : World} {b m : Nat} {c : ChS} (h : Both w0 w b m c) (hfew : c.Few) (kd v : Int) (y0 y1 y2 : Int) (s : Bool) :
    Calls Try.prog 20 #[.pointer (some ⟨b, 0, none⟩), .pointer (some ⟨m, 0, none⟩), .agg #[.int .i64 kd, .int .i64 v, .int .i64 y0, .int .i64 y1, .int .i64 y2, .bool s]] w (Done w0 b m c) := by
  rcases nine kd with rfl | rfl | rfl | rfl | rfl | rfl | rfl | rfl | ⟨n1, n2, n3, n4, n5, n6, n7, n8⟩
  · exact does_1 h hfew v y0 y1 y2 s
  · exact does_2 h hfew v y0 y1 y2 s
  · exact does_3 h hfew v y0 y1 y2 s
  · exact does_4 h hfew v y0 y1 y2 s
  · exact does_5 h hfew v y0 y1 y2 s
  · exact does_6 h hfew v y0 y1 y2 s
  · exact does_7 h hfew v y0 y1 y2 s
  · exact does_8 h hfew v y0 y1 y2 s
  · exact does_0 h hfew kd v n1 n2 n3 n4 n5 n6 n7 n8 y0 y1 y2 s
theorem doesn_any (w : World) (kd v : Int) (y0 y1 y2 : Int) (s : Bool) :
    Calls Try.prog 20 #[.pointer none, .pointer none, .agg #[.int .i64 kd, .int .i64 v, .int .i64 y0, .int .i64 y1, .int .i64 y2, .bool s]] w fun e w' => e = .returned (.bool true) ∧ Fr Nob w w' := by
  rcases nine kd with rfl | rfl | rfl | rfl | rfl | rfl | rfl | rfl | ⟨n1, n2, n3, n4, n5, n6, n7, n8⟩
  · exact doesn_1 w v y0 y1 y2 s
  · exact doesn_2 w v y0 y1 y2 s
  · exact doesn_3 w v y0 y1 y2 s
  · exact doesn_4 w v y0 y1 y2 s
  · exact doesn_5 w v y0 y1 y2 s
  · exact doesn_6 w v y0 y1 y2 s
  · exact doesn_7 w v y0 y1 y2 s
  · exact doesn_8 w v y0 y1 y2 s
  · exact doesn_0 w kd n1 n2 n3 n4 n5 n6 n7 n8 v y0 y1 y2 s
theorem Both.few {w0 w : World} {b m : Nat} {c : ChS} (h : Both w0 w b m c) {j : Nat} (h1 : c.rv.length ≤ j) (h2 : c.sd.length ≤ j) (hj : j ≤ 100) : c.Few := by
  obtain ⟨S, T, hc, _⟩ := h
  have := hc.qlen
  exact ⟨by omega, by omega, by omega⟩
end Go.Proofs.Ytdemeghhjnehbaa
