/- What out does: a line without one, in a slice of its own. -/
import Derived.Test.YteabiaoklpfbdaaTaskAwake
set_option linter.unusedVariables false
set_option linter.unusedSimpArgs false
namespace Go.Proofs.Yteabiaoklpfbdaa
open Go.RowKit
set_option maxRecDepth 100000
theorem Try.info_int18 : (Try.prog.info? 3).map (fun i => (i.zero, i.size, i.bytes)) = some (some (.int .i64 0), 1, 8) := by kernel_rfl
theorem filter_take (q : List Int) (t : Int) (k : Nat) (hk : k < q.length) : (q.take (k + 1)).filter (· != t) = if q.getD k 0 = t then (q.take k).filter (· != t) else (q.take k).filter (· != t) ++ [q.getD k 0] := by
  rw [List.take_add_one, List.filter_append]
  have : q[k]?.toList = [q.getD k 0] := by simp [List.getD, hk]
  rw [this]
  generalize q.getD k 0 = y
  split
  · next h => simp [h]
  · next h => simp [h]
set_option maxHeartbeats 2000000 in
theorem out_ints (w : World) (T : Nat → Prop) (A0 : Option Addr) (c0 : Nat) (l : List Int) (n : Nat) (hn : l.length = n) (hle : n ≤ 1000) (hs : Sl w T 3 1 (.slice A0 n c0) n (ints l)) (x : Int) :
    Calls Try.prog 13 #[.slice A0 n c0, .int .i64 x] w fun e w' => ∃ (A : Option Addr) (c p : Nat), e = .returned (.slice A p c) ∧ Fr Nob w w' ∧ (l.filter (· != x)).length = p ∧ Sl w' (From w.heap.size) 3 1 (.slice A p c) p (ints (l.filter (· != x))) := by
  have Hs := Lib.hid hs; have Hn := Lib.hid hn
  clear hs hn
  go_enter Try.func13, Try.ntmps13
  go_wp2_with fail
  go_loopw [5, 6] (fun vl i wr => ∃ (f : List Int) (k p : Nat), f = (l.take k).filter (· != x) ∧ f.length = p ∧ p ≤ k ∧ k ≤ n ∧ i = .int .i64 k ∧ ∃ A c, vl = .slice A p c ∧ Fr (From w.heap.size) w wr ∧ Sl wr (From w.heap.size) 3 1 (.slice A p c) p (ints f)) (fun _ i _ => n - (intOf i).toNat)
  case atStart => exact ⟨[], 0, 0, rfl, rfl, Nat.le_refl _, Nat.zero_le _, rfl, none, 0, rfl, Fr.refl _ _, Sl.nil _ _ _ _⟩
  case round =>
    obtain ⟨f, k', p, hfe, hfl, hpk, hkj, rfl, A6, c6, rfl, hfr6, hs6⟩ := hrel
    have hf6 : Fr Nob w wr := hfr6.mono fun k hk q => by unfold From at q; omega
    have Hw6 := Lib.hid (Hs.out.fr hf6 fun _ _ q => q)
    have Hf6 := Lib.hid hf6; have Hfr6 := Lib.hid hfr6; have Hs6 := Lib.hid hs6
    have Hfe := Lib.hid hfe; have Hfl := Lib.hid hfl
    clear hf6 hfr6 hs6 hfe hfl
    by_cases hlt6 : k' < n
    · obtain ⟨gw, ow, cw, hv, hTg, hgw, hcw, hcm, hcell, _⟩ := Hw6.out.form (by omega)
      cases hv
      have hy := hcell k' _ (ints_get (by rw [Hn.out]; exact hlt6))
      have hst := filter_take l x k' (by rw [Hn.out]; exact hlt6)
      rw [← Hfe.out] at hst
      generalize l.getD k' 0 = y at *
      have Hst := Lib.hid hst
      clear hcell hst
      by_cases hyt : y = x
      · subst hyt
        go_wp2_with fail
        go_roundw
        case rel => exact ⟨f, k' + 1, p, by rw [Hst.out, if_pos rfl], Hfl.out, by omega, by omega, by go_num, _, _, rfl, Hfr6.out, Hs6.out⟩
        case measure => simp [intOf]; omega
      · have e1 : (y == x) = false := by simpa using hyt
        go_wp2_with (at_builtin; refine wpList_append1 _ rfl _ _ _ rfl (From w.heap.size) 3 _ 1 8 Try.underlying22 Try.info_int18 rfl (by omega) (.slice A6 p c6) p (ints f) [.int .i64 y] rfl Hs6.out rfl rfl rfl (by omega) (by omega) ?_; intro v3 w3 hs3 hf3 hz3)
        obtain ⟨A3, c3, rfl⟩ := hs3.slice
        have Hs3 : Hid (Sl w3 (From w.heap.size) 3 1 (.slice A3 (p + 1) c3) (p + 1) (ints (f ++ [y]))) := by
          have hz := Hfr6.out.size
          have := hs3.mono (S' := From w.heap.size) (fun k hk q => by rcases q with q | q; exact q; unfold From; omega)
          simpa [ints] using Lib.hid this
        have Hf3 := Lib.hid (Hfr6.out.trans0 hf3)
        clear hs3 hf3 hz3
        go_wp2_with fail
        go_roundw
        case rel => exact ⟨f ++ [y], k' + 1, p + 1, by rw [Hst.out, if_neg hyt], by simp [Hfl.out], by omega, by omega, by go_num, _, _, rfl, Hf3.out, Hs3.out⟩
        case measure => simp [intOf]; omega
    · obtain rfl : k' = n := by omega
      have hfq : f = l.filter (· != x) := by rw [Hfe.out, ← Hn.out, List.take_length]
      have Hfq := Lib.hid hfq
      clear hfq
      go_wp2_with fail
      go_ret
      exact ⟨_, _, _, rfl, Hf6.out, by rw [← Hfq.out]; exact Hfl.out, by rw [← Hfq.out]; exact Hs6.out⟩
/-- A line copied behind nothing, then one more. -/
theorem sl_empty (w : World) : Sl (w.alloc (.cells #[] 3)) (From w.heap.size) 3 1 (.slice (some ⟨w.heap.size, 0, none⟩) 0 0) 0 [] := Sl.lit w 3 1 #[] 0 (From w.heap.size) (by simp [From]) (by simp [maxLen]) rfl
end Go.Proofs.Yteabiaoklpfbdaa
