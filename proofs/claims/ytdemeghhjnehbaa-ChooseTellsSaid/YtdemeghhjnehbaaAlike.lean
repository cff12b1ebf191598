/- What the functions of package tarpaulinalike do. -/
import Derived.Test.YtdemeghhjnehbaaProg
import Derived.Test.YtdemeghhjnehbaaBase
set_option linter.unusedVariables false
set_option linter.unusedSimpArgs false
namespace Go.Proofs.Ytdemeghhjnehbaa
open Go.RowKit
set_option maxRecDepth 100000

/-- Two lists of whole numbers that read alike: true. -/
theorem alike_ints (w : World) (va vb : Value) (l : List Int) (ha : Rd w 1 va l.length (ints l)) (hb : Rd w 1 vb l.length (ints l)) :
    Calls Try.prog 22 #[va, vb] w fun e w' => e = .returned (.bool true) ∧ ∃ m, w' = w.drewN m := by
  obtain ⟨_, hl, A, ca, rfl, hca, hca2, hA⟩ := ha
  obtain ⟨_, _, B, cb, rfl, hcb, hcb2, hB⟩ := hb
  unfold maxLen at hl
  generalize hn : l.length = n at *
  have Hn := Lib.hid hn; clear hn
  have hnn : ((n : Int) != n) = false := by simp
  have HA := Lib.hid hA; have HB := Lib.hid hB; clear hA hB
  go_enter Try.func22, Try.ntmps22
  go_wp2
  go_loopw [5] (fun i wr => ∃ k m : Nat, k ≤ n ∧ i = .int .i64 k ∧ wr = w.drewN m) (fun i _ => n - (intOf i).toNat)
  case atStart => exact ⟨0, 0, Nat.zero_le _, rfl, rfl⟩
  case round =>
    obtain ⟨k, m, hk, rfl, rfl⟩ := hrel
    by_cases hlt : k < n
    · obtain ⟨g, o, rfl, hg, hc⟩ := HA.out (by omega)
      obtain ⟨g2, o2, rfl, hg2, hc2⟩ := HB.out (by omega)
      have h1 := hc k _ (ints_get (by rw [Hn.out]; exact hlt))
      have h2 := hc2 k _ (ints_get (by rw [Hn.out]; exact hlt))
      clear hc hc2
      generalize l.getD k 0 = x at *
      have hxx : (x != x) = false := by simp
      have hki : (k : Int) < (n : Int) := by omega
      go_wp2
      go_quiet (fail)
      go_wp2
      go_roundw
      case rel => exact ⟨k + 1, m + nq, by omega, by go_num, rfl⟩
      case measure => simp [intOf]; omega
    · go_wp2
      go_ret
      exact ⟨rfl, _, rfl⟩

theorem alike_ints_n (w : World) (va vb : Value) (l : List Int) (n : Nat) (hn : l.length = n) (ha : Rd w 1 va n (ints l)) (hb : Rd w 1 vb n (ints l)) :
    Calls Try.prog 22 #[va, vb] w fun e w' => e = .returned (.bool true) ∧ ∃ m, w' = w.drewN m := by
  subst hn; exact alike_ints w va vb l ha hb
theorem rnd_eq (k n : Int) (h : 0 < n) : (k.tmod n + n).tmod n = k % n := by
  have h1 := Int.emod_nonneg k (show n ≠ 0 by omega)
  have h2 := Int.emod_lt_of_pos k h
  by_cases hk : 0 ≤ k
  · rw [Int.tmod_eq_emod_of_nonneg hk, Int.tmod_eq_emod_of_nonneg (by omega), Int.add_emod_right, Int.emod_emod]
  · have h3 := Int.tmod_lt_of_pos k h
    have h4 := Int.lt_tmod_of_pos k h
    rw [Int.tmod_eq_emod_of_nonneg (by omega), Int.add_emod_right]
    rw [Int.tmod_eq_emod]
    split
    · simp
    · rw [Int.natAbs_of_nonneg (by omega), Int.sub_emod_right, Int.emod_emod]
/-- A number from 0 to ahead of n. -/
theorem alike_round (w : World) (k n : Int) (h : 0 < n) (hn : n ≤ 4611686018427387904) :
    Calls Try.prog 12 #[.int .i64 k, .int .i64 n] w fun e w' => e = .returned (.int .i64 (k % n)) ∧ w = w' := by
  have h1 := rnd_eq k n h
  have h3 := Int.tmod_lt_of_pos k h
  have h4 := Int.lt_tmod_of_pos k h
  have h5 := Int.emod_nonneg k (show n ≠ 0 by omega)
  have h6 := Int.emod_lt_of_pos k h
  have h7 : wrap64 (k.tmod n + n) = k.tmod n + n := by unfold wrap64; omega
  have H1 := Lib.hid h1; clear h1 h3 h4 h5 h6
  have H7 := Lib.hid h7; clear h7
  go_enter Try.func12, Try.ntmps12
  go_wp2
  go_ret
  refine ⟨?_, rfl⟩
  show Ending.returned (.int .i64 ((wrap64 (k.tmod n + n)).tmod n)) = _
  rw [H7.out, H1.out]
end Go.Proofs.Ytdemeghhjnehbaa
