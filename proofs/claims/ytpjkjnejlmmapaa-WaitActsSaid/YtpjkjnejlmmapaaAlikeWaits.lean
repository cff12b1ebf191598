/- What tarpaulinalike.Waits does at two lists that read alike. -/
import Derived.Test.YtpjkjnejlmmapaaWaitMore
import Derived.Test.YtpjkjnejlmmapaaAlike
set_option linter.unusedVariables false
set_option linter.unusedSimpArgs false
namespace Go.Proofs.Ytpjkjnejlmmapaa
open Go.RowKit
set_option maxRecDepth 100000
theorem waits_at (l : List Wt) (k : Nat) (h : k < l.length) : ∃ x y z : Int, (waits l)[k * 3]? = some (.int .i64 x) ∧ (waits l)[k * 3 + 1]? = some (.int .i64 y) ∧ (waits l)[k * 3 + 2]? = some (.int .i64 z) ∧ l[k]? = some (x, y, z) := by
  have h0 : l[k]? = some l[k] := by simp [h]
  exact ⟨_, _, _, flat_get3 l k 0 _ h0 (by omega), flat_get3 l k 1 _ h0 (by omega), flat_get3 l k 2 _ h0 (by omega), h0⟩
set_option maxHeartbeats 1000000 in
/-- Two lists of who waits that read alike: true. -/
theorem alike_waits (w : World) (va vb : Value) (l : List Wt) (n : Nat) (hn : l.length = n) (ha : Rd w 3 va n (waits l)) (hb : Rd w 3 vb n (waits l)) :
    Calls Try.prog 32 #[va, vb] w fun e w' => e = .returned (.bool true) ∧ ∃ m, w' = w.drewN m := by
  obtain ⟨_, hl, A, ca, rfl, hca, hca2, hA⟩ := ha
  obtain ⟨_, _, B, cb, rfl, hcb, hcb2, hB⟩ := hb
  unfold maxLen at hl
  have Hn := Lib.hid hn; clear hn
  have hnn : ((n : Int) != n) = false := by simp
  have HA := Lib.hid hA; have HB := Lib.hid hB; clear hA hB
  go_enter Try.func32, Try.ntmps32
  go_wp2
  go_loopw [5] (fun i wr => ∃ k m : Nat, k ≤ n ∧ i = .int .i64 k ∧ wr = w.drewN m) (fun i _ => n - (intOf i).toNat)
  case atStart => exact ⟨0, 0, Nat.zero_le _, rfl, rfl⟩
  case round =>
    obtain ⟨k, m, hk, rfl, rfl⟩ := hrel
    by_cases hlt : k < n
    · obtain ⟨g, o, rfl, hg, hc⟩ := HA.out (by omega)
      obtain ⟨g2, o2, rfl, hg2, hc2⟩ := HB.out (by omega)
      obtain ⟨x, y, z, q0, q1, q2, _⟩ := waits_at l k (by rw [Hn.out]; exact hlt)
      have a0 := hc _ _ q0
      have a1 := hc _ _ q1
      have a2 := hc _ _ q2
      have b0 := hc2 _ _ q0
      have b1 := hc2 _ _ q1
      have b2 := hc2 _ _ q2
      rw [← Nat.add_assoc] at a1 a2 b1 b2
      have hki : (k : Int) < n := by omega
      have hk0 : (0 : Int) ≤ k := by omega
      clear hc hc2 q0 q1 q2
      go_wp2
      go_quiet (fail)
      go_wp2
      go_roundw
      case rel => exact ⟨k + 1, m + nq, by omega, by go_num, rfl⟩
      case measure => simp [intOf]; omega
    · go_wp2
      go_ret
      exact ⟨rfl, _, rfl⟩
end Go.Proofs.Ytpjkjnejlmmapaa
