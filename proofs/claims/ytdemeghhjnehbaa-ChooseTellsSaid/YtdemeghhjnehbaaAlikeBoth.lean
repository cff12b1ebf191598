/- What tarpaulinalike.Waits and Wakes do at two lists that read alike. -/
import Derived.Test.YtdemeghhjnehbaaWaitMoreD
import Derived.Test.YtdemeghhjnehbaaRefShut
set_option linter.unusedVariables false
set_option linter.unusedSimpArgs false
namespace Go.Proofs.Ytdemeghhjnehbaa
open Go.RowKit
set_option maxRecDepth 100000
theorem waits_at (l : List Wt) (k : Nat) (h : k < l.length) : ∃ x y z : Int, (waits l)[k * 3]? = some (.int .i64 x) ∧ (waits l)[k * 3 + 1]? = some (.int .i64 y) ∧ (waits l)[k * 3 + 2]? = some (.int .i64 z) ∧ l[k]? = some (x, y, z) := by
  have h0 : l[k]? = some l[k] := by simp [h]
  exact ⟨_, _, _, flat_get3 l k 0 _ h0 (by omega), flat_get3 l k 1 _ h0 (by omega), flat_get3 l k 2 _ h0 (by omega), h0⟩
set_option maxHeartbeats 1000000 in
/-- Two lists of who waits that read alike: true. -/
theorem alike_waits (w : World) (va vb : Value) (l : List Wt) (n : Nat) (hn : l.length = n) (ha : Rd w 3 va n (waits l)) (hb : Rd w 3 vb n (waits l)) :
    Calls Try.prog 65 #[va, vb] w fun e w' => e = .returned (.bool true) ∧ ∃ m, w' = w.drewN m := by
  obtain ⟨_, hl, A, ca, rfl, hca, hca2, hA⟩ := ha
  obtain ⟨_, _, B, cb, rfl, hcb, hcb2, hB⟩ := hb
  unfold maxLen at hl
  have Hn := Lib.hid hn; clear hn
  have hnn : ((n : Int) != n) = false := by simp
  have HA := Lib.hid hA; have HB := Lib.hid hB; clear hA hB
  go_enter Try.func65, Try.ntmps65
  go_wp2
  go_loopw [5] (fun i wr => ∃ k m : Nat, k ≤ n ∧ i = .int .i64 k ∧ wr = w.drewN m) (fun i _ => n - (intOf i).toNat)
  case atStart => exact ⟨0, 0, Nat.zero_le _, rfl, rfl⟩
  case round =>
    obtain ⟨k, m, hk, rfl, rfl⟩ := hrel
    by_cases hlt : k < n
    · obtain ⟨g, o, rfl, hg, hc⟩ := HA.out (by omega)
      obtain ⟨g2, o2, rfl, hg2, hc2⟩ := HB.out (by omega)
      obtain ⟨x, y, z, q0, q1, q2, _⟩ := waits_at l k (by rw [Hn.out]; exact hlt)
      have a0 := hc _ _ q0
      have a1 := hc _ _ q1
      have a2 := hc _ _ q2
      have b0 := hc2 _ _ q0
      have b1 := hc2 _ _ q1
      have b2 := hc2 _ _ q2
      rw [← Nat.add_assoc] at a1 a2 b1 b2
      have hki : (k : Int) < n := by omega
      have hk0 : (0 : Int) ≤ k := by omega
      clear hc hc2 q0 q1 q2
      go_wp2
      go_quiet (fail)
      go_wp2
      go_roundw
      case rel => exact ⟨k + 1, m + nq, by omega, by go_num, rfl⟩
      case measure => simp [intOf]; omega
    · go_wp2
      go_ret
      exact ⟨rfl, _, rfl⟩
theorem wakes_at (l : List Wk) (k : Nat) (h : k < l.length) : ∃ (x y z : Int) (p q : Bool), (wks l)[k * 5]? = some (.int .i64 x) ∧ (wks l)[k * 5 + 1]? = some (.int .i64 y) ∧ (wks l)[k * 5 + 2]? = some (.int .i64 z) ∧ (wks l)[k * 5 + 3]? = some (.bool p) ∧ (wks l)[k * 5 + 4]? = some (.bool q) := by
  have h0 : l[k]? = some l[k] := by simp [h]
  have g := fun j (hj : j < 5) => rowsGet wkEn (fun _ => rfl) l k j l[k] h0 hj
  exact ⟨_, _, _, _, _, (g 0 (by omega)).trans rfl, (g 1 (by omega)).trans rfl, (g 2 (by omega)).trans rfl, (g 3 (by omega)).trans rfl, (g 4 (by omega)).trans rfl⟩
set_option maxHeartbeats 1000000 in
/-- Two lists of who waits that read alike: true. -/
theorem alike_wakes (w : World) (va vb : Value) (l : List Wk) (n : Nat) (hn : l.length = n) (ha : Rd w 5 va n (wks l)) (hb : Rd w 5 vb n (wks l)) :
    Calls Try.prog 25 #[va, vb] w fun e w' => e = .returned (.bool true) ∧ ∃ m, w' = w.drewN m := by
  obtain ⟨_, hl, A, ca, rfl, hca, hca2, hA⟩ := ha
  obtain ⟨_, _, B, cb, rfl, hcb, hcb2, hB⟩ := hb
  unfold maxLen at hl
  have Hn := Lib.hid hn; clear hn
  have hnn : ((n : Int) != n) = false := by simp
  have HA := Lib.hid hA; have HB := Lib.hid hB; clear hA hB
  go_enter Try.func25, Try.ntmps25
  go_wp2
  go_loopw [5] (fun i wr => ∃ k m : Nat, k ≤ n ∧ i = .int .i64 k ∧ wr = w.drewN m) (fun i _ => n - (intOf i).toNat)
  case atStart => exact ⟨0, 0, Nat.zero_le _, rfl, rfl⟩
  case round =>
    obtain ⟨k, m, hk, rfl, rfl⟩ := hrel
    by_cases hlt : k < n
    · obtain ⟨g, o, rfl, hg, hc⟩ := HA.out (by omega)
      obtain ⟨g2, o2, rfl, hg2, hc2⟩ := HB.out (by omega)
      obtain ⟨x, y, z, bp, bq, q0, q1, q2, q3, q4⟩ := wakes_at l k (by rw [Hn.out]; exact hlt)
      have a0 := hc _ _ q0
      have a1 := hc _ _ q1
      have a2 := hc _ _ q2
      have a3 := hc _ _ q3
      have a4 := hc _ _ q4
      have b0 := hc2 _ _ q0
      have b1 := hc2 _ _ q1
      have b2 := hc2 _ _ q2
      have b3 := hc2 _ _ q3
      have b4 := hc2 _ _ q4
      rw [← Nat.add_assoc] at a1 a2 a3 a4 b1 b2 b3 b4
      have hki : (k : Int) < n := by omega
      have hk0 : (0 : Int) ≤ k := by omega
      clear hc hc2 q0 q1 q2 q3 q4
      go_wp2
      go_quiet (fail)
      go_wp2
      go_roundw
      case rel => exact ⟨k + 1, m + nq, by omega, by go_num, rfl⟩
      case measure => simp [intOf]; omega
    · go_wp2
      go_ret
      exact ⟨rfl, _, rfl⟩
end Go.Proofs.Ytdemeghhjnehbaa
