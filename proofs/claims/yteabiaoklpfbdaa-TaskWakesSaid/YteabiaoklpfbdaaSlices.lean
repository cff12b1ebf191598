/- What slices.Index and slices.Contains do at whole numbers. -/
import Derived.Test.YteabiaoklpfbdaaProg
import Derived.Test.YteabiaoklpfbdaaBase
set_option linter.unusedVariables false
set_option linter.unusedSimpArgs false
namespace Go.Proofs.Yteabiaoklpfbdaa
open Go.RowKit
set_option maxRecDepth 100000

/-- The place of x in l; -1: nowhere. -/
def ixOf (l : List Int) (x : Int) : Int := if x ∈ l then ((l.idxOf x : Nat) : Int) else -1
theorem idxOf_at (l : List Int) (x : Int) (k : Nat) (hk : k < l.length) (hx : l.getD k 0 = x) (hn : x ∉ l.take k) : l.idxOf x = k := by
  have h1 : l[k] = x := by simpa [List.getD, hk] using hx
  have hm : x ∈ l := by rw [← h1]; exact List.getElem_mem hk
  have h2 := List.idxOf_lt_length_of_mem hm
  have h3 : l[l.idxOf x] = x := List.getElem_idxOf h2
  rcases Nat.lt_trichotomy (l.idxOf x) k with h | h | h
  · exfalso; apply hn
    rw [← h3]
    exact List.mem_take_iff_getElem.2 ⟨l.idxOf x, by omega, rfl⟩
  · exact h
  · exfalso
    have := List.not_of_lt_findIdx (p := fun y => y == x) (xs := l) (i := k) h
    simp [h1] at this
theorem ixOf_at (l : List Int) (x : Int) (k : Nat) (hk : k < l.length) (hx : l.getD k 0 = x) (hn : x ∉ l.take k) : ixOf l x = k := by
  have h1 : l[k] = x := by simpa [List.getD, hk] using hx
  have hm : x ∈ l := by rw [← h1]; exact List.getElem_mem hk
  rw [ixOf, if_pos hm, idxOf_at l x k hk hx hn]
theorem ixOf_no (l : List Int) (x : Int) (hn : x ∉ l) : ixOf l x = -1 := if_neg hn
theorem ixOf_ge (l : List Int) (x : Int) : decide (0 ≤ ixOf l x) = decide (x ∈ l) := by
  unfold ixOf; by_cases h : x ∈ l <;> simp [h]

set_option maxHeartbeats 400000 in
theorem index_ints (w : World) (v : Value) (l : List Int) (x : Int) (h : Rd w 1 v l.length (ints l)) :
    Calls Try.prog 44 #[v, .int .i64 x] w fun e w' => e = .returned (.int .i64 (ixOf l x)) ∧ w = w' := by
  obtain ⟨_, hl, A, c, rfl, hc1, hc2, hA⟩ := h
  unfold maxLen at hl
  have hat := ixOf_at l x
  have hno := ixOf_no l x
  have hd : ∀ i, i < l.length → (ints l)[i]? = some (.int .i64 (l.getD i 0)) := fun i hi => ints_get hi
  have hs : ∀ k, k < l.length → x ∉ l.take k → l.getD k 0 ≠ x → x ∉ l.take (k + 1) := fun k hk h1 h2 => by
    rw [List.take_add_one]; simp [h1]; intro h; apply h2; simpa [List.getD, hk] using h
  have ht : l.take l.length = l := List.take_length
  have HA := Lib.hid hA; have HAT := Lib.hid hat; have HNO := Lib.hid hno; have HD := Lib.hid hd; have HS := Lib.hid hs; have HT := Lib.hid ht
  generalize ixOf l x = r at *
  generalize l.length = n at *
  clear hA hat hno hd hs ht
  go_enter Try.func44, Try.ntmps44
  go_wp2
  go_loop [8] (fun i => ∃ k : Nat, k ≤ n ∧ i = .int .i64 k ∧ Hid (x ∉ l.take k)) (fun i => n - (intOf i).toNat)
  case atStart => exact ⟨0, Nat.zero_le _, rfl, show x ∉ l.take 0 by simp⟩
  case round =>
    obtain ⟨k, hk, rfl, hn⟩ := hrel
    by_cases hlt : k < n
    · obtain ⟨g, o, rfl, hg, hc⟩ := HA.out (by omega)
      have hx := hc k _ (HD.out k hlt)
      have hki : (k : Int) < n := by omega
      have h1 := HAT.out k hlt
      have h2 := HS.out k hlt hn.out
      clear hc
      generalize l.getD k 0 = y at *
      by_cases hy : y = x
      · have h3 := h1 hy hn.out
        have H3 := Lib.hid h3
        have hyx : (x == y) = true := by simp [hy]
        clear h1 h2 h3 hy
        go_wp2
        go_ret
        exact ⟨by rw [H3.out]; rfl, rfl⟩
      · have H2 : Hid (x ∉ l.take (k + 1)) := h2 hy
        have hyx : (x == y) = false := by simp; exact fun h => hy h.symm
        clear h1 h2 hy
        go_wp2
        go_round
        case rel => exact ⟨k + 1, by omega, by go_num, H2⟩
        case measure => simp [intOf]; omega
    · obtain rfl : k = n := by omega
      have hn2 : x ∉ l := by have := hn.out; rwa [HT.out] at this
      have H3 := Lib.hid (HNO.out hn2)
      clear hn2
      go_wp2
      go_ret
      exact ⟨by rw [H3.out]; rfl, rfl⟩
set_option maxHeartbeats 400000 in
theorem contains_ints (w : World) (v : Value) (l : List Int) (x : Int) (h : Rd w 1 v l.length (ints l)) :
    Calls Try.prog 40 #[v, .int .i64 x] w fun e w' => e = .returned (.bool (decide (x ∈ l))) ∧ w = w' := by
  have hix := index_ints w v l x h
  have hge := ixOf_ge l x
  have H := Lib.hid hix; have Hge := Lib.hid hge
  generalize ixOf l x = r at *
  clear hix h hge
  go_enter Try.func40, Try.ntmps40
  go_wp2_with fail
  refine H.out.mono ?_
  rintro e w' ⟨rfl, rfl⟩
  go_wp2_with fail
  go_ret
  exact ⟨by rw [← Hge.out]; rfl, rfl⟩
end Go.Proofs.Yteabiaoklpfbdaa
