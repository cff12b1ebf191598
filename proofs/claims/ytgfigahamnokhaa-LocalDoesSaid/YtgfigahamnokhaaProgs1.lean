/- What Progs of the tests' package does with one program. -/
import Derived.Test.YtgfigahamnokhaaCheck
set_option linter.unusedVariables false
set_option linter.unusedSimpArgs false
namespace Go.Proofs.Ytgfigahamnokhaa
open Go.RowKit
set_option maxRecDepth 100000
def PgP (n : Nat) (w : World) (e : Ending) (w' : World) : Prop := ∃ r : Bool, e = .returned (.bool r) ∧ (r = true → n ≤ 60) ∧ w = w'
set_option maxHeartbeats 2000000 in
theorem progs_one (w : World) (v : Value) (ps : List Ins) (n b : Nat) (T : TypeId) (hb : w.heap[b]? = some (.cells #[v] T (0, 0))) (hn : ps.length = n) (h : Rd w 6 v n (ps.flatMap insEn)) (hok : ∀ i ∈ ps, InsOk w i) :
    Calls Try.prog 7 #[.slice (some ⟨b, 0, none⟩) 1 1] w (PgP n w) := by
  obtain ⟨_, hl, A, c, rfl, hc1, hc2, hA⟩ := h
  unfold maxLen at hl
  have hb0 := blk_cell hb 0 rfl
  have hg : ∀ k, k < n → ∃ x : Ins, InsOk w x ∧ ∀ j u, j < 6 → (insEn x)[j]? = some u → (ps.flatMap insEn)[k * 6 + j]? = some u := fun k hk => by
    have h0 : ps[k]? = some (ps[k]'(by omega)) := by simp
    exact ⟨_, hok _ (List.mem_of_getElem? h0), fun j u hj hu => (insGet ps k j _ h0 hj).trans hu⟩
  have HA := Lib.hid hA; have Hg := Lib.hid hg
  clear hA hg hok hb
  by_cases h60 : n ≤ 60
  · have d0 : decide (60 < (n : Int)) = false := decide_eq_false (by omega)
    have d0' : decide (60 < n) = false := decide_eq_false (by omega)
    go_enter Try.func7, Try.ntmps7
    go_wp2_with fail
    go_loopw [3] (fun i wr => ∃ k : Nat, k ≤ 1 ∧ i = .int .i64 k ∧ w = wr) (fun i _ => 1 - (intOf i).toNat)
    case atStart => exact ⟨0, Nat.zero_le _, rfl, rfl⟩
    case round =>
      obtain ⟨k, hk, rfl, rfl⟩ := hrel
      rcases (by omega : k = 0 ∨ k = 1) with rfl | rfl
      · go_wp2_with fail
        go_loopw [4] (fun j wr => ∃ k : Nat, k ≤ n ∧ j = .int .i64 k ∧ w = wr) (fun j _ => n - (intOf j).toNat)
        case atStart => exact ⟨0, Nat.zero_le _, rfl, rfl⟩
        case round =>
          obtain ⟨k, hk2, rfl, rfl⟩ := hrel
          by_cases hlt : k < n
          · obtain ⟨x, hio, hq⟩ := Hg.out k hlt
            obtain ⟨g, o, rfl, hgl, hc⟩ := HA.out (by omega)
            obtain ⟨⟨op, a, b, e⟩, v, cs, d⟩ := x
            obtain ⟨_, hl2, A2, c2, hv, _⟩ := id hio
            dsimp only at hv hl2
            subst hv
            have x4 := hc _ _ (hq 4 _ (by omega) rfl)
            rw [← Nat.add_assoc] at x4
            dsimp only at x4
            have hki : (k : Int) < n := by omega
            generalize cs.length = m at *
            clear hc hq hio
            by_cases hm : m ≤ 20
            · have e0 : decide (20 < (m : Int)) = false := decide_eq_false (by omega)
              have e0' : decide (20 < m) = false := decide_eq_false (by omega)
              go_wp2_with fail
              go_roundw
              case rel => exact ⟨k + 1, by omega, by go_num, by first | rfl | trivial⟩
              case measure => simp [intOf]; omega
            · have e0 : decide (20 < (m : Int)) = true := decide_eq_true (by omega)
              have e0' : decide (20 < m) = true := decide_eq_true (by omega)
              go_wp2_with fail
              go_ret
              exact ⟨false, rfl, fun h => (by cases h), rfl⟩
          · obtain rfl : k = n := by omega
            go_wp2_with fail
            go_roundw
            case rel => exact ⟨1, by omega, rfl, by first | rfl | trivial⟩
            case measure => simp [intOf]
      · go_wp2_with fail
        go_ret
        exact ⟨true, rfl, fun _ => h60, rfl⟩
  · have d0 : decide (60 < (n : Int)) = true := decide_eq_true (by omega)
    have d0' : decide (60 < n) = true := decide_eq_true (by omega)
    go_enter Try.func7, Try.ntmps7
    go_wp2_with fail
    go_loopw [3] (fun i wr => i = .int .i64 0 ∧ w = wr) (fun i _ => 0)
    case atStart => exact ⟨rfl, rfl⟩
    case round =>
      obtain ⟨rfl, rfl⟩ := hrel
      go_wp2_with fail
      go_ret
      exact ⟨false, rfl, fun h => (by cases h), rfl⟩
end Go.Proofs.Ytgfigahamnokhaa
