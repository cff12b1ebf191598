/- Further words: pairs of numbers as cells; ref1.Pick. Plain theorems, but for the last. -/
import Derived.Test.YtdemeghhjnehbaaAlike
import Derived.Test.YtdemeghhjnehbaaMoreD
set_option linter.unusedVariables false
set_option linter.unusedSimpArgs false
namespace Go.Proofs.Ytdemeghhjnehbaa
open Go.RowKit
set_option maxRecDepth 100000
theorem ref_pick (w : World) (k n : Int) (h : 0 < n) (hn : n ≤ 4611686018427387904) :
    Calls Try.prog 60 #[.int .i64 k, .int .i64 n] w fun e w' => e = .returned (.int .i64 (k % n)) ∧ w' = w := by
  have h3 := Int.tmod_lt_of_pos k h
  have h4 := Int.lt_tmod_of_pos k h
  have h1 : ¬ n < 1 := by omega
  have h8 := Int.emod_nonneg k (show n ≠ 0 by omega)
  have h9 := Int.emod_lt_of_pos k h
  have key : k.tmod n % n = k % n := by
    have hna : ((n.natAbs : Nat) : Int) = n := by omega
    rw [Int.tmod_eq_emod]; split
    · simp
    · rw [hna]; simp
  by_cases hneg : k.tmod n < 0
  · have e1 : k.tmod n + n = k % n := by
      rw [← key]; rw [← Int.add_emod_right, Int.emod_eq_of_lt (by omega) (by omega)]
    have h7 : wrap64 (k.tmod n + n) = k.tmod n + n := by unfold wrap64; omega
    have H7 := Lib.hid (h7.trans e1); clear h7 e1 key
    go_enter Try.func60, Try.ntmps60
    go_wp2
    go_ret
    refine ⟨?_, rfl⟩
    first | (show Ending.returned (.int .i64 (wrap64 (k.tmod n + n))) = _; rw [H7.out]) | (show Ending.returned (.int .i64 (k.tmod n + n)) = _; rw [← H7.out]; congr 2; unfold wrap64; omega)
  · have e1 : k.tmod n = k % n := by rw [← key, Int.emod_eq_of_lt (by omega) (by omega)]
    have H7 := Lib.hid e1; clear e1 key
    go_enter Try.func60, Try.ntmps60
    go_wp2
    go_ret
    refine ⟨?_, rfl⟩
    show Ending.returned (.int .i64 (k.tmod n)) = _
    rw [H7.out]

theorem Sl.made (w : World) (T : TypeId) (z : Value) (n : Nat) (S : Nat → Prop) (hS : S w.heap.size) (hn : n ≤ maxLen) :
    Sl (w.alloc (.cells (madeCells #[z] n) T)) S T 1 (.slice (some ⟨w.heap.size, 0, none⟩) n n) n (List.replicate n z) := by
  have := Sl.lit w T 1 (madeCells #[z] n) n S hS hn (by rw [size_madeCells]; omega)
  rwa [toList_madeCells_one] at this

/-! Where the last one like x stands -/
theorem ixo_hit (q : List Int) (x : Int) (k : Nat) (hd : q.Nodup) (hk : k < q.length) (hx : q.getD k 0 = x) : x ∉ q.take k := by
  intro hm
  obtain ⟨j, hj, he⟩ := List.mem_iff_getElem.1 hm
  rw [List.getElem_take] at he
  have hjk : j < k := by simp at hj; omega
  have : q[j] = q[k] := by rw [he, ← hx]; simp [List.getD, hk]
  have := (List.getElem_inj hd).1 this
  omega
end Go.Proofs.Ytdemeghhjnehbaa
