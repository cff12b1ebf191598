/- The plain law of a row that some leave. -/
import Derived.Test.YtpjkjnejlmmapaaOpen
import Derived.Test.YtpjkjnejlmmapaaMore
import Derived.Test.YtpjkjnejlmmapaaWaitAwake
import Derived.IntWalk
set_option linter.unusedVariables false
set_option linter.unusedSimpArgs false
namespace Go.Proofs.Ytpjkjnejlmmapaa
open Go.RowKit
set_option maxRecDepth 100000

/-- The row of the first i. -/
def wrRow (i : Nat) : List Wt := (List.range i).map fun (j : Nat) => ((j : Int), (0 : Int), 10 * (j : Int))
theorem wrRow_len (i : Nat) : (wrRow i).length = i := by simp [wrRow]
theorem wrRow_snoc (i : Nat) : wrRow i ++ [((i : Int), (0 : Int), 10 * (i : Int))] = wrRow (i + 1) := by simp [wrRow, List.range_succ]
/-- Those of the row from lo to hi that are not gone. -/
def stay (g : List Bool) (lo n : Nat) : List Wt := ((List.range' lo (n - lo)).filter fun j => !(g.getD j false)).map fun (j : Nat) => ((j : Int), (0 : Int), 10 * (j : Int))
theorem stay_all (n m : Nat) : stay (List.replicate m false) 0 n = wrRow n := by
  unfold stay wrRow
  rw [List.filter_eq_self.2, Nat.sub_zero, ← List.range_eq_range']
  intro j _
  simp [List.getD, List.getElem?_replicate]
  split <;> rfl
theorem stay_set (g : List Bool) (n k : Nat) (hk : k < g.length) : stay (g.set k true) 0 n = notT (stay g 0 n) (k : Int) := by
  unfold stay notT
  rw [List.filter_map, List.filter_filter]
  congr 1
  apply List.filter_congr
  intro j _
  by_cases hjk : k = j
  · subst hjk; simp [List.getD, hk]
  · have : ¬ (j : Int) = k := by omega
    simp [List.getD, List.getElem?_set, hjk, this]
theorem stay_cnt0 (f : Nat → Bool) (n k : Nat) : (((List.range n).filter fun j => !(f j)).map fun (j : Nat) => ((j : Int), (0 : Int), 10 * (j : Int))).length - ((((List.range n).filter fun j => !(f j)).map fun (j : Nat) => ((j : Int), (0 : Int), 10 * (j : Int))).filter fun (y : Wt) => !(y.1 == (k : Int))).length = if k < n ∧ f k = false then 1 else 0 := by
  induction n with
  | zero => simp
  | succ n ih =>
    rw [List.range_succ, List.filter_append, List.map_append, List.filter_append, List.length_append, List.length_append]
    have hle := List.length_filter_le (fun y : Wt => !(y.1 == (k : Int))) (((List.range n).filter fun j => !(f j)).map fun (j : Nat) => ((j : Int), (0 : Int), 10 * (j : Int)))
    by_cases hg : f n = true
    · rw [List.filter_cons_of_neg (by simp [hg])]
      simp only [List.filter_nil, List.map_nil, List.length_nil, Nat.add_zero]
      rw [ih]
      by_cases hkn : k = n
      · subst hkn; simp [hg]
      · by_cases hk : k < n
        · have : k < n + 1 := by omega
          simp [hk, this]
        · have : ¬ k < n + 1 := by omega
          simp [hk, this]
    · have hg' : f n = false := by simpa using hg
      rw [List.filter_cons_of_pos (by simp [hg'])]
      simp only [List.filter_nil, List.map_cons, List.map_nil, List.length_cons, List.length_nil]
      by_cases hkn : k = n
      · subst hkn
        rw [List.filter_cons_of_neg (by simp)]
        simp only [List.filter_nil, List.length_nil]
        rw [if_neg (by omega)] at ih
        simp only [hg', and_true]
        rw [if_pos (by omega)]
        omega
      · rw [List.filter_cons_of_pos (by simp; omega)]
        simp only [List.filter_nil, List.length_cons, List.length_nil]
        by_cases hk : k < n
        · have h1 : k < n + 1 := by omega
          simp only [hk, true_and] at ih
          simp only [h1, true_and]
          omega
        · have h1 : ¬ k < n + 1 := by omega
          simp only [hk, false_and, if_false] at ih
          simp only [h1, false_and, if_false]
          omega
theorem stay_cnt (g : List Bool) (n k : Nat) : (stay g 0 n).length - (notT (stay g 0 n) (k : Int)).length = if k < n ∧ g.getD k false = false then 1 else 0 := by
  unfold stay notT
  rw [Nat.sub_zero, ← List.range_eq_range']
  exact stay_cnt0 (fun j => g.getD j false) n k
theorem stay_end (g : List Bool) (n : Nat) : stay g n n = [] := by simp [stay]
theorem stay_step (g : List Bool) (i n : Nat) (h : i < n) : stay g i n = if g.getD i false = true then stay g (i + 1) n else ((i : Int), (0 : Int), 10 * (i : Int)) :: stay g (i + 1) n := by
  unfold stay
  rw [show n - i = (n - (i + 1)) + 1 by omega, List.range'_succ, List.filter_cons]
  split
  · next h1 => first | (rw [if_neg (by simpa using h1)]; rfl) | (rw [if_neg (by simpa using h1)])
  · next h1 => first | (rw [if_pos (by simpa using h1)]; rfl) | (rw [if_pos (by simpa using h1)])
end Go.Proofs.Ytpjkjnejlmmapaa
