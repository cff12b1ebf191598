/- The trees of TreeWalks, and where each stands in a walk. Plain theorems. -/
import Derived.Test.YtpjkjnejlmmapaaTreeFt
set_option linter.unusedVariables false
set_option linter.unusedSimpArgs false
namespace Go.Proofs.Ytpjkjnejlmmapaa
open Go.RowKit
set_option maxRecDepth 100000
/-- The tree of the first k of some numbers, some of which hang. -/
def gtree (l : List Int) (ls : List Bool) : Nat → List Nd
  | 0 => [(-1, false)]
  | k + 1 => gtree l ls k ++ [(l.getD k 0 % ((k : Int) + 1), ls.getD k false)]
theorem gtree_len (l : List Int) (ls : List Bool) : ∀ k, (gtree l ls k).length = k + 1
  | 0 => rfl
  | k + 1 => by simp [gtree, gtree_len l ls k]
theorem gtree_ok (l : List Int) (ls : List Bool) : ∀ k, TreeOk (gtree l ls k)
  | 0 => ftree_ok l 0
  | k + 1 => by
    have h1 := Int.emod_nonneg (l.getD k 0) (show ((k : Int) + 1) ≠ 0 by omega)
    have h2 := Int.emod_lt_of_pos (l.getD k 0) (show 0 < ((k : Int) + 1) by omega)
    exact ok_snoc _ (gtree_ok l ls k) _ _ (by omega) (by rw [gtree_len]; omega) (fun _ => h1)
/-- Of each where it stands among the first j of a row. -/
def atP (n : Nat) (l : List Nat) (j : Nat) : List Int := (List.range n).map fun x => ((posOf1 (l.take j) x : Nat) : Int)
theorem atP_len (n : Nat) (l : List Nat) (j : Nat) : (atP n l j).length = n := by simp [atP]
theorem atP_get (n : Nat) (l : List Nat) (j x : Nat) (h : x < n) : (atP n l j).getD x 0 = ((posOf1 (l.take j) x : Nat) : Int) := by simp [atP, List.getD, h]
theorem atP_zero (n : Nat) (l : List Nat) : ints (atP n l 0) = List.replicate n (.int .i64 0) := by
  unfold atP ints
  rw [List.map_map, List.eq_replicate_iff]
  refine ⟨by simp, fun v hv => ?_⟩
  obtain ⟨x, _, rfl⟩ := List.mem_map.1 hv
  rfl
theorem posOf1_snoc (l : List Nat) (x y : Nat) (hx : y ∉ l) : posOf1 (l ++ [y]) x = if x = y then l.length + 1 else posOf1 l x := by
  unfold posOf1
  by_cases hxy : x = y
  · subst hxy
    rw [if_pos (by simp), if_pos rfl, List.idxOf_append, if_neg hx]
    simp
  · rw [if_neg hxy]
    by_cases hm : x ∈ l
    · rw [if_pos (List.mem_append_left _ hm), if_pos hm, List.idxOf_append, if_pos hm]
    · rw [if_neg hm, if_neg]
      intro q
      rcases List.mem_append.1 q with q | q
      · exact hm q
      · simp at q; exact hxy q
theorem atP_succ (n : Nat) (l : List Nat) (hd : l.Nodup) (j y : Nat) (hy : l[j]? = some y) (hyn : y < n) : atP n l (j + 1) = (atP n l j).set y ((j : Int) + 1) ∧ (atP n l j).getD y 0 = 0 := by
  have hj := (List.getElem?_eq_some_iff.1 hy).1
  have hn : y ∉ l.take j := by
    intro hm
    obtain ⟨i, hi, he⟩ := List.mem_iff_getElem.1 hm
    rw [List.getElem_take] at he
    have hij : i < j := by simp at hi; omega
    have e2 := (List.getElem?_eq_some_iff.1 hy).2
    have := (List.getElem_inj hd).1 (he.trans e2.symm)
    omega
  have ht : l.take (j + 1) = l.take j ++ [y] := by rw [List.take_add_one, hy]; rfl
  constructor
  · unfold atP
    apply List.ext_getElem?
    intro i
    rw [ht, List.getElem?_set, List.getElem?_map, List.getElem?_map]
    by_cases hi : i < n
    · rw [List.getElem?_range hi]
      simp only [Option.map_some]
      rw [posOf1_snoc _ _ _ hn]
      by_cases hyi : y = i
      · subst hyi
        rw [if_pos rfl, if_pos rfl, if_pos (by simpa using hi)]
        simp; omega
      · rw [if_neg hyi, if_neg (fun q => hyi q.symm)]
    · rw [List.getElem?_eq_none (by simp; omega)]
      rw [if_neg (by omega)]
      simp
  · rw [atP_get n l j y hyn]
    unfold posOf1
    rw [if_neg hn]; rfl
theorem atP_all (n : Nat) (l : List Nat) (x : Nat) (h : x < n) : (atP n l l.length).getD x 0 = ((posOf1 l x : Nat) : Int) := by
  rw [atP_get n l _ x h, List.take_length]
theorem pos_iff (ns : List Nd) (x : Nat) : undB ns 0 x = decide (0 < posOf1 (walkN ns 0) x) := by
  rw [Bool.eq_iff_iff]
  unfold undB
  simp only [decide_eq_true_eq, Int.toNat_natCast, posOf1_pos]
  exact ⟨fun h => h.2, fun h => ⟨by omega, h⟩⟩
theorem undB_mem' (ns : List Nd) (y k : Nat) (h : undB ns y k = true) : k ∈ walkN ns y := by unfold undB at h; simp at h; exact h
end Go.Proofs.Ytpjkjnejlmmapaa
