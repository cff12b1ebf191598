/- The plain law of looks: how long one is passed over, in terms of rows of looks. No program. -/
import Derived.Test.YtaghnlmfhfbhhaaFair
set_option linter.unusedVariables false
set_option linter.unusedSimpArgs false
namespace Go.Proofs.Ytaghnlmfhfbhhaa
/-- From the i-th look on, m looks pass t over. -/
def Run (L : List Lk) (t : Int) (i m : Nat) : Prop := i + m ≤ L.length ∧ ∀ j, j < m → ∀ y, L[i + j]? = some y → passedB y t = true
theorem rowN_ge (D : List Lk) (t : Int) : ∀ m, m ≤ rowN D t ↔ (m ≤ D.length ∧ ∀ j, j < m → ∀ y, D[j]? = some y → passedB y t = true) := by
  induction D with
  | nil => intro m; simp [rowN]
  | cons x D ih =>
    intro m
    cases m with
    | zero => simp
    | succ m =>
      by_cases hx : passedB x t = true
      · have e : rowN (x :: D) t = rowN D t + 1 := by simp [rowN, List.takeWhile_cons, hx]
        rw [e, Nat.add_le_add_iff_right, ih m]
        constructor
        · rintro ⟨h1, h2⟩
          refine ⟨by simp; omega, fun j hj y hy => ?_⟩
          cases j with
          | zero => simp at hy; subst hy; exact hx
          | succ j => simp at hy; exact h2 j (by omega) y hy
        · rintro ⟨h1, h2⟩
          refine ⟨by simp at h1; omega, fun j hj y hy => h2 (j + 1) (by omega) y (by simpa using hy)⟩
      · have e : rowN (x :: D) t = 0 := by simp [rowN, List.takeWhile_cons, hx]
        rw [e]
        constructor
        · intro h; omega
        · rintro ⟨_, h2⟩; exact absurd (h2 0 (by omega) x rfl) hx
theorem run_row (L : List Lk) (t : Int) (i m : Nat) (hi : i ≤ L.length) : Run L t i m ↔ m ≤ rowN (L.drop i) t := by
  rw [rowN_ge]
  unfold Run
  simp only [List.length_drop, List.getElem?_drop]
  constructor
  · rintro ⟨h1, h2⟩; exact ⟨by omega, h2⟩
  · rintro ⟨h1, h2⟩; exact ⟨by omega, h2⟩
theorem inn_ge0 (D : List Lk) (ts : List Int) : ∀ n, n ≤ inn D n ts := by
  unfold inn
  induction ts with
  | nil => intro n; exact Nat.le_refl _
  | cons t ts ih => intro n; exact Nat.le_trans (Nat.le_max_left _ _) (ih (max n (rowN D t)))
theorem inn_ge (D : List Lk) (ts : List Int) (t : Int) (ht : t ∈ ts) : ∀ n, rowN D t ≤ inn D n ts := by
  induction ts with
  | nil => simp at ht
  | cons s ts ih =>
    intro n
    show rowN D t ≤ inn D (max n (rowN D s)) ts
    rcases List.mem_cons.1 ht with h | h
    · subst h; exact Nat.le_trans (Nat.le_max_right _ _) (inn_ge0 D ts _)
    · exact ih h _
theorem inn_is (D : List Lk) (ts : List Int) : ∀ n, inn D n ts = n ∨ ∃ t ∈ ts, inn D n ts = rowN D t := by
  induction ts with
  | nil => intro n; exact .inl rfl
  | cons s ts ih =>
    intro n
    rcases ih (max n (rowN D s)) with h | ⟨t, ht, h⟩
    · have h' : inn D n (s :: ts) = max n (rowN D s) := h
      rw [h']
      rcases Nat.le_total n (rowN D s) with hm | hm
      · exact .inr ⟨s, List.mem_cons_self .., by omega⟩
      · exact .inl (by omega)
    · exact .inr ⟨t, List.mem_cons_of_mem _ ht, h⟩
theorem upto_mono (L : List Lk) (i j : Nat) (h : i ≤ j) : upto L i ≤ upto L j := by
  induction j with
  | zero => have : i = 0 := by omega
            subst this; exact Nat.le_refl _
  | succ j ih =>
    by_cases hij : i = j + 1
    · subst hij; exact Nat.le_refl _
    · exact Nat.le_trans (ih (by omega)) (inn_ge0 _ _ _)
theorem upto_is (L : List Lk) (k : Nat) : upto L k = 0 ∨ ∃ i t, i < k ∧ upto L k = rowN (L.drop i) t := by
  induction k with
  | zero => exact .inl rfl
  | succ k ih =>
    rcases inn_is (L.drop k) (L.getD k ([], 0)).1 (upto L k) with h | ⟨t, ht, h⟩
    · rcases ih with h2 | ⟨i, t, hi, h2⟩
      · left; show inn _ _ _ = 0; rw [h, h2]
      · right; exact ⟨i, t, by omega, by show inn _ _ _ = _; rw [h, h2]⟩
    · right; exact ⟨k, t, by omega, h⟩
theorem longest_ge (L : List Lk) (t : Int) (i m : Nat) (h : Run L t i m) : m ≤ longest L := by
  cases m with
  | zero => exact Nat.zero_le _
  | succ m =>
    have h1 := h.1
    have hi : i < L.length := by omega
    have hp := h.2 0 (by omega) L[i] (by simp [hi])
    have ht : t ∈ L[i].1 := by simp [passedB] at hp; exact hp.2
    have h2 := (run_row L t i (m + 1) (by omega)).1 h
    have h3 : rowN (L.drop i) t ≤ upto L (i + 1) := by
      show rowN (L.drop i) t ≤ inn _ _ _
      refine inn_ge _ _ _ ?_ _
      simpa [List.getD, hi] using ht
    exact Nat.le_trans h2 (Nat.le_trans h3 (upto_mono L _ _ (by omega)))
theorem longest_run (L : List Lk) : longest L = 0 ∨ ∃ t i, Run L t i (longest L) := by
  rcases upto_is L L.length with h | ⟨i, t, hi, h⟩
  · exact .inl h
  · right
    refine ⟨t, i, (run_row L t i _ (by omega)).2 ?_⟩
    unfold longest
    rw [h]
    exact Nat.le_refl _
theorem run_less (L : List Lk) (t : Int) (i m n : Nat) (h : Run L t i m) (hn : n ≤ m) : Run L t i n := ⟨by have := h.1; omega, fun j hj => h.2 j (by omega)⟩
theorem longest_take (L : List Lk) (k : Nat) : longest (L.take k) ≤ longest L := by
  rcases longest_run (L.take k) with h | ⟨t, i, h1, h2⟩
  · omega
  · refine longest_ge L t i _ ⟨by simp at h1; omega, fun j hj y hy => h2 j hj y ?_⟩
    rw [List.getElem?_take, if_pos (by simp at h1; omega)]
    exact hy
theorem longest_drop (L : List Lk) (k : Nat) : longest (L.drop k) ≤ longest L := by
  rcases longest_run (L.drop k) with h | ⟨t, i, h1, h2⟩
  · omega
  · by_cases h0 : longest (L.drop k) = 0
    · omega
    · refine longest_ge L t (k + i) _ ⟨by simp at h1; omega, fun j hj y hy => h2 j hj y ?_⟩
      rw [List.getElem?_drop, ← Nat.add_assoc]
      exact hy
theorem longest_cut (L : List Lk) (k : Nat) : longest L ≤ longest (L.take k) + longest (L.drop k) := by
  rcases longest_run L with h | ⟨t, i, h1, h2⟩
  · omega
  · by_cases hik : i + longest L ≤ k
    · have := longest_ge (L.take k) t i (longest L) ⟨by simp; omega, fun j hj y hy => h2 j hj y (by rw [List.getElem?_take] at hy; split at hy; exact hy; cases hy)⟩
      omega
    · by_cases hki : k ≤ i
      · have := longest_ge (L.drop k) t (i - k) (longest L) ⟨by simp; omega, fun j hj y hy => h2 j hj y (by rw [List.getElem?_drop, show k + (i - k + j) = i + j by omega] at hy; exact hy)⟩
        omega
      · have a1 := longest_ge (L.take k) t i (k - i) ⟨by simp; omega, fun j hj y hy => h2 j (by omega) y (by rw [List.getElem?_take] at hy; split at hy; exact hy; cases hy)⟩
        have a2 := longest_ge (L.drop k) t 0 (longest L - (k - i)) ⟨by simp; omega, fun j hj y hy => h2 (k - i + j) (by omega) y (by rw [List.getElem?_drop, show k + (0 + j) = i + (k - i + j) by omega] at hy; exact hy)⟩
        omega
end Go.Proofs.Ytaghnlmfhfbhhaa
