/- The trees that the laws build out of numbers. Plain theorems. -/
import Derived.Test.YtpjkjnejlmmapaaOpen
import Derived.Test.YtpjkjnejlmmapaaTreeAwake
import Derived.Test.YtpjkjnejlmmapaaTreeOrd
import Derived.IntWalk
set_option linter.unusedVariables false
set_option linter.unusedSimpArgs false
namespace Go.Proofs.Ytpjkjnejlmmapaa
open Go.RowKit
set_option maxRecDepth 100000

/-- The tree of the first k of some numbers: each hangs on its number among those ahead. -/
def ftree (l : List Int) : Nat → List Nd
  | 0 => [(-1, false)]
  | k + 1 => ftree l k ++ [(l.getD k 0 % ((k : Int) + 1), true)]
theorem ftree_len (l : List Int) : ∀ k, (ftree l k).length = k + 1
  | 0 => rfl
  | k + 1 => by simp [ftree, ftree_len l k]
theorem ftree_ok (l : List Int) : ∀ k, TreeOk (ftree l k)
  | 0 => by
    intro i x hx
    have hi := (List.getElem?_eq_some_iff.1 hx).1
    simp [ftree] at hi
    subst hi
    simp [ftree] at hx
    subst hx
    simp
  | k + 1 => by
    have h1 := Int.emod_nonneg (l.getD k 0) (show ((k : Int) + 1) ≠ 0 by omega)
    have h2 := Int.emod_lt_of_pos (l.getD k 0) (show 0 < ((k : Int) + 1) by omega)
    exact ok_snoc _ (ftree_ok l k) _ _ (by omega) (by rw [ftree_len]; omega) (fun _ => h1)
theorem ftree_old (l : List Int) (i : Nat) : ∀ (k j : Nat), i < k + 1 → k ≤ j → (ftree l j)[i]? = (ftree l k)[i]? := by
  intro k j hi hj
  induction j with
  | zero => rw [show k = 0 by omega]
  | succ j ih =>
    by_cases h : k ≤ j
    · rw [← ih h]
      show (ftree l j ++ _)[i]? = _
      rw [List.getElem?_append_left (by rw [ftree_len]; omega)]
    · rw [show k = j + 1 by omega]
theorem ftree_get (l : List Int) (m i : Nat) (h : i < m) : (ftree l m)[i + 1]? = some (l.getD i 0 % ((i : Int) + 1), true) := by
  rw [ftree_old l (i + 1) (i + 1) m (by omega) (by omega)]
  show (ftree l i ++ _)[i + 1]? = _
  rw [List.getElem?_append_right (by rw [ftree_len]; omega), ftree_len]; simp
theorem ftree_get0 (l : List Int) (m : Nat) : (ftree l m)[0]? = some (-1, false) := by
  rw [ftree_old l 0 0 m (by omega) (by omega)]; rfl
/-- On whom each hangs. -/
def ups (ns : List Nd) : List Int := (List.range ns.length).map (upOf ns)
theorem ups_len (ns : List Nd) : (ups ns).length = ns.length := by simp [ups]
theorem ups_get (ns : List Nd) (i : Nat) (h : i < ns.length) : (ups ns).getD i 0 = upOf ns i := by simp [ups, List.getD, h]
theorem upOf_snoc_old (ns : List Nd) (x : Nd) (i : Nat) (h : i < ns.length) : upOf (ns ++ [x]) i = upOf ns i := by
  unfold upOf; rw [List.getElem?_append_left h]
theorem upOf_snoc_new (ns : List Nd) (x : Nd) : upOf (ns ++ [x]) ns.length = if x.2 then x.1 else -1 := by
  unfold upOf; rw [List.getElem?_append_right (Nat.le_refl _)]; simp
theorem ups_snoc (ns : List Nd) (x : Nd) : ups (ns ++ [x]) = ups ns ++ [if x.2 then x.1 else -1] := by
  unfold ups
  rw [List.length_append, List.length_singleton, List.range_succ, List.map_append]
  congr 1
  · apply List.map_congr_left
    intro i hi
    exact upOf_snoc_old ns x i (List.mem_range.1 hi)
  · simp [upOf_snoc_new]
/-- Whether one hangs on y. -/
def undB (ns : List Nd) (y : Nat) (k : Int) : Bool := decide (0 ≤ k ∧ k.toNat ∈ walkN ns y)
theorem undB_neg (ns : List Nd) (y : Nat) (k : Int) (h : k < 0) : undB ns y k = false := by unfold undB; simp; omega
theorem undB_self (ns : List Nd) (ho : TreeOk ns) (y : Nat) : undB ns y y = true := by
  unfold undB; simp [(mem_walk ns ho y y).2 (.refl _)]
theorem undB_step (ns : List Nd) (ho : TreeOk ns) (y k : Nat) (hk : k ≠ y) : undB ns y k = undB ns y (upOf ns k) := by
  unfold undB
  have h := undk_step ns ho k y hk
  rw [Bool.eq_iff_iff]
  simp only [decide_eq_true_eq, Int.toNat_natCast]
  constructor
  · rintro ⟨_, hm⟩
    obtain ⟨p, hp, hm⟩ := h.1 hm
    rw [hp]; exact ⟨by omega, by simpa using hm⟩
  · rintro ⟨h0, hm⟩
    exact ⟨by omega, h.2 ⟨_, (Int.toNat_of_nonneg h0).symm, hm⟩⟩
theorem undB_mem (ns : List Nd) (y k : Nat) : undB ns y k = decide ((k : Int) ∈ walk ns y) := by
  unfold undB walk
  rw [Bool.eq_iff_iff]
  simp only [decide_eq_true_eq, Int.toNat_natCast, List.mem_map]
  constructor
  · rintro ⟨_, h⟩; exact ⟨k, h, rfl⟩
  · rintro ⟨a, h, e⟩
    have : a = k := by omega
    subst this
    exact ⟨by omega, h⟩
theorem und_anti (ns : List Nd) (ho : TreeOk ns) (x y : Nat) (h : undB ns y x = true) (hne : x ≠ y) : undB ns x y = false := by
  unfold undB at *
  simp at h ⊢
  intro hm
  have h1 := ((mem_walk ns ho _ _).1 h).le ho
  have h2 := ((mem_walk ns ho _ _).1 hm).le ho
  omega
theorem info_intU : (Try.prog.info? 3).map (fun i => (i.zero, i.size, i.bytes)) = some (some (.int .i64 0), 1, 8) := by kernel_rfl
end Go.Proofs.Ytpjkjnejlmmapaa
