/- One is taken off: the walks behind that. No program in sight. -/
import Derived.Test.YtpjkjnejlmmapaaTreePl
set_option linter.unusedVariables false
set_option linter.unusedSimpArgs false
namespace Go.Proofs.Ytpjkjnejlmmapaa

theorem flat_filter (k : Nat) (g h : Nat → List Nat) : ∀ (l : List Nat), (∀ c ∈ l, c ≠ k → g c = h c) → (k ∈ l → h k = []) → (l.filter (· != k)).flatMap g = l.flatMap h
  | [], _, _ => rfl
  | c :: l, h1, h2 => by
    have ih := flat_filter k g h l (fun d hd => h1 d (List.mem_cons_of_mem _ hd)) (fun hm => h2 (List.mem_cons_of_mem _ hm))
    rw [List.filter_cons]
    by_cases hc : c = k
    · subst hc
      have : (c != c) = false := by simp
      rw [if_neg (by simp [this]), ih, List.flatMap_cons, h2 (List.mem_cons_self ..), List.nil_append]
    · have : (c != k) = true := by simp [hc]
      rw [if_pos this, List.flatMap_cons, List.flatMap_cons, h1 c (List.mem_cons_self ..) hc, ih]
section
variable {ns : List Nd} (ho : TreeOk ns) {k : Nat} {p : Nat} (hk : ns[k]? = some ((p : Int), true))
include ho hk
theorem walk_set_in : ∀ (f j : Nat), ns.length ≤ j + f → Und ns j k → walkN (ns.set k ((p : Int), false)) j = walkN ns j := by
  have ho' := ok_set ns ho k _ hk
  have hkl := (List.getElem?_eq_some_iff.1 hk).1
  have hpk : p < k := by have := (ho k _ hk).2.1; simp at this; omega
  intro f
  induction f with
  | zero =>
    intro j h hu
    rw [walkN_eq ns ho, walkN_eq _ ho', kidsN_out ns ho j (by omega), kidsN_out _ ho' j (by rw [List.length_set]; omega)]
    rfl
  | succ f ih =>
    intro j h hu
    have hkj := hu.le ho
    rw [walkN_eq ns ho, walkN_eq _ ho', kidsN_set ns k _ j hkl]
    congr 1
    refine flat_filter k _ _ _ (fun c hc hck => ?_) fun hm => ?_
    · have h1 := kidsN_gt ns ho j c hc
      exact ih c (by omega) (.step ((mem_kidsN ns j c).1 hc) hu)
    · have := (mem_kidsN ns j k).1 hm
      rw [hk] at this
      simp at this
      omega
theorem walk_set_out : ∀ (f j : Nat), ns.length ≤ j + f → ¬ Und ns j k → walkN (ns.set k ((p : Int), false)) j = (walkN ns j).filter fun x => decide (x ∉ walkN ns k) := by
  have ho' := ok_set ns ho k _ hk
  have hkl := (List.getElem?_eq_some_iff.1 hk).1
  intro f
  induction f with
  | zero =>
    intro j h hu
    have hj : j ∉ walkN ns k := fun q => hu ((mem_walk ns ho _ _).1 q)
    rw [walkN_eq ns ho j, walkN_eq _ ho' j, kidsN_out ns ho j (by omega), kidsN_out _ ho' j (by rw [List.length_set]; omega)]
    simp [hj]
  | succ f ih =>
    intro j h hu
    have hj : j ∉ walkN ns k := fun q => hu ((mem_walk ns ho _ _).1 q)
    rw [walkN_eq ns ho j, walkN_eq _ ho' j, kidsN_set ns k _ j hkl, List.filter_cons, if_pos (by simpa using hj), List.filter_flatMap]
    congr 1
    refine flat_filter k _ _ _ (fun c hc hck => ?_) fun hm => ?_
    · have h1 := kidsN_gt ns ho j c hc
      refine ih c (by omega) fun q => ?_
      cases q with
      | refl => exact hck rfl
      | step h r =>
        rw [(mem_kidsN ns j c).1 hc] at h
        simp at h
        rename_i q
        have : j = q := by omega
        subst this
        exact hu r
    · rw [List.filter_eq_nil_iff]
      intro x hx
      simpa using hx
theorem walk_off_in : walk (ns.set k ((p : Int), false)) k = walk ns k := by
  unfold walk; rw [walk_set_in ho hk ns.length k (by omega) (.refl _)]
theorem walk_off_zero : walk (ns.set k ((p : Int), false)) 0 = (walk ns 0).filter fun x => decide (x ∉ walk ns k) := by
  have h0 : ¬ Und ns 0 k := fun q => by
    have := q.le ho
    have := (ho k _ hk).2.1; simp at this; omega
  unfold walk
  rw [walk_set_out ho hk ns.length 0 (by omega) h0, List.filter_map]
  congr 1
  apply List.filter_congr
  intro x _
  show _ = decide (¬ ((x : Int) ∈ List.map (fun (i : Nat) => (i : Int)) (walkN ns k)))
  congr 1
  rw [eq_iff_iff]
  constructor
  · intro h q
    obtain ⟨a, ha, e⟩ := List.mem_map.1 q
    have : a = x := by omega
    subst this
    exact h ha
  · intro h q
    exact h (List.mem_map.2 ⟨x, q, rfl⟩)
end
/-- So much of a list: those that are not in another. -/
def without (all w : List Int) : List Int := all.filter fun x => decide (x ∉ w)
theorem without_snoc (all w : List Int) (i : Nat) (h : i < all.length) : without (all.take (i + 1)) w = without (all.take i) w ++ if all.getD i 0 ∈ w then [] else [all.getD i 0] := by
  unfold without
  rw [List.take_add_one, List.filter_append]
  congr 1
  have : all[i]? = some (all.getD i 0) := by simp [List.getD, h]
  rw [this]
  generalize all.getD i 0 = y
  by_cases hm : y ∈ w
  · simp [hm]
  · simp [hm]
theorem without_le (all w : List Int) (i : Nat) : (without (all.take i) w).length ≤ i := by
  unfold without
  have h1 := List.length_filter_le (fun x => decide (x ∉ w)) (all.take i)
  have h2 := List.length_take_le i all
  omega
theorem mem_take_snoc (w : List Int) (x : Int) (j : Nat) (h : j < w.length) : decide (x ∈ w.take (j + 1)) = (decide (x ∈ w.take j) || (w.getD j 0 == x)) := by
  have : w[j]? = some (w.getD j 0) := by simp [List.getD, h]
  rw [List.take_add_one, this]
  generalize w.getD j 0 = y
  rw [Bool.eq_iff_iff]
  simp
  constructor
  · rintro (h | h); exact .inl h; exact .inr h.symm
  · rintro (h | h); exact .inl h; exact .inr h.symm
end Go.Proofs.Ytpjkjnejlmmapaa
