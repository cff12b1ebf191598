/- Who hangs on whom, as plain lists: the kids of one, the walk of one; what adding and taking off do to them. No program in sight. -/
set_option linter.unusedVariables false
set_option linter.unusedSimpArgs false
namespace Go.Proofs.Ytpjkjnejlmmapaa

/-- One of a tree: its parent, and whether it hangs there. -/
abbrev Nd := Int × Bool
def hangs (ns : List Nd) (p : Int) (i : Nat) : Bool := match ns[i]? with
  | some x => x.2 && (x.1 == p)
  | none => false
def kidsN (ns : List Nd) (p : Int) : List Nat := (List.range ns.length).filter (hangs ns p)
def kids (ns : List Nd) (p : Int) : List Int := (kidsN ns p).map fun (i : Nat) => (i : Int)
/-- Parents come first; who hangs has one. -/
def TreeOk (ns : List Nd) : Prop := ∀ (i : Nat) (x : Nd), ns[i]? = some x → -1 ≤ x.1 ∧ x.1 < (i : Int) ∧ (x.2 = true → 0 ≤ x.1)

theorem hangs_iff (ns : List Nd) (p : Int) (i : Nat) : hangs ns p i = true ↔ ns[i]? = some (p, true) := by
  unfold hangs
  cases h : ns[i]? with
  | none => simp
  | some x =>
    obtain ⟨a, c⟩ := x
    simp
    constructor
    · rintro ⟨h1, h2⟩; exact ⟨h2, h1⟩
    · rintro ⟨h1, h2⟩; exact ⟨h2, h1⟩
theorem mem_kidsN (ns : List Nd) (p : Int) (i : Nat) : i ∈ kidsN ns p ↔ ns[i]? = some (p, true) := by
  unfold kidsN
  rw [List.mem_filter, hangs_iff, List.mem_range]
  constructor
  · exact fun h => h.2
  · intro h; exact ⟨(List.getElem?_eq_some_iff.1 h).1, h⟩
theorem kidsN_lt (ns : List Nd) (p : Int) (i : Nat) (h : i ∈ kidsN ns p) : i < ns.length := by
  have := (mem_kidsN ns p i).1 h
  exact (List.getElem?_eq_some_iff.1 this).1
theorem kidsN_gt (ns : List Nd) (ho : TreeOk ns) (p i : Nat) (h : i ∈ kidsN ns p) : p < i := by
  have := (mem_kidsN ns p i).1 h
  have := (ho i _ this).2.1
  simp at this; omega
theorem kidsN_sorted (ns : List Nd) (p : Int) : (kidsN ns p).Pairwise (· < ·) := List.Pairwise.filter _ List.pairwise_lt_range
theorem kidsN_le (ns : List Nd) (p : Int) : (kidsN ns p).length ≤ ns.length := by
  have := List.length_filter_le (hangs ns p) (List.range ns.length)
  simpa [kidsN] using this
theorem kids_len (ns : List Nd) (p : Int) : (kids ns p).length = (kidsN ns p).length := by simp [kids]
theorem kidsN_out (ns : List Nd) (ho : TreeOk ns) (p : Nat) (h : ns.length ≤ p + 1) : kidsN ns p = [] := by
  rw [List.eq_nil_iff_forall_not_mem]
  intro i hi
  have h1 := kidsN_gt ns ho p i hi
  have h2 := kidsN_lt ns p i hi
  omega

theorem kids_neg (ns : List Nd) (ho : TreeOk ns) (p : Int) (h : p < 0) : kids ns p = [] := by
  unfold kids
  have : kidsN ns p = [] := by
    rw [List.eq_nil_iff_forall_not_mem]
    intro i hi
    have := (ho i _ ((mem_kidsN ns p i).1 hi)).2.2 rfl
    simp at this; omega
  rw [this]; rfl
theorem kids_out (ns : List Nd) (ho : TreeOk ns) (p : Nat) (h : ns.length ≤ p + 1) : kids ns p = [] := by unfold kids; rw [kidsN_out ns ho p h]; rfl

/-! One more -/
theorem ok_snoc (ns : List Nd) (ho : TreeOk ns) (p : Int) (l : Bool) (h1 : -1 ≤ p) (h2 : p < ns.length) (h3 : l = true → 0 ≤ p) : TreeOk (ns ++ [(p, l)]) := by
  intro i x hx
  rw [List.getElem?_append] at hx
  split at hx
  · exact ho i x hx
  · next h =>
    have hi := (List.getElem?_eq_some_iff.1 hx).1
    simp at hi
    have : i = ns.length := by omega
    subst this
    simp at hx
    subst hx
    exact ⟨h1, h2, h3⟩
theorem kidsN_snoc (ns : List Nd) (p : Int) (l : Bool) (k : Nat) : kidsN (ns ++ [(p, l)]) k = kidsN ns k ++ if l && (p == (k : Int)) then [ns.length] else [] := by
  unfold kidsN
  rw [List.length_append, List.length_singleton, List.range_succ, List.filter_append]
  congr 1
  · apply List.filter_congr
    intro i hi
    have hi := List.mem_range.1 hi
    unfold hangs
    rw [List.getElem?_append_left hi]
  · have : hangs (ns ++ [(p, l)]) k ns.length = (l && (p == (k : Int))) := by simp [hangs]
    rw [List.filter_cons, this]
    rfl
theorem kids_snoc_no (ns : List Nd) (p : Int) (l : Bool) (k : Nat) (h : l = false ∨ p ≠ (k : Int)) : kids (ns ++ [(p, l)]) k = kids ns k := by
  unfold kids
  rw [kidsN_snoc]
  have : (l && (p == (k : Int))) = false := by rcases h with h | h <;> simp [h]
  rw [this]; simp
theorem kids_snoc_yes (ns : List Nd) (k : Nat) : kids (ns ++ [((k : Int), true)]) k = kids ns k ++ [(ns.length : Int)] := by
  unfold kids
  rw [kidsN_snoc]
  simp
/-! One taken off -/
theorem ok_set (ns : List Nd) (ho : TreeOk ns) (i : Nat) (p : Int) (h : ns[i]? = some (p, true)) : TreeOk (ns.set i (p, false)) := by
  intro j x hx
  rw [List.getElem?_set] at hx
  split at hx
  · next e =>
    subst e
    split at hx
    · simp at hx; subst hx
      obtain ⟨h1, h2, h3⟩ := ho i _ h
      exact ⟨h1, h2, fun q => by simp at q⟩
    · simp at hx
  · exact ho j x hx
theorem hangs_set (ns : List Nd) (i : Nat) (p : Int) (k j : Nat) (hi : i < ns.length) : hangs (ns.set i (p, false)) k j = (hangs ns k j && (j != i)) := by
  unfold hangs
  rw [List.getElem?_set]
  by_cases e : i = j
  · subst e; simp [hi]
  · have : (j != i) = true := by simp; exact fun h => e h.symm
    rw [if_neg e, this, Bool.and_true]
theorem kidsN_set (ns : List Nd) (i : Nat) (p : Int) (k : Nat) (hi : i < ns.length) : kidsN (ns.set i (p, false)) k = (kidsN ns k).filter (· != i) := by
  unfold kidsN
  rw [List.length_set, List.filter_filter]
  apply List.filter_congr
  intro j _
  rw [hangs_set ns i p k j hi, Bool.and_comm]
theorem kids_set_ne (ns : List Nd) (i : Nat) (p : Int) (k : Nat) (h : ns[i]? = some (p, true)) (hk : p ≠ (k : Int)) : kids (ns.set i (p, false)) k = kids ns k := by
  unfold kids
  rw [kidsN_set ns i p k (List.getElem?_eq_some_iff.1 h).1, List.filter_eq_self.2]
  intro j hj
  have := (mem_kidsN ns k j).1 hj
  simp
  rintro rfl
  rw [h] at this
  simp at this
  exact hk this
theorem kids_set_eq (ns : List Nd) (i : Nat) (k : Nat) (h : ns[i]? = some ((k : Int), true)) : kids (ns.set i ((k : Int), false)) k = (kids ns k).erase (i : Int) := by
  have hnd : (kids ns k).Nodup := by
    unfold kids
    have := kidsN_sorted ns k
    unfold List.Nodup
    rw [List.pairwise_map]
    exact this.imp fun {a c} h => by omega
  rw [hnd.erase_eq_filter]
  unfold kids
  rw [kidsN_set ns i _ k (List.getElem?_eq_some_iff.1 h).1, List.filter_map]
  congr 1
  apply List.filter_congr
  intro j _
  show _ = ((j : Int) != (i : Int))
  by_cases e : j = i
  · subst e; simp
  · have : ¬ (j : Int) = i := by omega
    have h1 : (j == i) = false := by simp [e]
    have h2 : ((j : Int) == (i : Int)) = false := beq_eq_false_iff_ne.2 this
    simp only [bne, h1, h2]
theorem mem_kids (ns : List Nd) (i k : Nat) (h : ns[i]? = some ((k : Int), true)) : (i : Int) ∈ kids ns k := List.mem_map.2 ⟨i, (mem_kidsN ns k i).2 h, rfl⟩

/-! The walk -/
def walkF (ns : List Nd) : Nat → Nat → List Nat
  | 0, id => [id]
  | f + 1, id => id :: (kidsN ns id).flatMap (walkF ns f)
def walkN (ns : List Nd) (id : Nat) : List Nat := walkF ns (ns.length - id) id
theorem walkF_more (ns : List Nd) (ho : TreeOk ns) : ∀ f id, ns.length ≤ id + f → walkF ns (f + 1) id = walkF ns f id
  | 0, id, h => by
    show id :: _ = [id]
    rw [kidsN_out ns ho id (by omega)]; rfl
  | f + 1, id, h => by
    show id :: (kidsN ns id).flatMap (walkF ns (f + 1)) = id :: (kidsN ns id).flatMap (walkF ns f)
    congr 1
    rw [List.flatMap_def, List.flatMap_def]
    congr 1
    apply List.map_congr_left
    intro k hk
    have := kidsN_gt ns ho id k hk
    exact walkF_more ns ho f k (by omega)
theorem walkF_any (ns : List Nd) (ho : TreeOk ns) (id : Nat) : ∀ f, ns.length ≤ id + f → walkF ns f id = walkN ns id := by
  intro f
  induction f with
  | zero =>
    intro h
    unfold walkN
    rw [show ns.length - id = 0 by omega]
  | succ f ih =>
    intro h
    by_cases h2 : ns.length ≤ id + f
    · rw [walkF_more ns ho f id h2, ih h2]
    · unfold walkN
      rw [show ns.length - id = f + 1 by omega]
theorem walkN_eq (ns : List Nd) (ho : TreeOk ns) (id : Nat) : walkN ns id = id :: (kidsN ns id).flatMap (walkN ns) := by
  have h1 := walkF_any ns ho id (ns.length + 1) (by omega)
  rw [← h1]
  show id :: (kidsN ns id).flatMap (walkF ns ns.length) = _
  congr 1
  rw [List.flatMap_def, List.flatMap_def]
  congr 1
  apply List.map_congr_left
  intro k hk
  exact walkF_any ns ho k _ (by omega)
/-- i hangs on k, by way of all between. -/
inductive Und (ns : List Nd) : Nat → Nat → Prop
  | refl (k) : Und ns k k
  | step {i p k : Nat} (h : ns[i]? = some ((p : Int), true)) (r : Und ns p k) : Und ns i k
theorem Und.trans {ns : List Nd} {a b c : Nat} (h : Und ns a b) (k : Und ns b c) : Und ns a c := by
  induction h with
  | refl => exact k
  | step h r ih => exact .step h (ih k)
theorem Und.le {ns : List Nd} (ho : TreeOk ns) {a b : Nat} (h : Und ns a b) : b ≤ a := by
  induction h with
  | refl => exact Nat.le_refl _
  | step h r ih =>
    have := (ho _ _ h).2.1
    simp at this; omega
theorem Und.down {ns : List Nd} {i k : Nat} (h : Und ns i k) : i = k ∨ ∃ c, c ∈ kidsN ns k ∧ Und ns i c := by
  induction h with
  | refl => exact .inl rfl
  | step h r ih =>
    rcases ih with rfl | ⟨c, hc, hu⟩
    · exact .inr ⟨_, (mem_kidsN ns _ _).2 h, .refl _⟩
    · exact .inr ⟨c, hc, .step h hu⟩
theorem mem_walkN (ns : List Nd) (ho : TreeOk ns) : ∀ (f k : Nat), ns.length ≤ k + f → ∀ i, i ∈ walkN ns k ↔ Und ns i k := by
  intro f
  induction f with
  | zero =>
    intro k h i
    rw [walkN_eq ns ho, kidsN_out ns ho k (by omega)]
    simp
    constructor
    · rintro rfl; exact .refl _
    · intro h
      rcases h.down with e | ⟨c, hc, _⟩
      · exact e
      · rw [kidsN_out ns ho k (by omega)] at hc; simp at hc
  | succ f ih =>
    intro k h i
    rw [walkN_eq ns ho, List.mem_cons, List.mem_flatMap]
    constructor
    · rintro (rfl | ⟨c, hc, hi⟩)
      · exact .refl _
      · have h1 := kidsN_gt ns ho k c hc
        have h2 := (ih c (by omega) i).1 hi
        exact h2.trans (.step ((mem_kidsN ns k c).1 hc) (.refl _))
    · intro h
      rcases h.down with e | ⟨c, hc, hu⟩
      · exact .inl e
      · have h1 := kidsN_gt ns ho k c hc
        exact .inr ⟨c, hc, (ih c (by omega) i).2 hu⟩
theorem mem_walk (ns : List Nd) (ho : TreeOk ns) (i k : Nat) : i ∈ walkN ns k ↔ Und ns i k := mem_walkN ns ho ns.length k (by omega) i
theorem Und.chain {ns : List Nd} {i a b : Nat} (h : Und ns i a) (k : Und ns i b) : Und ns a b ∨ Und ns b a := by
  induction h with
  | refl => exact .inl k
  | step h r ih =>
    cases k with
    | refl => exact .inr (.step h r)
    | step h2 r2 =>
      rw [h] at h2
      simp at h2
      have : _ = _ := h2
      obtain rfl : _ = _ := by exact_mod_cast h2
      exact ih r2
/-- Walks of two kids of one have nothing in common. -/
theorem kids_apart (ns : List Nd) (ho : TreeOk ns) (k a b i : Nat) (ha : a ∈ kidsN ns k) (hb : b ∈ kidsN ns k) (h1 : Und ns i a) (h2 : Und ns i b) : a = b := by
  have ga := kidsN_gt ns ho k a ha
  have gb := kidsN_gt ns ho k b hb
  have key : ∀ a b, a ∈ kidsN ns k → k < b → Und ns a b → a = b := by
    intro a b ha gb h
    cases h with
    | refl => rfl
    | step h r =>
      rw [(mem_kidsN ns k a).1 ha] at h
      simp at h
      have := r.le ho
      omega
  rcases h1.chain h2 with h | h
  · exact key a b ha gb h
  · exact (key b a hb ga h).symm
theorem walkN_nodup (ns : List Nd) (ho : TreeOk ns) : ∀ (f k : Nat), ns.length ≤ k + f → (walkN ns k).Nodup := by
  intro f
  induction f with
  | zero =>
    intro k h
    rw [walkN_eq ns ho, kidsN_out ns ho k (by omega)]; simp
  | succ f ih =>
    intro k h
    rw [walkN_eq ns ho, List.nodup_cons]
    refine ⟨fun hm => ?_, ?_⟩
    · obtain ⟨c, hc, hi⟩ := List.mem_flatMap.1 hm
      have h1 := kidsN_gt ns ho k c hc
      have := ((mem_walk ns ho _ _).1 hi).le ho
      omega
    · unfold List.Nodup
      rw [List.pairwise_flatMap]
      refine ⟨fun c hc => ?_, ?_⟩
      · have h1 := kidsN_gt ns ho k c hc
        exact ih c (by omega)
      · have hs := kidsN_sorted ns k
        refine List.Pairwise.imp_of_mem ?_ hs
        intro a b ha hb hab x hx y hy e
        subst e
        have := kids_apart ns ho k a b x ha hb ((mem_walk ns ho _ _).1 hx) ((mem_walk ns ho _ _).1 hy)
        omega
theorem Und.lt {ns : List Nd} {i k : Nat} (h : Und ns i k) (hk : k < ns.length) : i < ns.length := by
  cases h with
  | refl => exact hk
  | step h r => exact (List.getElem?_eq_some_iff.1 h).1
theorem nodup_le : ∀ (n : Nat) (l : List Nat), l.Nodup → (∀ x ∈ l, x < n) → l.length ≤ n
  | 0, l, _, h => by
    cases l with
    | nil => simp
    | cons x l => have := h x (List.mem_cons_self ..); omega
  | n + 1, l, hd, h => by
    have h1 := nodup_le n (l.erase n) (hd.erase n) fun x hx => by
      have h2 := h x (List.mem_of_mem_erase hx)
      have h3 : x ≠ n := fun e => by subst e; exact (List.Nodup.not_mem_erase hd) hx
      omega
    rw [List.length_erase] at h1
    split at h1 <;> omega
theorem walk_le (ns : List Nd) (ho : TreeOk ns) (k : Nat) (hk : k < ns.length) : (walkN ns k).length ≤ ns.length :=
  nodup_le _ _ (walkN_nodup ns ho ns.length k (by omega)) fun x hx => ((mem_walk ns ho _ _).1 hx).lt hk
def walk (ns : List Nd) (k : Nat) : List Int := (walkN ns k).map fun (i : Nat) => (i : Int)
/-- So much of a walk: of the first j kids. -/
def walkTo (ns : List Nd) (k j : Nat) : List Int := (k :: ((kidsN ns k).take j).flatMap (walkN ns)).map fun (i : Nat) => (i : Int)
theorem walkTo_zero (ns : List Nd) (k : Nat) : walkTo ns k 0 = [(k : Int)] := by simp [walkTo]
theorem walkTo_all (ns : List Nd) (ho : TreeOk ns) (k : Nat) : walkTo ns k (kidsN ns k).length = walk ns k := by
  unfold walkTo walk
  rw [walkN_eq ns ho k, List.take_length]
theorem walkTo_succ (ns : List Nd) (k j c : Nat) (h : (kidsN ns k)[j]? = some c) : walkTo ns k (j + 1) = walkTo ns k j ++ walk ns c := by
  unfold walkTo walk
  rw [List.take_add_one, h]
  simp
theorem walkTo_le (ns : List Nd) (ho : TreeOk ns) (k j : Nat) (hk : k < ns.length) : (walkTo ns k j).length ≤ ns.length := by
  have h := walk_le ns ho k hk
  rw [walkN_eq ns ho k] at h
  refine Nat.le_trans ?_ h
  unfold walkTo
  rw [List.length_map]
  have e : (kidsN ns k).flatMap (walkN ns) = ((kidsN ns k).take j).flatMap (walkN ns) ++ ((kidsN ns k).drop j).flatMap (walkN ns) := by
    rw [← List.flatMap_append, List.take_append_drop]
  rw [e]; simp only [List.length_cons, List.length_append]; omega
theorem walk_len (ns : List Nd) (ho : TreeOk ns) (k : Nat) (hk : k < ns.length) : (walk ns k).length ≤ ns.length := by
  unfold walk; rw [List.length_map]; exact walk_le ns ho k hk
end Go.Proofs.Ytpjkjnejlmmapaa
