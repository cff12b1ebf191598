/- The order of a walk: each behind the one it hangs on, kids of one in the order of their coming. No program in sight. -/
import Derived.Test.YtpjkjnejlmmapaaTreePl
set_option linter.unusedVariables false
set_option linter.unusedSimpArgs false
namespace Go.Proofs.Ytpjkjnejlmmapaa

/-- On whom one hangs; -1: on nobody. -/
def upOf (ns : List Nd) (i : Nat) : Int := match ns[i]? with
  | some x => if x.2 then x.1 else -1
  | none => -1
theorem upOf_link (ns : List Nd) (i p : Nat) (h : ns[i]? = some ((p : Int), true)) : upOf ns i = p := by simp [upOf, h]
theorem upOf_iff (ns : List Nd) (ho : TreeOk ns) (i p : Nat) : upOf ns i = (p : Int) ↔ ns[i]? = some ((p : Int), true) := by
  unfold upOf
  cases h : ns[i]? with
  | none => simp
  | some x =>
    obtain ⟨a, c⟩ := x
    cases c with
    | false => simp
    | true => simp
theorem upOf_lt (ns : List Nd) (ho : TreeOk ns) (i : Nat) : upOf ns i < (i : Int) := by
  unfold upOf
  cases h : ns[i]? with
  | none => simp; omega
  | some x =>
    obtain ⟨a, c⟩ := x
    have := ho i _ h
    cases c with
    | false => simp; omega
    | true => simpa using this.2.1
theorem upOf_ge (ns : List Nd) (ho : TreeOk ns) (i : Nat) : -1 ≤ upOf ns i := by
  unfold upOf
  cases h : ns[i]? with
  | none => simp
  | some x =>
    obtain ⟨a, c⟩ := x
    have := ho i _ h
    cases c with
    | false => simp
    | true => simpa using this.1
/-- a may stand ahead of c. -/
def Ahead (ns : List Nd) (a c : Nat) : Prop := upOf ns a ≠ (c : Int) ∧ (upOf ns a = upOf ns c → 0 ≤ upOf ns c → a < c)
theorem walk_ge (ns : List Nd) (ho : TreeOk ns) {i k : Nat} (h : i ∈ walkN ns k) : k ≤ i := ((mem_walk ns ho _ _).1 h).le ho
theorem und_up (ns : List Nd) (ho : TreeOk ns) {i k : Nat} (h : Und ns i k) (hne : i ≠ k) : ∃ p : Nat, upOf ns i = (p : Int) ∧ Und ns p k := by
  cases h with
  | refl => exact absurd rfl hne
  | step h r => exact ⟨_, upOf_link ns _ _ h, r⟩
theorem walk_ahead (ns : List Nd) (ho : TreeOk ns) : ∀ (f k : Nat), ns.length ≤ k + f → (walkN ns k).Pairwise (Ahead ns) := by
  intro f
  induction f with
  | zero =>
    intro k h
    rw [walkN_eq ns ho, kidsN_out ns ho k (by omega)]; simp
  | succ f ih =>
    intro k h
    rw [walkN_eq ns ho, List.pairwise_cons]
    refine ⟨fun c hc => ?_, ?_⟩
    · obtain ⟨d, hd, hi⟩ := List.mem_flatMap.1 hc
      have h1 := kidsN_gt ns ho k d hd
      have h2 := walk_ge ns ho hi
      have h3 := upOf_lt ns ho k
      exact ⟨by omega, fun _ _ => by omega⟩
    · rw [List.pairwise_flatMap]
      refine ⟨fun c hc => ?_, ?_⟩
      · have h1 := kidsN_gt ns ho k c hc
        exact ih c (by omega)
      · refine List.Pairwise.imp_of_mem ?_ (kidsN_sorted ns k)
        intro a d ha hd had x hx y hy
        have ga := kidsN_gt ns ho k a ha
        have gd := kidsN_gt ns ho k d hd
        have hx' := (mem_walk ns ho _ _).1 hx
        have hy' := (mem_walk ns ho _ _).1 hy
        have hxa := hx'.le ho
        have hyd := hy'.le ho
        have ua : upOf ns a = (k : Int) := upOf_link ns _ _ ((mem_kidsN ns k a).1 ha)
        have ud : upOf ns d = (k : Int) := upOf_link ns _ _ ((mem_kidsN ns k d).1 hd)
        have apart : ∀ i, Und ns i a → Und ns i d → False := fun i p q => by
          have := kids_apart ns ho k a d i ha hd p q; omega
        constructor
        · intro e
          by_cases hxe : x = a
          · rw [hxe, ua] at e; omega
          · obtain ⟨p, hp, hu⟩ := und_up ns ho hx' hxe
            rw [hp] at e
            have : p = y := by omega
            subst this
            exact apart _ hu hy'
        · intro e he
          by_cases hxe : x = a
          · by_cases hye : y = d
            · omega
            · obtain ⟨p, hp, hu⟩ := und_up ns ho hy' hye
              rw [hxe, ua, hp] at e
              have := hu.le ho; omega
          · obtain ⟨p, hp, hu⟩ := und_up ns ho hx' hxe
            by_cases hye : y = d
            · rw [hye, ud, hp] at e
              have := hu.le ho; omega
            · obtain ⟨q, hq, hv⟩ := und_up ns ho hy' hye
              rw [hp, hq] at e
              have : p = q := by omega
              subst this
              exact (apart _ hu hv).elim
/-- Where one stands in a row, from 1 on; 0: nowhere. -/
def posOf1 (l : List Nat) (x : Nat) : Nat := if x ∈ l then l.idxOf x + 1 else 0
theorem posOf1_pos (l : List Nat) (x : Nat) : 0 < posOf1 l x ↔ x ∈ l := by
  unfold posOf1; split <;> simp [*]
theorem pos_ahead (ns : List Nd) (l : List Nat) (hd : l.Nodup) (hp : l.Pairwise (Ahead ns)) (a c : Nat) (ha : a ∈ l) (hc : c ∈ l) (h : posOf1 l a ≤ posOf1 l c) : a = c ∨ Ahead ns a c := by
  unfold posOf1 at h
  rw [if_pos ha, if_pos hc] at h
  have h1 := List.idxOf_lt_length_of_mem ha
  have h2 := List.idxOf_lt_length_of_mem hc
  have e1 : l[l.idxOf a] = a := List.getElem_idxOf h1
  have e2 : l[l.idxOf c] = c := List.getElem_idxOf h2
  by_cases he : l.idxOf a = l.idxOf c
  · left
    rw [← e1, ← e2]
    congr 1
  · right
    have := List.pairwise_iff_getElem.1 hp (l.idxOf a) (l.idxOf c) h1 h2 (by omega)
    rwa [e1, e2] at this
/-- Each stands behind the one it hangs on. -/
theorem up_first (ns : List Nd) (ho : TreeOk ns) (i p : Nat) (hi : i ∈ walkN ns 0) (hp : upOf ns i = (p : Int)) : p ∈ walkN ns 0 ∧ posOf1 (walkN ns 0) p < posOf1 (walkN ns 0) i := by
  have hl := upOf_lt ns ho i
  have hu := (mem_walk ns ho _ _).1 hi
  have hpw : p ∈ walkN ns 0 := by
    obtain ⟨q, hq, hr⟩ := und_up ns ho hu (by omega)
    rw [hp] at hq
    have : p = q := by omega
    subst this
    exact (mem_walk ns ho _ _).2 hr
  refine ⟨hpw, ?_⟩
  by_cases h : posOf1 (walkN ns 0) i ≤ posOf1 (walkN ns 0) p
  · rcases pos_ahead ns _ (walkN_nodup ns ho ns.length 0 (by omega)) (walk_ahead ns ho ns.length 0 (by omega)) i p hi hpw h with e | e
    · omega
    · exact absurd hp e.1
  · omega
/-- Kids of one stand in the order of their coming. -/
theorem kids_order (ns : List Nd) (ho : TreeOk ns) (i k : Nat) (hi : i ∈ walkN ns 0) (hki : k < i) (hu : upOf ns k = upOf ns i) (h0 : 0 ≤ upOf ns i) : k ∈ walkN ns 0 ∧ posOf1 (walkN ns 0) k < posOf1 (walkN ns 0) i := by
  obtain ⟨p, hp⟩ := Int.eq_ofNat_of_zero_le h0
  have hlk := (upOf_iff ns ho k p).1 (by rw [hu, hp])
  have hpw := (up_first ns ho i p hi hp).1
  have hkw : k ∈ walkN ns 0 := (mem_walk ns ho _ _).2 (.step hlk ((mem_walk ns ho _ _).1 hpw))
  refine ⟨hkw, ?_⟩
  by_cases h : posOf1 (walkN ns 0) i ≤ posOf1 (walkN ns 0) k
  · rcases pos_ahead ns _ (walkN_nodup ns ho ns.length 0 (by omega)) (walk_ahead ns ho ns.length 0 (by omega)) i k hi hkw h with e | e
    · omega
    · have := e.2 hu.symm (by omega); omega
  · omega
/-- One hangs on 0 by way of the one above it. -/
theorem und0_step (ns : List Nd) (ho : TreeOk ns) (i : Nat) (hn : i ≠ 0) : (i ∈ walkN ns 0) ↔ ∃ p : Nat, upOf ns i = (p : Int) ∧ p ∈ walkN ns 0 := by
  constructor
  · intro h
    obtain ⟨p, hp, hu⟩ := und_up ns ho ((mem_walk ns ho _ _).1 h) hn
    exact ⟨p, hp, (mem_walk ns ho _ _).2 hu⟩
  · rintro ⟨p, hp, hm⟩
    exact (mem_walk ns ho _ _).2 (.step ((upOf_iff ns ho i p).1 hp) ((mem_walk ns ho _ _).1 hm))
theorem undk_step (ns : List Nd) (ho : TreeOk ns) (i y : Nat) (hn : i ≠ y) : (i ∈ walkN ns y) ↔ ∃ p : Nat, upOf ns i = (p : Int) ∧ p ∈ walkN ns y := by
  constructor
  · intro h
    obtain ⟨p, hp, hu⟩ := und_up ns ho ((mem_walk ns ho _ _).1 h) hn
    exact ⟨p, hp, (mem_walk ns ho _ _).2 hu⟩
  · rintro ⟨p, hp, hm⟩
    exact (mem_walk ns ho _ _).2 (.step ((upOf_iff ns ho i p).1 hp) ((mem_walk ns ho _ _).1 hm))
end Go.Proofs.Ytpjkjnejlmmapaa
