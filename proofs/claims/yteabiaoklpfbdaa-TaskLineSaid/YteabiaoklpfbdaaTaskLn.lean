/- What holds between the tasks, the line and those that wait (TaskLine's plain law). -/
import Derived.Test.YteabiaoklpfbdaaTaskOut
set_option linter.unusedVariables false
set_option linter.unusedSimpArgs false
namespace Go.Proofs.Yteabiaoklpfbdaa
open Go.RowKit
set_option maxRecDepth 100000
def LineOk (j : Nat) (ts : List Tk) (line pk : List Int) : Prop :=
  line.Nodup ∧ pk.Nodup ∧ (∀ x ∈ line, ∃ (i : Nat) (t : Nat → Int) (d : Bool), x = (i : Int) ∧ ts[i]? = some (t, d) ∧ t 2 = 0) ∧
  (∀ x ∈ pk, ∃ (i : Nat) (t : Nat → Int) (d : Bool), x = (i : Int) ∧ ts[i]? = some (t, d) ∧ t 2 = 1 ∧ t 12 = 15 ∧ t 13 = 0) ∧
  (∀ (i : Nat) (t : Nat → Int) (d : Bool), ts[i]? = some (t, d) → 0 ≤ t 1 ∧ t 1 ≤ (j : Int))
theorem mem_erase_ne {l : List Int} (hn : l.Nodup) {x y : Int} (hy : y ∈ l.erase x) : y ∈ l ∧ y ≠ x := by
  have := (hn.mem_erase_iff).1 hy
  exact ⟨this.2, this.1⟩
theorem lineOk_nil : LineOk 0 [] [] [] := ⟨List.nodup_nil, List.nodup_nil, fun x h => (by cases h), fun x h => (by cases h), fun i t d h => (by simp at h)⟩
section
variable {j : Nat} {ts : List Tk} {line pk : List Int} (h : LineOk j ts line pk)
include h
theorem lineOk_up : LineOk (j + 1) ts line pk := ⟨h.1, h.2.1, h.2.2.1, h.2.2.2.1, fun i t d hi => by have := h.2.2.2.2 i t d hi; omega⟩
theorem lineOk_lt (x : Int) (hx : x ∈ line) : x < (ts.length : Int) := by
  obtain ⟨i, t, d, rfl, hi, _⟩ := h.2.2.1 x hx
  have := (List.getElem?_eq_some_iff.1 hi).1
  omega
theorem lineOk_start (n : Nat) (hn : ts.length = n) : (n : Int) ∉ line ∧ LineOk (j + 1) (ts ++ [(newT 0 rg0, false)]) (line ++ [(n : Int)]) pk := by
  have hni : (n : Int) ∉ line := fun q => by have := lineOk_lt h _ q; omega
  refine ⟨hni, List.nodup_append.2 ⟨h.1, by simp, fun a ha c hc => by simp at hc; subst hc; exact fun e => hni (e ▸ ha)⟩, h.2.1, fun x hx => ?_, fun x hx => ?_, fun i t d hi => ?_⟩
  · rcases List.mem_append.1 hx with hx | hx
    · obtain ⟨i, t, d, rfl, hi, h2⟩ := h.2.2.1 x hx
      exact ⟨i, t, d, rfl, by rw [List.getElem?_append_left (List.getElem?_eq_some_iff.1 hi).1]; exact hi, h2⟩
    · simp at hx; subst hx
      exact ⟨n, newT 0 rg0, false, rfl, by rw [List.getElem?_append_right (by omega), hn]; simp, rfl⟩
  · obtain ⟨i, t, d, rfl, hi, h2⟩ := h.2.2.2.1 x hx
    exact ⟨i, t, d, rfl, by rw [List.getElem?_append_left (List.getElem?_eq_some_iff.1 hi).1]; exact hi, h2⟩
  · rw [List.getElem?_append] at hi
    split at hi
    · have := h.2.2.2.2 i t d hi; omega
    · next hlt =>
      have : i - ts.length = 0 := by
        by_cases h0 : i - ts.length = 0
        · exact h0
        · rw [List.getElem?_eq_none (by simp; omega)] at hi; cases hi
      rw [this] at hi
      simp at hi
      obtain ⟨rfl, rfl⟩ := hi
      exact ⟨by decide, by show (0 : Int) ≤ _; omega⟩
theorem lineOk_set {i : Nat} {t : Nat → Int} {d : Bool} (hi : ts[i]? = some (t, d)) (x : Tk) (line' pk' : List Int) (hx : 0 ≤ x.1 1 ∧ x.1 1 ≤ ((j + 1 : Nat) : Int)) (hl : line'.Nodup) (hp : pk'.Nodup)
    (hL : ∀ y ∈ line', (y ∈ line ∧ y ≠ (i : Int)) ∨ (y = (i : Int) ∧ x.1 2 = 0)) (hP : ∀ y ∈ pk', (y ∈ pk ∧ y ≠ (i : Int)) ∨ (y = (i : Int) ∧ x.1 2 = 1 ∧ x.1 12 = 15 ∧ x.1 13 = 0)) : LineOk (j + 1) (ts.set i x) line' pk' := by
  have hil := (List.getElem?_eq_some_iff.1 hi).1
  refine ⟨hl, hp, fun y hy => ?_, fun y hy => ?_, fun k t' d' hk => ?_⟩
  · rcases hL y hy with ⟨hy, hne⟩ | ⟨rfl, hx2⟩
    · obtain ⟨k, t', d', rfl, hk, h2⟩ := h.2.2.1 y hy
      exact ⟨k, t', d', rfl, by rw [List.getElem?_set_ne (by omega)]; exact hk, h2⟩
    · exact ⟨i, x.1, x.2, rfl, by rw [List.getElem?_set_self hil], hx2⟩
  · rcases hP y hy with ⟨hy, hne⟩ | ⟨rfl, hx2⟩
    · obtain ⟨k, t', d', rfl, hk, h2⟩ := h.2.2.2.1 y hy
      exact ⟨k, t', d', rfl, by rw [List.getElem?_set_ne (by omega)]; exact hk, h2⟩
    · exact ⟨i, x.1, x.2, rfl, by rw [List.getElem?_set_self hil], hx2⟩
  · by_cases hki : k = i
    · subst hki
      rw [List.getElem?_set_self hil] at hk
      cases hk
      exact hx
    · rw [List.getElem?_set_ne (by omega)] at hk
      have := h.2.2.2.2 k t' d' hk
      omega
theorem lineOk_notpk {i : Nat} {t : Nat → Int} {d : Bool} (hi : ts[i]? = some (t, d)) (h2 : t 2 = 0) : (i : Int) ∉ pk := fun q => by
  obtain ⟨k, t', d', e, hk, h3, _⟩ := h.2.2.2.1 _ q
  obtain rfl : i = k := by omega
  rw [hi] at hk; cases hk; omega
theorem lineOk_notline {i : Nat} {t : Nat → Int} {d : Bool} (hi : ts[i]? = some (t, d)) (h2 : t 2 = 1) : (i : Int) ∉ line := fun q => by
  obtain ⟨k, t', d', e, hk, h3⟩ := h.2.2.1 _ q
  obtain rfl : i = k := by omega
  rw [hi] at hk; cases hk; omega
theorem lineOk_park {i : Nat} {t : Nat → Int} {d : Bool} (hi : ts[i]? = some (t, d)) (h2 : t 2 = 0) : LineOk (j + 1) (ts.set i (parkT t 15 0 0 0, false)) (line.erase (i : Int)) (pk ++ [(i : Int)]) := by
  have hnp := lineOk_notpk h hi h2
  have h1 := h.2.2.2.2 i t d hi
  refine lineOk_set h hi _ _ _ (by show 0 ≤ t 1 ∧ t 1 ≤ _; omega) (h.1.erase _) (List.nodup_append.2 ⟨h.2.1, by simp, fun a ha c hc => by simp at hc; subst hc; exact fun e => hnp (e ▸ ha)⟩) (fun y hy => .inl (mem_erase_ne h.1 hy)) (fun y hy => ?_)
  rcases List.mem_append.1 hy with hy | hy
  · exact .inl ⟨hy, fun e => hnp (e ▸ hy)⟩
  · simp at hy; subst hy; exact .inr ⟨rfl, rfl, rfl, rfl⟩
theorem lineOk_panic {i : Nat} {t : Nat → Int} {d : Bool} (hi : ts[i]? = some (t, d)) (h2 : t 2 = 1) : LineOk (j + 1) (ts.set i (endT t 1, false)) line (pk.erase (i : Int)) := by
  have hnl := lineOk_notline h hi h2
  have h1 := h.2.2.2.2 i t d hi
  exact lineOk_set h hi _ _ _ (by show 0 ≤ t 1 ∧ t 1 ≤ _; omega) h.1 (h.2.1.erase _) (fun y hy => .inl ⟨hy, fun e => hnl (e ▸ hy)⟩) (fun y hy => .inl (mem_erase_ne h.2.1 hy))
theorem lineOk_wake {i : Nat} {t : Nat → Int} {d : Bool} (hi : ts[i]? = some (t, d)) (h2 : t 2 = 1) : (i : Int) ∉ line ∧ LineOk (j + 1) (ts.set i (wakeT (updT t 4 0), false)) (line ++ [(i : Int)]) (pk.erase (i : Int)) := by
  have hnl := lineOk_notline h hi h2
  have h1 := h.2.2.2.2 i t d hi
  refine ⟨hnl, lineOk_set h hi _ _ _ (by show 0 ≤ t 1 + 1 ∧ t 1 + 1 ≤ _; omega) (List.nodup_append.2 ⟨h.1, by simp, fun a ha c hc => by simp at hc; subst hc; exact fun e => hnl (e ▸ ha)⟩) (h.2.1.erase _) (fun y hy => ?_) (fun y hy => .inl (mem_erase_ne h.2.1 hy))⟩
  rcases List.mem_append.1 hy with hy | hy
  · exact .inl ⟨hy, fun e => hnl (e ▸ hy)⟩
  · simp at hy; subst hy; exact .inr ⟨rfl, rfl⟩
theorem lineOk_end {i : Nat} {t : Nat → Int} {d : Bool} (hi : ts[i]? = some (t, d)) (h2 : t 2 = 0) : LineOk (j + 1) (ts.set i (endT t 0, false)) (line.erase (i : Int)) pk := by
  have hnp := lineOk_notpk h hi h2
  have h1 := h.2.2.2.2 i t d hi
  exact lineOk_set h hi _ _ _ (by show 0 ≤ t 1 ∧ t 1 ≤ _; omega) (h.1.erase _) h.2.1 (fun y hy => .inl (mem_erase_ne h.1 hy)) (fun y hy => .inl ⟨hy, fun e => hnp (e ▸ hy)⟩)
end
end Go.Proofs.Yteabiaoklpfbdaa
