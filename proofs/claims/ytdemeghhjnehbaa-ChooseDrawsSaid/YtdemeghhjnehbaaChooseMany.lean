/- Many channels, by number, each with a case of its own: what waiting by them all, and leaving them all, makes of them. -/
import Derived.Test.YtdemeghhjnehbaaChooseLaw
set_option linter.unusedVariables false
set_option linter.unusedSimpArgs false
namespace Go.Proofs.Ytdemeghhjnehbaa
open Go.RowKit
set_option maxRecDepth 100000
def PN (n : Nat) (st : Nat → ChS) : Nat → Option ChS := fun i => if i < n then some (st i) else none
theorem PN_at {n : Nat} {st : Nat → ChS} {i : Nat} (h : i < n) : PN n st i = some (st i) := if_pos h
theorem PN_add (n : Nat) (st : Nat → ChS) : upd (PN n st) n (some (st n)) = PN (n + 1) st := by
  funext i; unfold upd PN
  by_cases h : i = n
  · subst h; simp
  · rw [if_neg h]
    by_cases h2 : i < n
    · rw [if_pos h2, if_pos (by omega)]
    · rw [if_neg h2, if_neg (by omega)]
theorem PN_upd (n : Nat) (st : Nat → ChS) (k : Nat) (c : ChS) (h : k < n) : upd (PN n st) k (some c) = PN n (upd st k c) := by
  funext i; unfold upd PN
  by_cases e : i = k
  · subst e; simp [h]
  · simp [e]
theorem PN_congr {n : Nat} {st st' : Nat → ChS} (h : ∀ i, i < n → st i = st' i) : PN n st = PN n st' := by
  funext i; unfold PN
  by_cases e : i < n
  · rw [if_pos e, if_pos e, h i e]
  · rw [if_neg e, if_neg e]
theorem PN_0 (st : Nat → ChS) : (fun _ => none) = PN 0 st := by funext i; unfold PN; simp
def csN (s : Bool) (v : Nat → Int) (n : Nat) : List Cs := (List.range n).map fun i => (some i, s, v i)
theorem csN_succ (s : Bool) (v : Nat → Int) (n : Nat) : csN s v (n + 1) = csN s v n ++ [(some n, s, v n)] := by simp [csN, List.range_succ]
theorem csN_len (s : Bool) (v : Nat → Int) (n : Nat) : (csN s v n).length = n := by simp [csN]
theorem csN_get (s : Bool) (v : Nat → Int) (n k : Nat) (hk : k < n) : (csN s v n)[k]? = some (some k, s, v k) := by simp [csN, hk]
theorem csN_in {s : Bool} {v : Nat → Int} {n : Nat} {x : Cs} (hx : x ∈ csN s v n) : ∃ i, i < n ∧ x = (some i, s, v i) := by
  simp only [csN, List.mem_map, List.mem_range] at hx
  obtain ⟨i, h, rfl⟩ := hx
  exact ⟨i, h, rfl⟩
theorem csN_ok (s : Bool) (v : Nat → Int) (n : Nat) (st : Nat → ChS) : ∀ x ∈ csN s v n, CsOk (PN n st) x := fun x hx => by
  obtain ⟨i, hi, rfl⟩ := csN_in hx
  intro j hj; cases hj; exact ⟨_, PN_at hi⟩
theorem csN_can {s : Bool} {v : Nat → Int} {n : Nat} {st : Nat → ChS} (k : Nat) (x : Cs) (hx : (csN s v n)[k]? = some x) : canC (PN n st) x = (st k).canR s := by
  have hk : k < n := by have := (List.getElem?_eq_some_iff.1 hx).1; rwa [csN_len] at this
  rw [csN_get s v n k hk] at hx
  cases hx
  simp only [canC, PN_at hk]
theorem csN_mute {s : Bool} {v : Nat → Int} {n : Nat} {st : Nat → ChS} (h : ∀ i, i < n → (st i).mute = false) (x : Cs) (hx : x ∈ csN s v n) : (x.2.1 && muteC (PN n st) x) = false := by
  obtain ⟨i, hi, rfl⟩ := csN_in hx
  simp only [muteC, PN_at hi, h i hi, Bool.and_false]
theorem PN_few {n : Nat} {st : Nat → ChS} (m : Nat) (h : ∀ i, i < n → (st i).rv.length ≤ m ∧ (st i).sd.length ≤ m) : Few (PN n st) m := fun i c hi => by
  unfold PN at hi
  split at hi
  · next e => cases hi; exact h i e
  · cases hi
def sumN (f : Nat → Nat) : Nat → Nat
  | 0 => 0
  | n + 1 => sumN f n + f n
theorem sumN_congr {f g : Nat → Nat} : ∀ n : Nat, (∀ i, i < n → f i = g i) → sumN f n = sumN g n
  | 0, _ => rfl
  | n + 1, h => by unfold sumN; rw [sumN_congr n fun i hi => h i (by omega), h n (by omega)]
theorem sumN_const (c : Nat) : ∀ n : Nat, sumN (fun _ => c) n = n * c
  | 0 => by simp [sumN]
  | n + 1 => by unfold sumN; rw [sumN_const c n, Nat.add_mul]; omega
theorem sumN_but (k : Nat) : ∀ n : Nat, sumN (fun i => if i = k then 0 else 1) n = if k < n then n - 1 else n
  | 0 => by simp [sumN]
  | n + 1 => by
    unfold sumN
    rw [sumN_but k n]
    split <;> split <;> split <;> omega
theorem step_PN (n : Nat) (st : Nat → ChS) (f : ChS → ChS) (k : Nat) (h : k < n) : stepF (PN n st) f (some k) = PN n (upd st k (f (st k))) := by
  simp only [stepF, PN_at h]; exact PN_upd n st k _ h
theorem park_pre (t : Int) (s : Bool) (v : Nat → Int) (n : Nat) (st : Nat → ChS) : ∀ m, m ≤ n → parkF t (csN s v m) 0 (PN n st) = PN n (fun i => if i < m then (st i).waitS (t, (i : Int), if s then v i else 0) s else st i)
  | 0, _ => by simp [csN, parkF]
  | m + 1, h => by
    rw [csN_succ, parkF_snoc, park_pre t s v n st m (by omega), csN_len, Nat.zero_add, step_PN _ _ _ _ (by omega)]
    refine PN_congr fun i hi => ?_
    by_cases e : i = m
    · subst e
      have h1 : ¬ i < i := by omega
      have h2 : i < i + 1 := by omega
      simp only [upd_same, if_neg h1, if_pos h2, valC]
    · rw [upd_ne _ _ e]
      have h3 : (i < m + 1) = (i < m) := by apply propext; omega
      simp only [h3]
theorem park_all (t : Int) (s : Bool) (v : Nat → Int) (n : Nat) (st st' : Nat → ChS) (h : ∀ i, i < n → (st i).waitS (t, (i : Int), if s then v i else 0) s = st' i) : parkF t (csN s v n) 0 (PN n st) = PN n st' := by
  rw [park_pre t s v n st n (Nat.le_refl _)]
  exact PN_congr fun i hi => by rw [if_pos hi, h i hi]
theorem leave_pre (t : Int) (s : Bool) (v : Nat → Int) (n : Nat) (st : Nat → ChS) : ∀ m, m ≤ n → leaveF t (csN s v m) (PN n st) = PN n (fun i => if i < m then (st i).removeS t else st i) ∧ leaveN t (csN s v m) (PN n st) = sumN (fun i => (st i).removeR t) m
  | 0, _ => by simp [csN, leaveF, leaveN, sumN]
  | m + 1, h => by
    obtain ⟨h1, h2⟩ := leave_pre t s v n st m (by omega)
    refine ⟨?_, ?_⟩
    · rw [csN_succ, leaveF_snoc, h1, step_PN _ _ _ _ (by omega)]
      refine PN_congr fun i hi => ?_
      by_cases e : i = m
      · subst e
        have h1 : ¬ i < i := by omega
        have h2 : i < i + 1 := by omega
        simp only [upd_same, if_neg h1, if_pos h2]
      · rw [upd_ne _ _ e]
        have h3 : (i < m + 1) = (i < m) := by apply propext; omega
        simp only [h3]
    · rw [csN_succ, leaveN_snoc, h1, h2]
      have e : leaveC t (PN n fun i => if i < m then (st i).removeS t else st i) (some m) = (st m).removeR t := by
        have h1 : ¬ m < m := by omega
        have h3 : PN n (fun i => if i < m then (st i).removeS t else st i) m = some (st m) := by rw [PN_at (show m < n by omega), if_neg h1]
        unfold leaveC
        simp only [h3]
      show sumN (fun i => (st i).removeR t) m + leaveC t _ (some m) = sumN (fun i => (st i).removeR t) m + (st m).removeR t
      rw [e]
theorem leave_all (t : Int) (s : Bool) (v : Nat → Int) (n : Nat) (st st' : Nat → ChS) (h : ∀ i, i < n → (st i).removeS t = st' i) : leaveF t (csN s v n) (PN n st) = PN n st' := by
  rw [(leave_pre t s v n st n (Nat.le_refl _)).1]
  exact PN_congr fun i hi => by rw [if_pos hi, h i hi]
theorem leave_sum (t : Int) (s : Bool) (v : Nat → Int) (n : Nat) (st : Nat → ChS) : leaveN t (csN s v n) (PN n st) = sumN (fun i => (st i).removeR t) n := (leave_pre t s v n st n (Nat.le_refl _)).2
/-- A channel is made, and its case put behind the others. -/
theorem Mk.addN {w0 w w' : World} {S T U : Nat → Prop} {B : Nat → Nat} {k : Nat} {st : Nat → ChS} {vl vw : Value} {m : Nat} {s : Bool} {v : Nat → Int} {r : List Int} {size : Nat} {e : Ending}
    (h : Mk w0 w S T U B (PN k st) vl k (csN s v k) vw m r) (hn : NewP w (chNew size) e w') (hst : st k = chNew size) : ∃ (b : Nat) (S' : Nat → Prop) (B' : Nat → Nat), e = .returned (.tuple #[.pointer (some ⟨b, 0, none⟩), .int .i64 0]) ∧ B' k = b ∧ Mk w0 w' S' T U B' (PN (k + 1) st) vl k (csN s v k) vw m r := by
  obtain ⟨b, X, h1, hf, hc, hX⟩ := hn
  have h2 := h.add k hf hc hX fun x hx i hi => by
    obtain ⟨j, hj, rfl⟩ := csN_in hx
    cases hi; omega
  rw [← hst, PN_add] at h2
  exact ⟨b, _, _, h1, upd_same _ _ _, h2⟩
end Go.Proofs.Ytdemeghhjnehbaa
