/- What laws of chapter 10 share: one channel, its number 0; rows of bools that came in; the guards. -/
import Derived.Test.YtdemeghhjnehbaaChooseAwake
import Derived.Test.YtdemeghhjnehbaaOpen
set_option linter.unusedVariables false
set_option linter.unusedSimpArgs false
namespace Go.Proofs.Ytdemeghhjnehbaa
open Go.RowKit
set_option maxRecDepth 100000
theorem Pool.congr {w : World} {S : Nat → Prop} {B B' : Nat → Nat} {P P' : Nat → Option ChS} (h : Pool w S B P) (hP : P' = P) (hB : ∀ i c, P i = some c → B' i = B i) : Pool w S B' P' := by
  subst hP
  obtain ⟨F, h1, h2, h3⟩ := h
  exact ⟨F, fun i c hi => by rw [hB i c hi]; exact h1 i c hi, h2, h3⟩
def P1 (c : ChS) : Nat → Option ChS := fun i => if i = 0 then some c else none
theorem P1_0 (c : ChS) : P1 c 0 = some c := if_pos rfl
theorem P1_upd (c d : ChS) : upd (P1 c) 0 (some d) = P1 d := by funext i; unfold upd P1; split <;> rfl
theorem pool_close {w : World} {S : Nat → Prop} {B : Nat → Nat} {P : Nat → Option ChS} (h : Pool w S B P) (i : Nat) {c c' : ChS} (hi : P i = some c) (l : List Wk) (n : Nat) (er : Int) (hr : c.closeR = (l, er)) (hs : c.closeS = c') (hn : l.length = n) :
    Calls Try.prog 18 #[.pointer (some ⟨B i, 0, none⟩)] w fun e w' => ∃ (A : Option Addr) (cp : Nat), e = .returned (.tuple #[.slice A n cp, .int .i64 er]) ∧ Fr S w w' ∧ Pool w' S B (upd P i (some c')) := by
  obtain ⟨T, h1, h2, h3, _⟩ := h.at hi
  refine (chan_close h1 l n er hr hs hn).mono ?_
  rintro e w' ⟨A, cp, rfl, hf, hc, hsl⟩
  exact ⟨A, cp, rfl, hf.mono fun k _ q => h2 k q, h3 w' c' hf hc⟩
theorem Mk.first {w w' : World} {c : ChS} {e : Ending} (h : NewP w c e w') : ∃ (b : Nat) (S : Nat → Prop), e = .returned (.tuple #[.pointer (some ⟨b, 0, none⟩), .int .i64 0]) ∧ Mk w w' S Nob Nob (fun _ => b) (P1 c) (.slice none 0 0) 0 [] (.slice none 0 0) 0 [] := by
  obtain ⟨b, S, h1, hf, hc, hS⟩ := h
  have hp := (Pool.start w Nob (fun _ => 0)).add 0 hf hc hS
  refine ⟨b, And' Nob w w', h1, hf, fun k q => by rcases q with q | q; exact q.elim; exact q, fun _ q => q.elim, fun _ q => q.elim, fun _ _ q => q, fun _ _ q => q, fun _ q _ => q, hp.congr ?_ ?_, Sl.nil _ _ _ _, Sl.nil _ _ _ _⟩
  · funext i; unfold upd P1; split <;> rfl
  · intro i x hi
    unfold upd at hi ⊢
    split
    · rfl
    · next h => rw [if_neg h] at hi; cases hi
theorem info_case : (Try.prog.info? 29).map (fun i => (i.zero, i.size, i.bytes)) = some (some (.agg #[.pointer none, .bool false, .int .i64 0]), 3, 24) := by kernel_rfl
abbrev bools (l : List Bool) : List Value := l.map Value.bool
theorem bools_in {w : World} {l : List Bool} {n : Nat} {v : Value} (hn : l.length = n) (h : Rd w 1 v n (bools l)) : ∃ A c, v = .slice A n c ∧ n ≤ c ∧ c ≤ maxLen ∧ ∀ k, k < n → ∃ g o, A = some ⟨g, o, none⟩ ∧ w.cell? ⟨g, o + k, none⟩ = some (.bool (l.getD k false)) := by
  obtain ⟨_, hl, A, c, rfl, hc1, hc2, hA⟩ := h
  refine ⟨A, c, rfl, hc1, hc2, fun k hk => ?_⟩
  obtain ⟨g, o, rfl, hg, hc⟩ := hA (by omega)
  have hk2 : k < l.length := by omega
  exact ⟨g, o, rfl, hc k _ (by simp [List.getD, hk2])⟩
theorem few_p1 (c : ChS) (h : c.rv.length ≤ 1000 ∧ c.sd.length ≤ 1000) : Few (P1 c) 1000 := by
  intro i d hi
  unfold P1 at hi
  split at hi
  · cases hi; exact h
  · cases hi
end Go.Proofs.Ytdemeghhjnehbaa
