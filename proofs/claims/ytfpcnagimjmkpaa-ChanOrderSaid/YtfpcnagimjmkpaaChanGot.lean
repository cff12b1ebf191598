/- A channel that a law made, and a row of numbers beside it. -/
import Derived.Test.YtfpcnagimjmkpaaChanPl
set_option linter.unusedVariables false
set_option linter.unusedSimpArgs false
namespace Go.Proofs.Ytfpcnagimjmkpaa
open Go.RowKit
set_option maxRecDepth 100000
def Gt (w0 w : World) (b : Nat) (c : ChS) (v : Value) (g : Nat) (l : List Int) : Prop := ∃ S T : Nat → Prop, ChanAt w S b c ∧ (∀ k, S k → w0.heap.size ≤ k) ∧ (∀ k, T k → w0.heap.size ≤ k ∧ k < w.heap.size ∧ ¬ S k) ∧ Fr Nob w0 w ∧ Sl w T 3 1 v g (ints l)
section
variable {w0 w : World} {b : Nat} {c : ChS} {v : Value} {g : Nat} {l : List Int}
theorem Gt.fr (h : Gt w0 w b c v g l) : Fr Nob w0 w := by obtain ⟨S, T, h1, h2, h3, h4, h5⟩ := h; exact h4
theorem Gt.one (h : Gt w0 w b c v g l) : One w0 w b c := by obtain ⟨S, T, h1, h2, h3, h4, h5⟩ := h; exact ⟨S, h1, h2, h4⟩
theorem Gt.rd (h : Gt w0 w b c v g l) : Rd w 1 v g (ints l) := by obtain ⟨S, T, h1, h2, h3, h4, h5⟩ := h; exact h5.rd
theorem Gt.slice (h : Gt w0 w b c v g l) : ∃ A cp, v = .slice A g cp := by obtain ⟨S, T, h1, h2, h3, h4, h5⟩ := h; exact h5.slice
theorem Gt.fr0 {w' : World} (h : Gt w0 w b c v g l) (hf : Fr Nob w w') : Gt w0 w' b c v g l := by
  obtain ⟨S, T, h1, h2, h3, h4, h5⟩ := h
  exact ⟨S, T, h1.fr0 hf, h2, fun k q => ⟨(h3 k q).1, by have := (h3 k q).2.1; have := hf.size; omega, (h3 k q).2.2⟩, h4.trans0 hf, h5.fr hf fun _ _ q => q⟩
theorem Gt.start {w' : World} (h : One w0 w' b c) : Gt w0 w' b c (.slice none 0 0) 0 [] := by
  obtain ⟨S, h1, h2, h3⟩ := h
  exact ⟨S, Nob, h1, h2, fun _ q => q.elim, h3, Sl.nil _ _ _ _⟩
theorem Gt.step {w' : World} {S S' T : Nat → Prop} {c' : ChS} (h2 : ∀ k, S k → w0.heap.size ≤ k) (h3 : ∀ k, T k → w0.heap.size ≤ k ∧ k < w.heap.size ∧ ¬ S k) (h4 : Fr Nob w0 w) (h5 : Sl w T 3 1 v g (ints l)) (hf : Fr S w w') (hc : ChanAt w' S' b c') (hsub : ∀ k, S' k → S k ∨ w.heap.size ≤ k) : Gt w0 w' b c' v g l :=
  ⟨S', T, hc, fun k q => by rcases hsub k q with q | q; exact h2 k q; exact Nat.le_trans h4.size q, fun k q => ⟨(h3 k q).1, by have := (h3 k q).2.1; have := hf.size; omega, fun q' => by rcases hsub k q' with q' | q'; exact (h3 k q).2.2 q'; have := (h3 k q).2.1; omega⟩, h4.trans hf fun k hk q => by have := h2 k q; omega, h5.fr hf fun k q q' => (h3 k q).2.2 q'⟩
theorem Gt.append {w' : World} {S T : Nat → Prop} {v' : Value} {x : Int} (h1 : ChanAt w S b c) (h2 : ∀ k, S k → w0.heap.size ≤ k) (h3 : ∀ k, T k → w0.heap.size ≤ k ∧ k < w.heap.size ∧ ¬ S k) (h4 : Fr Nob w0 w) (hf : Fr T w w') (hs : Sl w' (fun k => T k ∨ w.heap.size ≤ k) 3 1 v' (g + 1) (ints l ++ [.int .i64 x])) : Gt w0 w' b c v' (g + 1) (l ++ [x]) := by
  refine ⟨S, fun k => (T k ∨ w.heap.size ≤ k) ∧ k < w'.heap.size, h1.fr hf fun k q q' => (h3 k q').2.2 q, h2, fun k q => ?_, h4.trans hf fun k hk q => by have := (h3 k q).1; omega, ?_⟩
  · rcases q.1 with q' | q'
    · exact ⟨(h3 k q').1, q.2, (h3 k q').2.2⟩
    · exact ⟨Nat.le_trans h4.size q', q.2, fun q'' => by have := h1.lt k q''; omega⟩
  · rw [show ints (l ++ [x]) = ints l ++ [.int .i64 x] by simp [ints]]
    exact hs.mono fun k hk q => ⟨q, hk⟩
theorem Gt.send (h : Gt w0 w b c v g l) (y : Int) (d : Bool) (k : List Wk) (n : Nat) (er : Int) (c' : ChS) (hr : c.sendR y = (d, k, er)) (hs : c.sendS y = c') (hn : k.length = n) :
    Calls Try.prog 13 #[.pointer (some ⟨b, 0, none⟩), .int .i64 y] w fun e w' => ∃ (A : Option Addr) (cp : Nat), e = .returned (.tuple #[.bool d, .slice A n cp, .int .i64 er]) ∧ Gt w0 w' b c' v g l ∧ Rd w' 5 (.slice A n cp) n (wks k) := by
  obtain ⟨S, T, h1, h2, h3, h4, h5⟩ := h
  refine (chan_send h1 y d k n er hr hs hn).mono ?_
  rintro e w' ⟨A, cp, he, hf, hc, hsl⟩
  exact ⟨A, cp, he, .step h2 h3 h4 h5 hf hc fun k q => .inl q, hsl.rd⟩
theorem Gt.recv (h : Gt w0 w b c v g l) (y : Int) (ok d : Bool) (k : List Wk) (n : Nat) (c' : ChS) (hr : c.recvR = (y, ok, d, k)) (hs : c.recvS = c') (hn : k.length = n) :
    Calls Try.prog 15 #[.pointer (some ⟨b, 0, none⟩)] w fun e w' => ∃ (A : Option Addr) (cp : Nat), e = .returned (.tuple #[.int .i64 y, .bool ok, .bool d, .slice A n cp]) ∧ Gt w0 w' b c' v g l := by
  obtain ⟨S, T, h1, h2, h3, h4, h5⟩ := h
  refine (chan_recv h1 y ok d k n hr hs hn).mono ?_
  rintro e w' ⟨A, cp, he, hf, hc, hsl⟩
  exact ⟨A, cp, he, .step h2 h3 h4 h5 hf hc fun k q => .inl q⟩
theorem Gt.wait (h : Gt w0 w b c v g l) (x : Wt) (s : Bool) (r : Int) (c' : ChS) (hr : c.waitR x s = r) (hs : c.waitS x s = c') (hfew : c.rv.length < 100000 ∧ c.sd.length < 100000) :
    Calls Try.prog 14 #[.pointer (some ⟨b, 0, none⟩), wtVal x, .bool s] w fun e w' => e = .returned (.int .i64 r) ∧ Gt w0 w' b c' v g l := by
  obtain ⟨S, T, h1, h2, h3, h4, h5⟩ := h
  refine (chan_wait h1 x s r hr hs hfew).mono ?_
  rintro e w' ⟨S', he, hf, hc, hsub⟩
  exact ⟨he, .step h2 h3 h4 h5 hf hc hsub⟩
end
end Go.Proofs.Ytfpcnagimjmkpaa
