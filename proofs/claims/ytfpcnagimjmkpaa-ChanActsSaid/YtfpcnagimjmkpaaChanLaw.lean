/- One channel that a law made: its contracts, from the law's beginning. -/
import Derived.Test.YtfpcnagimjmkpaaChanAwake
set_option linter.unusedVariables false
set_option linter.unusedSimpArgs false
namespace Go.Proofs.Ytfpcnagimjmkpaa
open Go.RowKit
set_option maxRecDepth 100000
/-- In w there is the channel c, made since w0; what was there in w0 is as it was. -/
def One (w0 w : World) (b : Nat) (c : ChS) : Prop := ∃ S : Nat → Prop, ChanAt w S b c ∧ (∀ k, S k → w0.heap.size ≤ k) ∧ Fr Nob w0 w
section
variable {w0 w : World} {b : Nat} {c : ChS}
theorem One.fr0 {w' : World} (h : One w0 w b c) (hf : Fr Nob w w') : One w0 w' b c := by
  obtain ⟨S, h1, h2, h3⟩ := h; exact ⟨S, h1.fr0 hf, h2, h3.trans0 hf⟩
theorem One.fr (h : One w0 w b c) : Fr Nob w0 w := by obtain ⟨S, h1, h2, h3⟩ := h; exact h3
theorem One.step {w' : World} {S S' : Nat → Prop} {c' : ChS} (h2 : ∀ k, S k → w0.heap.size ≤ k) (h3 : Fr Nob w0 w) (hf : Fr S w w') (hc : ChanAt w' S' b c') (hsub : ∀ k, S' k → S k ∨ w.heap.size ≤ k) : One w0 w' b c' :=
  ⟨S', hc, fun k q => by rcases hsub k q with q | q; exact h2 k q; exact Nat.le_trans h3.size q, h3.trans hf fun k hk q => by have := h2 k q; omega⟩
theorem One.ofNew {e : Ending} {w' : World} (h : NewP w c e w') : ∃ b : Nat, e = .returned (.tuple #[.pointer (some ⟨b, 0, none⟩), .int .i64 0]) ∧ One w w' b c := by
  obtain ⟨b, S, h1, h2, h3, h4⟩ := h; exact ⟨b, h1, S, h3, h4, h2⟩
theorem One.ofMade {e : Ending} {w' : World} (h : MadeP w c e w') : ∃ b : Nat, e = .returned (.pointer (some ⟨b, 0, none⟩)) ∧ One w w' b c := by
  obtain ⟨b, S, h1, h2, h3, h4⟩ := h; exact ⟨b, h1, S, h3, h4, h2⟩
theorem One.send (h : One w0 w b c) (v : Int) (d : Bool) (l : List Wk) (n : Nat) (er : Int) (c' : ChS) (hr : c.sendR v = (d, l, er)) (hs : c.sendS v = c') (hn : l.length = n) :
    Calls Try.prog 13 #[.pointer (some ⟨b, 0, none⟩), .int .i64 v] w fun e w' => ∃ (A : Option Addr) (cp : Nat), e = .returned (.tuple #[.bool d, .slice A n cp, .int .i64 er]) ∧ One w0 w' b c' ∧ Rd w' 5 (.slice A n cp) n (wks l) := by
  obtain ⟨S, h1, h2, h3⟩ := h
  refine (chan_send h1 v d l n er hr hs hn).mono ?_
  rintro e w' ⟨A, cp, he, hf, hc, hsl⟩
  exact ⟨A, cp, he, .step h2 h3 hf hc fun k q => .inl q, hsl.rd⟩
theorem One.recv (h : One w0 w b c) (v : Int) (ok d : Bool) (l : List Wk) (n : Nat) (c' : ChS) (hr : c.recvR = (v, ok, d, l)) (hs : c.recvS = c') (hn : l.length = n) :
    Calls Try.prog 15 #[.pointer (some ⟨b, 0, none⟩)] w fun e w' => ∃ (A : Option Addr) (cp : Nat), e = .returned (.tuple #[.int .i64 v, .bool ok, .bool d, .slice A n cp]) ∧ One w0 w' b c' ∧ Rd w' 5 (.slice A n cp) n (wks l) := by
  obtain ⟨S, h1, h2, h3⟩ := h
  refine (chan_recv h1 v ok d l n hr hs hn).mono ?_
  rintro e w' ⟨A, cp, he, hf, hc, hsl⟩
  exact ⟨A, cp, he, .step h2 h3 hf hc fun k q => .inl q, hsl.rd⟩
theorem One.put (h : One w0 w b c) (v : Int) (l : List Wk) (n : Nat) (d : Bool) (c' : ChS) (hr : c.putR v = (l, d)) (hs : c.putS v = c') (hn : l.length = n) :
    Calls Try.prog 22 #[.pointer (some ⟨b, 0, none⟩), .int .i64 v] w fun e w' => ∃ (A : Option Addr) (cp : Nat), e = .returned (.tuple #[.slice A n cp, .bool d]) ∧ One w0 w' b c' ∧ Rd w' 5 (.slice A n cp) n (wks l) := by
  obtain ⟨S, h1, h2, h3⟩ := h
  refine (chan_put h1 v l n d hr hs hn).mono ?_
  rintro e w' ⟨A, cp, he, hf, hc, hsl⟩
  exact ⟨A, cp, he, .step h2 h3 hf hc fun k q => .inl q, hsl.rd⟩
theorem One.close (h : One w0 w b c) (l : List Wk) (n : Nat) (er : Int) (c' : ChS) (hr : c.closeR = (l, er)) (hs : c.closeS = c') (hn : l.length = n) :
    Calls Try.prog 18 #[.pointer (some ⟨b, 0, none⟩)] w fun e w' => ∃ (A : Option Addr) (cp : Nat), e = .returned (.tuple #[.slice A n cp, .int .i64 er]) ∧ One w0 w' b c' ∧ Rd w' 5 (.slice A n cp) n (wks l) := by
  obtain ⟨S, h1, h2, h3⟩ := h
  refine (chan_close h1 l n er hr hs hn).mono ?_
  rintro e w' ⟨A, cp, he, hf, hc, hsl⟩
  exact ⟨A, cp, he, .step h2 h3 hf hc fun k q => .inl q, hsl.rd⟩
theorem One.wait (h : One w0 w b c) (x : Wt) (s : Bool) (r : Int) (c' : ChS) (hr : c.waitR x s = r) (hs : c.waitS x s = c') (hfew : c.rv.length < 100000 ∧ c.sd.length < 100000) :
    Calls Try.prog 14 #[.pointer (some ⟨b, 0, none⟩), wtVal x, .bool s] w fun e w' => e = .returned (.int .i64 r) ∧ One w0 w' b c' := by
  obtain ⟨S, h1, h2, h3⟩ := h
  refine (chan_wait h1 x s r hr hs hfew).mono ?_
  rintro e w' ⟨S', he, hf, hc, hsub⟩
  exact ⟨he, .step h2 h3 hf hc hsub⟩
theorem One.remove (h : One w0 w b c) (t : Int) (n : Nat) (c' : ChS) (hn : c.removeR t = n) (hs : c.removeS t = c') :
    Calls Try.prog 19 #[.pointer (some ⟨b, 0, none⟩), .int .i64 t] w fun e w' => e = .returned (.int .i64 (n : Int)) ∧ One w0 w' b c' := by
  obtain ⟨S, h1, h2, h3⟩ := h
  refine (chan_remove h1 t n c' hn hs).mono ?_
  rintro e w' ⟨he, hf, hc⟩
  exact ⟨he, .step h2 h3 hf hc fun k q => .inl q⟩
theorem One.drop (h : One w0 w b c) (d : Bool) (c' : ChS) (hr : c.dropR = d) (hs : c.dropS = c') :
    Calls Try.prog 23 #[.pointer (some ⟨b, 0, none⟩)] w fun e w' => e = .returned (.bool d) ∧ One w0 w' b c' := by
  obtain ⟨S, h1, h2, h3⟩ := h
  refine (chan_drop h1 d hr hs).mono ?_
  rintro e w' ⟨he, hf, hc⟩
  exact ⟨he, .step h2 h3 hf hc fun k q => .inl q⟩
theorem One.can (h : One w0 w b c) (s r : Bool) (hr : c.canR s = r) :
    Calls Try.prog 25 #[.pointer (some ⟨b, 0, none⟩), .bool s] w fun e w' => e = .returned (.bool r) ∧ One w0 w' b c := by
  obtain ⟨S, h1, h2, h3⟩ := h
  refine (chan_can h1 s r hr).mono ?_
  rintro e w' ⟨he, m, rfl⟩
  exact ⟨he, S, h1.fr0 ((Fr.refl Nob w).drewN m), h2, h3.drewN m⟩
theorem One.len (h : One w0 w b c) (n : Nat) (hn : c.lenR = n) : Calls Try.prog 16 #[.pointer (some ⟨b, 0, none⟩)] w fun e w' => e = .returned (.int .i64 (n : Int)) ∧ w = w' := by
  obtain ⟨S, h1, h2, h3⟩ := h; exact chan_len w S b c h1 n hn
theorem One.cap (h : One w0 w b c) (n : Nat) (hn : c.capR = n) : Calls Try.prog 24 #[.pointer (some ⟨b, 0, none⟩)] w fun e w' => e = .returned (.int .i64 (n : Int)) ∧ w = w' := by
  obtain ⟨S, h1, h2, h3⟩ := h; exact chan_cap w S b c h1 n hn
theorem One.closed (h : One w0 w b c) (m : Bool) (hm : c.closed = m) : Calls Try.prog 28 #[.pointer (some ⟨b, 0, none⟩)] w fun e w' => e = .returned (.bool m) ∧ w = w' := by
  obtain ⟨S, h1, h2, h3⟩ := h; exact chan_closed w S b c h1 m hm
theorem One.waiting (h : One w0 w b c) (s : Bool) (n : Nat) (hn : (c.queue s).length = n) : Calls Try.prog 17 #[.pointer (some ⟨b, 0, none⟩), .bool s] w fun e w' => ∃ (A : Option Addr) (cp : Nat), e = .returned (.slice A n cp) ∧ One w0 w' b c := by
  obtain ⟨S, h1, h2, h3⟩ := h
  refine (chan_waiting w S b c h1 s _ n rfl hn).mono ?_
  rintro e w' ⟨v, he, hf, hs⟩
  obtain ⟨A, cp, rfl⟩ := hs.slice
  exact ⟨A, cp, he, S, h1.fr0 hf, h2, h3.trans0 hf⟩
end
theorem rd_one {w : World} {A : Option Addr} {cp : Nat} {k : Wk} (h : Rd w 5 (.slice A 1 cp) 1 (wks [k])) : ∃ g o, A = some ⟨g, o, none⟩ ∧ 1 ≤ cp ∧ WkAt w g o k := by
  obtain ⟨_, _, A', c', hv, hc1, hc2, hA⟩ := h
  cases hv
  obtain ⟨g, o, rfl, hg, hc⟩ := hA (by omega)
  exact ⟨g, o, rfl, hc1, hc 0 _ rfl, hc 1 _ rfl, hc 2 _ rfl, hc 3 _ rfl, hc 4 _ rfl⟩
end Go.Proofs.Ytfpcnagimjmkpaa
