/- What a law of chapter 10 has in memory: channels that lie apart, a row of cases, a row of numbers. -/
import Derived.Test.YtdemeghhjnehbaaChoosePl
set_option linter.unusedVariables false
set_option linter.unusedSimpArgs false
namespace Go.Proofs.Ytdemeghhjnehbaa
open Go.RowKit
set_option maxRecDepth 100000
structure Mk (w0 w : World) (S T U : Nat → Prop) (B : Nat → Nat) (P : Nat → Option ChS) (vl : Value) (n : Nat) (l : List Cs) (vw : Value) (m : Nat) (r : List Int) : Prop where
  fr : Fr Nob w0 w
  s : ∀ k, S k → w0.heap.size ≤ k ∧ k < w.heap.size
  t : ∀ k, T k → w0.heap.size ≤ k ∧ k < w.heap.size
  u : ∀ k, U k → w0.heap.size ≤ k ∧ k < w.heap.size
  st : ∀ k, S k → T k → False
  su : ∀ k, S k → U k → False
  tu : ∀ k, T k → U k → False
  pool : Pool w S B P
  sl : Sl w T 29 3 vl n (css B l)
  sw : Sl w U 3 1 vw m (ints r)
section
variable {w0 w w' : World} {S T U : Nat → Prop} {B : Nat → Nat} {P : Nat → Option ChS} {vl vw : Value} {n m : Nat} {l : List Cs} {r : List Int}
theorem Mk.start (w0 : World) (B : Nat → Nat) : Mk w0 w0 Nob Nob Nob B (fun _ => none) (.slice none 0 0) 0 [] (.slice none 0 0) 0 [] :=
  ⟨Fr.refl _ _, fun _ q => q.elim, fun _ q => q.elim, fun _ q => q.elim, fun _ q _ => q, fun _ q _ => q, fun _ q _ => q, Pool.start _ _ _, Sl.nil _ _ _ _, Sl.nil _ _ _ _⟩
theorem grow {S : Nat → Prop} (h : ∀ k, S k → w0.heap.size ≤ k ∧ k < w.heap.size) (hz : w.heap.size ≤ w'.heap.size) : ∀ k, S k → w0.heap.size ≤ k ∧ k < w'.heap.size := fun k q => ⟨(h k q).1, by have := (h k q).2; omega⟩
theorem growA {S : Nat → Prop} (h0 : w0.heap.size ≤ w.heap.size) (h : ∀ k, S k → w0.heap.size ≤ k ∧ k < w.heap.size) (hz : w.heap.size ≤ w'.heap.size) : ∀ k, And' S w w' k → w0.heap.size ≤ k ∧ k < w'.heap.size := fun k q => by
  rcases q with q | q
  · exact grow h hz k q
  · exact ⟨by omega, q.2⟩
theorem apart {S T : Nat → Prop} (ht : ∀ k, T k → w0.heap.size ≤ k ∧ k < w.heap.size) (h : ∀ k, S k → T k → False) : ∀ k, And' S w w' k → T k → False := fun k q q' => by
  rcases q with q | q
  · exact h k q q'
  · have := (ht k q').2; omega
theorem Mk.fr0 (h : Mk w0 w S T U B P vl n l vw m r) (hf : Fr Nob w w') : Mk w0 w' S T U B P vl n l vw m r :=
  ⟨h.fr.trans0 hf, grow h.s hf.size, grow h.t hf.size, grow h.u hf.size, h.st, h.su, h.tu, h.pool.fr0 hf, h.sl.fr hf fun _ _ q => q, h.sw.fr hf fun _ _ q => q⟩
theorem Mk.turn (h : Mk w0 w S T U B P vl n l vw m r) {P' : Nat → Option ChS} (hf : Fr S w w') (hp : Pool w' S B P') : Mk w0 w' S T U B P' vl n l vw m r :=
  ⟨h.fr.trans hf fun k hk q => by have := (h.s k q).1; omega, grow h.s hf.size, grow h.t hf.size, grow h.u hf.size, h.st, h.su, h.tu, hp, h.sl.fr hf fun k q q' => h.st k q' q, h.sw.fr hf fun k q q' => h.su k q' q⟩
theorem Mk.wait (h : Mk w0 w S T U B P vl n l vw m r) {P' : Nat → Option ChS} (hf : Fr S w w') (hp : Pool w' (And' S w w') B P') : Mk w0 w' (And' S w w') T U B P' vl n l vw m r :=
  ⟨h.fr.trans hf fun k hk q => by have := (h.s k q).1; omega, growA h.fr.size h.s hf.size, grow h.t hf.size, grow h.u hf.size, apart h.t h.st, apart h.u h.su, h.tu, hp, h.sl.fr hf fun k q q' => h.st k q' q, h.sw.fr hf fun k q q' => h.su k q' q⟩
theorem Mk.add (h : Mk w0 w S T U B P vl n l vw m r) (j : Nat) {X : Nat → Prop} {b : Nat} {c : ChS} (hf : Fr Nob w w') (hc : ChanAt w' X b c) (hX : ∀ k, X k → w.heap.size ≤ k) (hj : ∀ x ∈ l, ∀ i, x.1 = some i → i ≠ j) : Mk w0 w' (And' S w w') T U (upd B j b) (upd P j (some c)) vl n l vw m r :=
  ⟨h.fr.trans0 hf, growA h.fr.size h.s hf.size, grow h.t hf.size, grow h.u hf.size, apart h.t h.st, apart h.u h.su, h.tu, h.pool.add j hf hc hX, by
    rw [css_same (B := B) l fun x hx i hi => upd_ne _ _ (hj x hx i hi)]
    exact h.sl.fr hf fun _ _ q => q, h.sw.fr hf fun _ _ q => q⟩
theorem Mk.appL (h : Mk w0 w S T U B P vl n l vw m r) {vl' : Value} {x : Cs} (hf : Fr T w w') (hs : Sl w' (fun k => T k ∨ w.heap.size ≤ k) 29 3 vl' (n + 1) (css B l ++ csEn B x)) : Mk w0 w' S (And' T w w') U B P vl' (n + 1) (l ++ [x]) vw m r :=
  ⟨h.fr.trans hf fun k hk q => by have := (h.t k q).1; omega, grow h.s hf.size, growA h.fr.size h.t hf.size, grow h.u hf.size, fun k q q' => apart h.s (fun k a b => h.st k b a) k q' q, h.su, apart h.u h.tu, h.pool.fr hf h.st, by
    rw [show css B (l ++ [x]) = css B l ++ csEn B x by simp [css]]
    exact hs.mono fun k hk q => there k hk q, h.sw.fr hf fun k q q' => h.tu k q' q⟩
theorem Mk.appW (h : Mk w0 w S T U B P vl n l vw m r) {vw' : Value} {x : Int} (hf : Fr U w w') (hs : Sl w' (fun k => U k ∨ w.heap.size ≤ k) 3 1 vw' (m + 1) (ints r ++ [.int .i64 x])) : Mk w0 w' S T (And' U w w') B P vl n l vw' (m + 1) (r ++ [x]) :=
  ⟨h.fr.trans hf fun k hk q => by have := (h.u k q).1; omega, grow h.s hf.size, grow h.t hf.size, growA h.fr.size h.u hf.size, h.st, fun k q q' => apart h.s (fun k a b => h.su k b a) k q' q, fun k q q' => apart h.t (fun k a b => h.tu k b a) k q' q, h.pool.fr hf h.su, h.sl.fr hf fun k q q' => h.tu k q q', by
    rw [show ints (r ++ [x]) = ints r ++ [.int .i64 x] by simp [ints]]
    exact hs.mono fun k hk q => there k hk q⟩
end
end Go.Proofs.Ytdemeghhjnehbaa
