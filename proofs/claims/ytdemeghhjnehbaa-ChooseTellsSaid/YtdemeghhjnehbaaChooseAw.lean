/- The closed part of the statements of chapter 10: awake answers true, in whatever memory. -/
import Derived.Test.YtdemeghhjnehbaaChoosePark
import Derived.Test.YtdemeghhjnehbaaAlike
set_option linter.unusedVariables false
set_option linter.unusedSimpArgs false
namespace Go.Proofs.Ytdemeghhjnehbaa
open Go.RowKit
set_option maxRecDepth 100000
def B3 (a b c : Nat) : Nat → Nat := fun i => if i = 0 then a else if i = 1 then b else if i = 2 then c else 0
def P3 (x y z : Option ChS) : Nat → Option ChS := fun i => if i = 0 then x else if i = 1 then y else if i = 2 then z else none
theorem B3_0 (a b c d : Nat) : upd (B3 a b c) 0 d = B3 d b c := by funext i; unfold upd B3; split <;> simp_all
theorem B3_1 (a b c d : Nat) : upd (B3 a b c) 1 d = B3 a d c := by funext i; unfold upd B3; by_cases h : i = 0 <;> by_cases h1 : i = 1 <;> simp_all
theorem B3_2 (a b c d : Nat) : upd (B3 a b c) 2 d = B3 a b d := by funext i; unfold upd B3; by_cases h : i = 0 <;> by_cases h1 : i = 1 <;> by_cases h2 : i = 2 <;> simp_all
theorem P3_0 (a b c d : Option ChS) : upd (P3 a b c) 0 d = P3 d b c := by funext i; unfold upd P3; split <;> simp_all
theorem P3_1 (a b c d : Option ChS) : upd (P3 a b c) 1 d = P3 a d c := by funext i; unfold upd P3; by_cases h : i = 0 <;> by_cases h1 : i = 1 <;> simp_all
theorem P3_2 (a b c d : Option ChS) : upd (P3 a b c) 2 d = P3 a b d := by funext i; unfold upd P3; by_cases h : i = 0 <;> by_cases h1 : i = 1 <;> by_cases h2 : i = 2 <;> simp_all
theorem P3_none : (fun _ => none) = P3 none none none := by funext i; unfold P3; simp
theorem pool_new {w : World} {S : Nat → Prop} {B : Nat → Nat} {P : Nat → Option ChS} (h : Pool w S B P) (i size : Nat) (hs : size ≤ 64) :
    Calls Try.prog 10 #[.int .i64 (size : Int)] w fun e w' => ∃ b : Nat, e = .returned (.tuple #[.pointer (some ⟨b, 0, none⟩), .int .i64 0]) ∧ Fr Nob w w' ∧ Pool w' (And' S w w') (upd B i b) (upd P i (some (chNew size))) := by
  refine (chan_new w size hs).mono ?_
  rintro e w' ⟨b, T, rfl, hf, hc, hT⟩
  exact ⟨b, rfl, hf, h.add i hf hc hT⟩
theorem pool_timed {w : World} {S : Nat → Prop} {B : Nat → Nat} {P : Nat → Option ChS} (h : Pool w S B P) (i : Nat) :
    Calls Try.prog 28 #[] w fun e w' => ∃ b : Nat, e = .returned (.pointer (some ⟨b, 0, none⟩)) ∧ Fr Nob w w' ∧ Pool w' (And' S w w') (upd B i b) (upd P i (some chTimed)) := by
  refine (chan_timed w).mono ?_
  rintro e w' ⟨b, T, rfl, hf, hc, hT⟩
  exact ⟨b, rfl, hf, h.add i hf hc hT⟩
/-- A block that is kept: off the channels. -/
structure Kp (S : Nat → Prop) (w : World) (k : Nat) (o : Obj) : Prop where
  blk : w.heap[k]? = some o
  off : ¬ S k
section
variable {S : Nat → Prop} {w w' : World} {k : Nat} {o : Obj}
theorem Kp.fr0 (h : Kp S w k o) (hf : Fr Nob w w') : Kp S w' k o := ⟨hf.blk id h.blk, h.off⟩
theorem Kp.fr (h : Kp S w k o) (hf : Fr S w w') : Kp S w' k o := ⟨hf.blk h.off h.blk, h.off⟩
theorem Kp.grow (h : Kp S w k o) (hf : Fr S w w') : Kp (And' S w w') w' k o := ⟨hf.blk h.off h.blk, fun q => by rcases q with q | q; exact h.off q; have := lt_of_block h.blk; omega⟩
theorem Kp.add (h : Kp S w k o) (hf : Fr Nob w w') : Kp (And' S w w') w' k o := h.grow hf.none
theorem Kp.new (hS : ∀ k, S k → k < w.heap.size) (o : Obj) : Kp S (w.alloc o) w.heap.size o := ⟨heap_alloc_new _ _, fun q => by have := hS _ q; omega⟩
end
theorem rd_lit {w : World} {b : Nat} {blk : Array Value} {T : TypeId} (h : w.heap[b]? = some (.cells blk T (0, 0))) (n sz : Nat) (hs : blk.size = n * sz) (hn : n ≤ maxLen) : Rd w sz (.slice (some ⟨b, 0, none⟩) n n) n blk.toList :=
  ⟨by simpa using hs, hn, _, _, rfl, Nat.le_refl _, hn, fun _ => ⟨b, 0, rfl, lt_of_block h, fun j u hj => by rw [Nat.zero_add]; exact blk_cell h j (by simpa using hj)⟩⟩
theorem sl_lit {w : World} {b : Nat} {blk : Array Value} {T : TypeId} (h : w.heap[b]? = some (.cells blk T (0, 0))) (n sz : Nat) (hs : blk.size = n * sz) (hn : n ≤ maxLen) : Sl w (fun k => k = b) T sz (.slice (some ⟨b, 0, none⟩) n n) n blk.toList :=
  ⟨by simpa using hs, .inr ⟨b, 0, n, blk, rfl, rfl, h, Nat.le_refl _, hn, by omega, fun j u hj => by simpa using hj⟩⟩
theorem pool_lt {w : World} {S : Nat → Prop} {w' : World} (hS : ∀ k, S k → k < w.heap.size) (hz : w.heap.size ≤ w'.heap.size) : ∀ k, And' S w w' k → k < w'.heap.size := fun k q => by
  rcases q with q | q
  · have := hS k q; omega
  · exact q.2
abbrev resO (i v : Int) (ok pn pk kd : Bool) : Obj := .cells #[.int .i64 i, .int .i64 v, .bool ok, .bool pn, .bool pk, .bool kd] 31
end Go.Proofs.Ytdemeghhjnehbaa
