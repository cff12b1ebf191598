/- The document's own channel: one block and three slices; what its small functions do. -/
import Derived.Test.YtdemeghhjnehbaaChanShut
import Derived.Test.YtdemeghhjnehbaaMoreD
set_option linter.unusedVariables false
set_option linter.unusedSimpArgs false
namespace Go.Proofs.Ytdemeghhjnehbaa
open Go.RowKit
set_option maxRecDepth 100000
def refObj (c : ChS) (v1 v2 v3 : Value) : Obj := .cells #[.int .i64 (c.size : Int), .bool c.timed, .bool c.signal, .bool c.closed, v1, v2, v3] 100 (0, 0)
structure RfP (w : World) (S : Nat → Prop) (b : Nat) (c : ChS) (v1 v2 v3 : Value) : Prop where
  own : S b
  lt : ∀ k, S k → k < w.heap.size
  blk : w.heap[b]? = some (refObj c v1 v2 v3)
  buf : Sl w (fun k => S k ∧ k ≠ b) 3 1 v1 c.q.length (ints c.q)
  sd : Sl w (fun k => S k ∧ k ≠ b) 63 3 v2 c.sd.length (waits c.sd)
  rv : Sl w (fun k => S k ∧ k ≠ b) 63 3 v3 c.rv.length (waits c.rv)
def RefAt (w : World) (S : Nat → Prop) (b : Nat) (c : ChS) : Prop := ∃ v1 v2 v3, RfP w S b c v1 v2 v3
section
variable {w w' w1 : World} {S : Nat → Prop} {b : Nat} {c : ChS} {v1 v2 v3 : Value}
theorem RfP.fr (h : RfP w S b c v1 v2 v3) {F : Nat → Prop} (hf : Fr F w w') (hd : ∀ k, S k → F k → False) : RfP w' S b c v1 v2 v3 :=
  ⟨h.own, fun k q => by have := h.lt k q; have := hf.size; omega, hf.blk (hd _ h.own) h.blk, h.buf.fr hf fun k q => hd k q.1, h.sd.fr hf fun k q => hd k q.1, h.rv.fr hf fun k q => hd k q.1⟩
theorem RfP.fr0 (h : RfP w S b c v1 v2 v3) (hf : Fr Nob w w') : RfP w' S b c v1 v2 v3 := h.fr hf fun _ _ q => q
theorem RefAt.fr (h : RefAt w S b c) {F : Nat → Prop} (hf : Fr F w w') (hd : ∀ k, S k → F k → False) : RefAt w' S b c := by
  obtain ⟨v1, v2, v3, h⟩ := h; exact ⟨_, _, _, h.fr hf hd⟩
theorem RefAt.fr0 (h : RefAt w S b c) (hf : Fr Nob w w') : RefAt w' S b c := h.fr hf fun _ _ q => q
theorem RefAt.lt (h : RefAt w S b c) : ∀ k, S k → k < w.heap.size := by obtain ⟨v1, v2, v3, h⟩ := h; exact h.lt
theorem setCell_size (w : World) (p : Addr) (v : Value) : (w.setCell p v).heap.size = w.heap.size := by simp
/-- A store into the channel's own block, behind what was made. -/
theorem RfP.frs (h : RfP w S b c v1 v2 v3) (hf : Fr Nob w w1) (o : Nat) (v : Value) : Fr (fun k => k = b) w (w1.setCell ⟨b, o, none⟩ v) := hf.none.trans0 ((Fr.refl (fun k => k = b) w1).setCell (p := ⟨b, o, none⟩) (.inl rfl) v)
theorem old_sl {T : TypeId} {sz n : Nat} {u x : Value} {cs : List Value} {o : Nat} (h : Sl w (fun k => S k ∧ k ≠ b) T sz x n cs) (hf : Fr Nob w w1) : Sl (w1.setCell ⟨b, o, none⟩ u) (fun k => And' S w w1 k ∧ k ≠ b) T sz x n cs :=
  ((h.fr hf fun _ _ q => q).fr ((Fr.refl (fun k => k = b) w1).setCell (p := ⟨b, o, none⟩) (.inl rfl) u) fun k q e => q.2 e).mono fun k hk q => ⟨.inl q.1, q.2⟩
theorem new_sl {T : TypeId} {sz n : Nat} {u x : Value} {cs : List Value} {o : Nat} (hb : b < w.heap.size) (hs : Sl w1 (From w.heap.size) T sz x n cs) : Sl (w1.setCell ⟨b, o, none⟩ u) (fun k => And' S w w1 k ∧ k ≠ b) T sz x n cs :=
  (hs.fr ((Fr.refl (fun k => k = b) w1).setCell (p := ⟨b, o, none⟩) (.inl rfl) u) fun k q e => by unfold From at q; omega).mono fun k hk q => ⟨.inr ⟨q, by rw [setCell_size] at hk; exact hk⟩, by unfold From at q; omega⟩
theorem new_lt (h : RfP w S b c v1 v2 v3) (hf : Fr Nob w w1) (o : Nat) (v : Value) : ∀ k, And' S w w1 k → k < (w1.setCell ⟨b, o, none⟩ v).heap.size := fun k q => by
  rw [setCell_size]
  rcases q with q | q
  · have := h.lt k q; have := hf.size; omega
  · exact q.2
theorem RfP.setQ (h : RfP w S b c v1 v2 v3) (hf : Fr Nob w w1) (q : List Int) (n : Nat) (hn : q.length = n) (v : Value) (hs : Sl w1 (From w.heap.size) 3 1 v n (ints q)) : RfP (w1.setCell ⟨b, 4, none⟩ v) (And' S w w1) b { c with q := q } v v2 v3 := by
  subst hn
  refine ⟨.inl h.own, new_lt h hf _ _, ?_, new_sl (lt_of_block h.blk) hs, old_sl h.sd hf, old_sl h.rv hf⟩
  have := blk_set (hf.blk id h.blk) 4 v
  rw [this]; rfl
theorem RfP.setSd (h : RfP w S b c v1 v2 v3) (hf : Fr Nob w w1) (l : List Wt) (n : Nat) (hn : l.length = n) (v : Value) (hs : Sl w1 (From w.heap.size) 63 3 v n (waits l)) : RfP (w1.setCell ⟨b, 5, none⟩ v) (And' S w w1) b { c with sd := l } v1 v v3 := by
  subst hn
  refine ⟨.inl h.own, new_lt h hf _ _, ?_, old_sl h.buf hf, new_sl (lt_of_block h.blk) hs, old_sl h.rv hf⟩
  have := blk_set (hf.blk id h.blk) 5 v
  rw [this]; rfl
theorem RfP.setRv (h : RfP w S b c v1 v2 v3) (hf : Fr Nob w w1) (l : List Wt) (n : Nat) (hn : l.length = n) (v : Value) (hs : Sl w1 (From w.heap.size) 63 3 v n (waits l)) : RfP (w1.setCell ⟨b, 6, none⟩ v) (And' S w w1) b { c with rv := l } v1 v2 v := by
  subst hn
  refine ⟨.inl h.own, new_lt h hf _ _, ?_, old_sl h.buf hf, old_sl h.sd hf, new_sl (lt_of_block h.blk) hs⟩
  have := blk_set (hf.blk id h.blk) 6 v
  rw [this]; rfl
/-- The cells of the channel's block, its slices with their lengths. -/
theorem RfP.cells (h : RfP w S b c v1 v2 v3) : ∃ (A1 : Option Addr) (c1 : Nat) (A2 : Option Addr) (c2 : Nat) (A3 : Option Addr) (c3 : Nat), v1 = .slice A1 c.q.length c1 ∧ v2 = .slice A2 c.sd.length c2 ∧ v3 = .slice A3 c.rv.length c3 ∧
    w.cell? ⟨b, 0, none⟩ = some (.int .i64 (c.size : Int)) ∧ w.cell? ⟨b, 1, none⟩ = some (.bool c.timed) ∧ w.cell? ⟨b, 2, none⟩ = some (.bool c.signal) ∧ w.cell? ⟨b, 3, none⟩ = some (.bool c.closed) ∧
    w.cell? ⟨b, 4, none⟩ = some (.slice A1 c.q.length c1) ∧ w.cell? ⟨b, 5, none⟩ = some (.slice A2 c.sd.length c2) ∧ w.cell? ⟨b, 6, none⟩ = some (.slice A3 c.rv.length c3) := by
  obtain ⟨A1, c1, rfl⟩ := h.buf.slice
  obtain ⟨A2, c2, rfl⟩ := h.sd.slice
  obtain ⟨A3, c3, rfl⟩ := h.rv.slice
  exact ⟨A1, c1, A2, c2, A3, c3, rfl, rfl, rfl, blk_cell h.blk 0 rfl, blk_cell h.blk 1 rfl, blk_cell h.blk 2 rfl, blk_cell h.blk 3 rfl, blk_cell h.blk 4 rfl, blk_cell h.blk 5 rfl, blk_cell h.blk 6 rfl⟩
end
section
variable {w : World} {S : Nat → Prop} {b : Nat} {c : ChS} (h : RefAt w S b c)
include h
theorem ref_len (n : Nat) (hn : c.lenR = n) : Calls Try.prog 63 #[.pointer (some ⟨b, 0, none⟩)] w fun e w' => e = .returned (.int .i64 (n : Int)) ∧ w = w' := by
  obtain ⟨v1, v2, v3, h⟩ := h
  obtain ⟨A1, c1, A2, c2, A3, c3, -, -, -, p0, p1, p2, p3, p4, p5, p6⟩ := h.cells
  unfold ChS.lenR at hn
  clear h
  generalize c.q.length = q at *
  generalize c.timed = t at *
  cases t with
  | true =>
    obtain rfl : n = 0 := by simpa using hn.symm
    go_enter Try.func63, Try.ntmps63
    go_wp2_with fail
    go_ret
    exact ⟨rfl, rfl⟩
  | false =>
    obtain rfl : n = q := by simpa using hn.symm
    go_enter Try.func63, Try.ntmps63
    go_wp2_with fail
    go_ret
    exact ⟨rfl, rfl⟩
theorem ref_cap (n : Nat) (hn : c.capR = n) : Calls Try.prog 64 #[.pointer (some ⟨b, 0, none⟩)] w fun e w' => e = .returned (.int .i64 (n : Int)) ∧ w = w' := by
  obtain ⟨v1, v2, v3, h⟩ := h
  obtain ⟨A1, c1, A2, c2, A3, c3, -, -, -, p0, p1, p2, p3, p4, p5, p6⟩ := h.cells
  unfold ChS.capR at hn
  clear h
  generalize c.size = q at *
  generalize c.timed = t at *
  cases t with
  | true =>
    obtain rfl : n = 0 := by simpa using hn.symm
    go_enter Try.func64, Try.ntmps64
    go_wp2_with fail
    go_ret
    exact ⟨rfl, rfl⟩
  | false =>
    obtain rfl : n = q := by simpa using hn.symm
    go_enter Try.func64, Try.ntmps64
    go_wp2_with fail
    go_ret
    exact ⟨rfl, rfl⟩
end
/-- An act of the document's channel: what becomes of it. -/
def RfTo (w : World) (S : Nat → Prop) (b : Nat) (c' : ChS) (w' : World) : Prop := Fr S w w' ∧ ∃ S' : Nat → Prop, RefAt w' S' b c' ∧ ∀ k, S' k → S k ∨ w.heap.size ≤ k
theorem RfTo.same {w w' : World} {S : Nat → Prop} {b : Nat} {c : ChS} (h : RefAt w S b c) (hf : Fr Nob w w') : RfTo w S b c w' := ⟨hf.none, S, h.fr0 hf, fun _ q => .inl q⟩
theorem RfTo.set {w w1 w' : World} {S : Nat → Prop} {b o : Nat} {c c' : ChS} {v1 v2 v3 u1 u2 u3 v : Value} (h : RfP w S b c v1 v2 v3) (hf : Fr Nob w w1) (hs : RfP (w1.setCell ⟨b, o, none⟩ v) (And' S w w1) b c' u1 u2 u3) (hf' : Fr Nob (w1.setCell ⟨b, o, none⟩ v) w') : RfTo w S b c' w' :=
  ⟨(((h.frs hf o v).mono fun k _ e => e ▸ h.own).trans0 hf'.none), And' S w w1, ⟨_, _, _, hs.fr0 hf'⟩, fun k q => by rcases q with q | q; exact .inl q; exact .inr q.1⟩
theorem ref_drop {w : World} {S : Nat → Prop} {b : Nat} {c c' : ChS} (h : RefAt w S b c) (d : Bool) (hr : c.dropR = d) (hs : c.dropS = c') :
    Calls Try.prog 56 #[.pointer (some ⟨b, 0, none⟩)] w fun e w' => e = .returned (.bool d) ∧ RfTo w S b c' w' := by
  obtain ⟨v1, v2, v3, h⟩ := h
  have Hno := Lib.hid (fun W (hW : Fr Nob w W) (hc : c = c') => (hc ▸ RfTo.same ⟨v1, v2, v3, h⟩ hW : RfTo w S b c' W))
  have Hyes := Lib.hid (fun (hc : { c with q := [] } = c') => (hc ▸ RfTo.set h (Fr.refl _ _) (h.setQ (Fr.refl _ _) [] 0 rfl (.slice none 0 0) (Sl.nil _ _ _ _)) (Fr.refl _ _) : RfTo w S b c' _))
  obtain ⟨A1, c1, A2, c2, A3, c3, -, -, -, p0, p1, p2, p3, p4, p5, p6⟩ := h.cells
  have f4 := blk_froz h.blk 4
  unfold ChS.dropR at hr
  unfold ChS.dropS at hs
  have hq : c.timed = true → c.q.length = 0 → c = c' := fun h1 h2 => by
    rw [← hs, if_pos h1]
    have : c.q = [] := List.eq_nil_of_length_eq_zero h2
    cases c; simp_all
  have Hq := Lib.hid hq; have Hs := Lib.hid hs
  clear h hs hq
  generalize htt : c.timed = t at *
  generalize hqq : c.q.length = q at *
  clear htt hqq
  cases t with
  | false =>
    obtain rfl : d = false := by simpa using hr.symm
    go_enter Try.func56, Try.ntmps56
    go_wp2_with fail
    go_ret
    exact ⟨rfl, Hno.out _ (Fr.refl _ _) (by have := Hs.out; simpa using this)⟩
  | true =>
    cases q with
    | zero =>
      obtain rfl : d = false := by simpa using hr.symm
      go_enter Try.func56, Try.ntmps56
      go_wp2_with fail
      go_ret
      exact ⟨rfl, Hno.out _ (Fr.refl _ _) (Hq.out (by simp) (by simp))⟩
    | succ q =>
      obtain rfl : d = true := by simpa using hr.symm
      have e0 : (((q + 1 : Nat) : Int) == 0) = false := by rw [beq_eq_false_iff_ne]; omega
      have e1 : ¬ ((q + 1 : Nat) : Int) = 0 := by omega
      go_enter Try.func56, Try.ntmps56
      go_wp2_with fail
      go_ret
      exact ⟨rfl, Hyes.out (by have := Hs.out; simpa using this)⟩
theorem ref_timed (w : World) : Calls Try.prog 45 #[] w fun e w' => ∃ (b : Nat) (S : Nat → Prop), e = .returned (.pointer (some ⟨b, 0, none⟩)) ∧ Fr Nob w w' ∧ RefAt w' S b chTimed ∧ ∀ k, S k → w.heap.size ≤ k := by
  go_enter Try.func45, Try.ntmps45
  go_wp2_with fail
  go_ret
  exact ⟨w.heap.size, fun k => k = w.heap.size, rfl, (Fr.refl _ _).alloc _, ⟨_, _, _, rfl, fun k q => by simp; omega, heap_alloc_new _ _, Sl.nil _ _ _ _, Sl.nil _ _ _ _, Sl.nil _ _ _ _⟩, fun k q => by omega⟩
end Go.Proofs.Ytdemeghhjnehbaa
