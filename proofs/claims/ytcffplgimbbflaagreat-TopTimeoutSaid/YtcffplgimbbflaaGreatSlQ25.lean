/- Who waits on a channel, from outside; what two laws need. -/
import Derived.Test.YtcffplgimbbflaaGreatSlQ24
set_option linter.unusedVariables false
set_option linter.unusedSimpArgs false
namespace Go.Proofs.YtcffplgimbbflaaGreat
open Go.RowKit
set_option maxRecDepth 100000
/-- A call of a Go function as one step of a region that draws. -/
theorem step_call {P : Program} {ops : Array Oper} {o : Oper} {a : Act} {K : Act → World → Prop} {Q : Exit → Act → World → Prop} {E : Prop} (w : World) (hg : o.guard = none) (f : FuncId) (x : Array Operand) (ts : Array TypeId)
    (ho : o.op = .call { callee := .value (.func f), args := x, argTypes := ts }) (fn : Func) (hfn : P.funcs[f]? = some fn) (hnm : fn.name ≠ "runtime.NumGoroutine") (hb : fn.body ≠ none) (args : Array Value) (hx : x.map a.eval = args) (R : Ending → World → Prop) (hc : Calls P f args w R) (h : ∀ e w', R e w' → ∃ v, e = .returned v ∧ K (a.put o.dst v) w') :
    if Region.wanted o (yielded ops a.tmps) = true then Oper.wp P o a w K Q else E := by
  have hw : Region.wanted o (yielded ops a.tmps) = true := by simp [Region.wanted, hg]
  rw [if_pos hw]
  have hrun : (callFunc f (args ++ #[])).run P w = .ok (.enter f args) w := by
    simp [callFunc, go_sem, hfn, hnm, hb]
  unfold Oper.wp execOp
  simp only [ho, resolve, invoke, Sem.run_bind, Sem.run_pure, Result.andThen_ok, hx]
  have e : a.eval (.func f) = .func (.func f) #[] #[] := rfl
  rw [e]
  simp only [Deferred.ofValue, Sem.run_bind, Sem.run_pure, Result.andThen_ok, Array.empty_append, hrun]
  simp only [Oper.upon]
  refine Calls.mono hc fun e w' he => ?_
  obtain ⟨v, rfl, hk⟩ := h e w' he
  exact hk
theorem Tryz.info_prog : (Tryz.prog.info? 28).map (fun i => (i.zero, i.size, i.bytes)) = some (some (.slice none 0 0), 1, 24) := by kernel_rfl
def ws00 : WS := ⟨0, [], [], fun _ => none, 0, 0, [], 0, [], 0, fun _ => none, [⟨0, true, none, 0, 0, 0, false, false⟩], [(-1, false)], 0, []⟩
/-- A world at its start. -/
def ws0 : WS := { ws00 with ts := [(newT 0 (fun _ => 0), false, [])], line := [0] }
def newF (wb cb : Nat) (S2 S4 S5 S6 : Nat → Prop) : Nat → Nat → Prop := fun p k => (p = 0 ∧ k = wb) ∨ (p = 1 ∧ k = cb) ∨ (p = 2 ∧ S2 k) ∨ (p = 4 ∧ S4 k) ∨ (p = 5 ∧ S5 k) ∨ (p = 6 ∧ S6 k)
theorem TableAt.lt {w : World} {S : Nat → Prop} {b : Nat} {ts : List Tk} {line : List Int} (h : TableAt w S b ts line) : ∀ k, S k → k < w.heap.size := by
  obtain ⟨ab, lb, SA, SL, h⟩ := h; exact h.lt
/-- The parts of a new world, but for its programs. -/
theorem new_parts {w1 w2 w3 w4 w5 w6 : World} {cb tb mb db xb : Nat} {S2 S4 S5 S6 : Nat → Prop} (hcb : cb < w1.heap.size) (hclk : w1.heap[cb]? = some (.cells #[inV 0] 93 (0, 0)))
    (f2 : Fr Nob w1 w2) (ht : TableAt w2 S2 tb [] []) (h2 : ∀ k, S2 k → w1.heap.size ≤ k) (f3 : Fr Nob w2 w3) (hm : TmAt w3 S4 mb [] 0 [] 0 (fun _ => none) 0) (h4 : ∀ k, S4 k → w2.heap.size ≤ k)
    (f4 : Fr Nob w3 w4) (hd : DealAt w4 S6 db 0) (h6 : ∀ k, S6 k → w3.heap.size ≤ k) (h6' : ∀ k, S6 k → k < w4.heap.size)
    (e5 : w5 = w4.alloc (.cells #[.slice none 0 0, ptV cb, ptV tb, .slice none 0 0, inV 0, ptV mb, .pointer none, ptV db, .slice none 0 0, inV 0, .slice none 0 0] 69))
    (f6 : Fr Nob w5 w6) (hx : CxAt w6 S5 xb mb [⟨0, true, none, 0, 0, 0, false, false⟩] [(-1, false)] 1) (h5 : ∀ k, S5 k → w5.heap.size ≤ k) :
    WP (fun q => q = 8) (w6.setCell ⟨w4.heap.size, 6, none⟩ (ptV xb)) (newF w4.heap.size cb S2 S4 S5 S6) ⟨w4.heap.size, cb, tb, mb, xb, db, .slice none 0 0, .slice none 0 0, .slice none 0 0, .slice none 0 0, fun _ => 0, [], [], [⟨0, true, none, 0, 0, 0, false, false⟩]⟩ ([], fun _ => 0) ws00 0 1 := by
  have hz2 := f2.size; have hz3 := f3.size; have hz4 := f4.size; have hz6 := f6.size
  have hz5 : w5.heap.size = w4.heap.size + 1 := by rw [e5]; simp
  have f5 : Fr Nob w4 w5 := by rw [e5]; exact (Fr.refl Nob w4).alloc _
  have hb5 : w5.heap[w4.heap.size]? = some (.cells #[.slice none 0 0, ptV cb, ptV tb, .slice none 0 0, inV 0, ptV mb, .pointer none, ptV db, .slice none 0 0, inV 0, .slice none 0 0] 69 (0, 0)) := by rw [e5]; exact heap_alloc_new _ _
  obtain ⟨w7, hw7⟩ : ∃ w7, w7 = w6.setCell ⟨w4.heap.size, 6, none⟩ (ptV xb) := ⟨_, rfl⟩
  have f7 : Fr (fun k => k = w4.heap.size) w6 w7 := by rw [hw7]; exact (Fr.refl (fun k => k = w4.heap.size) w6).setB 6 _
  have hb7 := blk_set (f6.blk (fun q => q) hb5) 6 (ptV xb)
  rw [← hw7] at hb7 ⊢
  have hz7 := f7.size
  have l2 := ht.lt; have l4 := hm.lt; have l5 := hx.lt
  have key : ∀ p k, newF w4.heap.size cb S2 S4 S5 S6 p k → (p = 0 ∧ k = w4.heap.size) ∨ (p = 1 ∧ k < w1.heap.size) ∨ (p = 2 ∧ w1.heap.size ≤ k ∧ k < w2.heap.size) ∨ (p = 4 ∧ w2.heap.size ≤ k ∧ k < w3.heap.size) ∨ (p = 5 ∧ w5.heap.size ≤ k ∧ k < w6.heap.size) ∨ (p = 6 ∧ w3.heap.size ≤ k ∧ k < w4.heap.size) := fun p k q => by
    rcases q with ⟨rfl, rfl⟩ | ⟨rfl, rfl⟩ | ⟨rfl, q⟩ | ⟨rfl, q⟩ | ⟨rfl, q⟩ | ⟨rfl, q⟩
    · exact .inl ⟨rfl, rfl⟩
    · exact .inr (.inl ⟨rfl, hcb⟩)
    · exact .inr (.inr (.inl ⟨rfl, h2 k q, l2 k q⟩))
    · exact .inr (.inr (.inr (.inl ⟨rfl, h4 k q, l4 k q⟩)))
    · exact .inr (.inr (.inr (.inr (.inl ⟨rfl, h5 k q, l5 k q⟩))))
    · exact .inr (.inr (.inr (.inr (.inr ⟨rfl, h6 k q, h6' k q⟩))))
  have n2 : newF w4.heap.size cb S2 S4 S5 S6 2 = S2 := by funext k; simp [newF]
  have n4 : newF w4.heap.size cb S2 S4 S5 S6 4 = S4 := by funext k; simp [newF]
  have n5 : newF w4.heap.size cb S2 S4 S5 S6 5 = S5 := by funext k; simp [newF]
  have n6 : newF w4.heap.size cb S2 S4 S5 S6 6 = S6 := by funext k; simp [newF]
  have g4 : Fr Nob w2 w6 := f3.trans0 (f4.trans0 (f5.trans0 f6))
  refine ⟨fun p k q => ?_, fun p q k a b => ?_, .inl ⟨rfl, rfl⟩, .inr (.inl ⟨rfl, rfl⟩), fun _ => hb7, fun _ => f7.blk (show ¬ cb = w4.heap.size by omega) ((f2.trans0 g4).blk (fun q => q) hclk), fun _ => ?_, fun _ => Sl.nil _ _ _ _, fun _ => ?_, fun _ => ?_, fun _ => ?_, fun _ => ⟨0, [], Sl.nil _ _ _ _, Nat.le_refl _⟩, fun n => absurd rfl n, fun _ => Sl.nil _ _ _ _, fun _ => ⟨rfl, fun i t d cs hi => by simp [ws00] at hi⟩, fun _ => Pool.start _ _ _, fun i => by simp [ws00], ⟨rfl, fun x hx => by simp [ws00] at hx⟩, ⟨rfl, fun x hx i e => by simp [ws00] at hx; subst hx; cases e⟩, ⟨Nat.zero_le _, Nat.zero_le _, fun i hi => rfl⟩⟩
  · rcases key p k q with q | q | q | q | q | q <;> omega
  · rcases key p k a with a | a | a | a | a | a <;> rcases key q k b with b | b | b | b | b | b <;> omega
  · rw [n2]; exact TabAt.fr' (TabAt.fr' ht g4 fun _ _ q => q) f7 fun k a b => by have := l2 k a; omega
  · rw [n4]; exact ((hm.fr0 (f4.trans0 (f5.trans0 f6))).fr f7 fun k a b => by have := l4 k a; omega).mono (by omega)
  · rw [n5]; exact hx.fr f7 fun k a b => by have := h5 k a; omega
  · rw [n6]; exact (hd.fr (f5.trans0 f6) fun _ _ q => q).fr f7 fun k a b => by have := h6' k a; omega
/-- How far New is: the programs that are there. -/
structure NewSt (w wr : World) (F : Nat → Nat → Prop) (c : Cfg) (P L : List (List Ins)) (n k : Nat) (v : Value) (rows : List Value) (R0 R1 : Nat → Prop) : Prop where
  fr : Fr Nob w wr
  wp : WP (fun q => q = 8) wr F { c with vp := v } ([], fun _ => 0) ws00 0 1
  new : ∀ p q, F p q → w.heap.size ≤ q
  sl : Sl wr R0 28 1 v k rows
  r0 : ∀ q, R0 q → w.heap.size ≤ q ∧ q < wr.heap.size ∧ ∀ p, ¬ F p q
  r1 : ∀ q, R1 q → w.heap.size ≤ q ∧ q < wr.heap.size ∧ (∀ p, ¬ F p q) ∧ ¬ R0 q
  len : L.length = k
  row : ∀ (i : Nat) (p : List Ins), L[i]? = some p → ∃ r, rows[i]? = some r ∧ Sl wr R1 25 6 r p.length (p.flatMap insEn) ∧ ∀ y ∈ p, Sl wr R1 27 3 y.2.1 y.2.2.1.length (y.2.2.1.flatMap icsEn) ∧ (y.2.2.1 = [] → y.2.1 = .slice none 0 0)
  same : ∀ (i : Nat) (p : List Ins), i < k → P[i]? = some p → ∃ q, L[i]? = some q ∧ q.length = p.length ∧ ∀ (j : Nat) (y : Ins), p[j]? = some y → ∃ y', q[j]? = some y' ∧ SameI y y'
/-- Programs and others like them. -/
def SameP (P L : List (List Ins)) : Prop := L.length = P.length ∧ ∀ (i : Nat) (p : List Ins), P[i]? = some p → ∃ q, L[i]? = some q ∧ q.length = p.length ∧ ∀ (j : Nat) (y : Ins), p[j]? = some y → ∃ y', q[j]? = some y' ∧ SameI y y'
/-- One program more. -/
theorem NewSt.more {w wr w2 w3 : World} {F : Nat → Nat → Prop} {c : Cfg} {P L : List (List Ins)} {n k : Nat} {v : Value} {rows : List Value} {R0 R1 : Nat → Prop} (h : NewSt w wr F c P L n k v rows R0 R1) {p q : List Ins} (hp : P[k]? = some p) {r : Value} {X : Nat → Prop} (hX : ∀ b, X b → wr.heap.size ≤ b ∧ b < w2.heap.size)
    (hf2 : Fr Nob wr w2) (hlen : q.length = p.length) (hsame : ∀ (j : Nat) (y : Ins), p[j]? = some y → ∃ y', q[j]? = some y' ∧ SameI y y') (hsl : Sl w2 X 25 6 r q.length (q.flatMap insEn)) (hcs : ∀ y ∈ q, Sl w2 X 27 3 y.2.1 y.2.2.1.length (y.2.2.1.flatMap icsEn) ∧ (y.2.2.1 = [] → y.2.1 = .slice none 0 0))
    (hf3 : Fr R0 w2 w3) {A : Option Addr} {c3 : Nat} (hs3 : Sl w3 (fun b => R0 b ∨ w2.heap.size ≤ b) 28 1 (.slice A (k + 1) c3) (k + 1) (rows ++ [r])) (hrl : rows.length = k) :
    ∃ R0' R1', NewSt w (w3.setCell ⟨c.wb, 0, none⟩ (.slice A (k + 1) c3)) F c P (L ++ [q]) n (k + 1) (.slice A (k + 1) c3) (rows ++ [r]) R0' R1' := by
  have h0 := h.wp.own0
  have hwb : ¬ R0 c.wb := fun q => (h.r0 _ q).2.2 0 h0
  have hwb1 : ¬ R1 c.wb := fun q => (h.r1 _ q).2.2.1 0 h0
  have hb3 := hf3.blk hwb (hf2.blk (fun q => q) (h.wp.blk (by decide)))
  have hblt : c.wb < wr.heap.size := lt_of_block (h.wp.blk (by decide))
  obtain ⟨w4, hw4⟩ : ∃ w4, w4 = w3.setCell ⟨c.wb, 0, none⟩ (.slice A (k + 1) c3) := ⟨_, rfl⟩
  have hf4 : Fr (fun b => b = c.wb) w3 w4 := by rw [hw4]; exact (Fr.refl (fun b => b = c.wb) w3).setB 0 _
  have hb4 := blk_set hb3 0 (.slice A (k + 1) c3)
  rw [← hw4] at hb4 ⊢
  have z2 := hf2.size; have z3 := hf3.size; have z4 := hf4.size; have zw := h.fr.size
  have hF : Fr (fun b => F 0 b ∨ R0 b) wr w4 := ((hf2.none.trans0 hf3).mono fun b _ q => .inr q).trans hf4 fun b _ e => .inl (by rw [e]; exact h0)
  have hwp := h.wp.frame (H' := fun q => q = 0 ∨ q = 8) hF (fun _ q => .inr q) fun p b n a e => by
    rcases e with e | e
    · exact n (.inl (h.wp.dis _ _ _ a e))
    · exact (h.r0 b e).2.2 p a
  have hwp4 : WP (fun q => q = 8) w4 F { c with vp := .slice A (k + 1) c3 } ([], fun _ => 0) ws00 0 1 := ⟨hwp.lt, hwp.dis, hwp.own0, hwp.own1, fun _ => hb4, fun n => hwp.clk (by rintro (q | q); cases q; exact n q), fun n => hwp.tab (by rintro (q | q); cases q; exact n q), fun n => hwp.chs (by rintro (q | q); cases q; exact n q), fun n => hwp.tim (by rintro (q | q); cases q; exact n q), fun n => hwp.ctx (by rintro (q | q); cases q; exact n q), fun n => hwp.dls (by rintro (q | q); cases q; exact n q), fun n => hwp.lks (by rintro (q | q); cases q; exact n q), fun n => absurd rfl n, fun n => hwp.evs (by rintro (q | q); cases q; exact n q), fun n => hwp.cas (by rintro (q | q); cases q; exact n q), fun n => hwp.pool (by rintro (q | q); cases q; exact n q), hwp.chn, hwp.tml, hwp.cxl, hwp.pad⟩
  have hR1 : ∀ b, R1 b → (R0 b → False) ∧ b ≠ c.wb := fun b q => ⟨(h.r1 b q).2.2.2, fun e => hwb1 (by rw [← e]; exact q)⟩
  have hXb : ∀ b, X b → ¬ R0 b ∧ b ≠ c.wb := fun b q => ⟨fun a => by have := (h.r0 b a).2.1; have := (hX b q).1; omega, fun e => by have := (hX b q).1; omega⟩
  refine ⟨fun b => R0 b ∨ (w2.heap.size ≤ b ∧ b < w4.heap.size), fun b => R1 b ∨ X b, ⟨((h.fr.trans hf2 fun _ _ q => q).trans hf3 fun b hb q => by have := (h.r0 b q).1; omega).trans hf4 fun b hb e => by have := h.new 0 b (by rw [e]; exact h0); omega, hwp4, h.new, (hs3.fr hf4 fun b a e => ?_).mono fun b hb a => ?_, fun b a => ?_, fun b a => ?_, by rw [List.length_append, h.len]; rfl, fun i p' hi => ?_, fun i p' hi hp' => ?_⟩⟩
  · rcases a with a | a
    · exact hwb (by rw [← e]; exact a)
    · omega
  · rcases a with a | a
    · exact .inl a
    · exact .inr ⟨a, hb⟩
  · rcases a with a | a
    · exact ⟨(h.r0 b a).1, by have := (h.r0 b a).2.1; omega, (h.r0 b a).2.2⟩
    · exact ⟨by omega, a.2, fun p q => by have := h.wp.lt p b q; omega⟩
  · rcases a with a | a
    · exact ⟨(h.r1 b a).1, by have := (h.r1 b a).2.1; omega, (h.r1 b a).2.2.1, fun q => by rcases q with q | q; exact (h.r1 b a).2.2.2 q; have := (h.r1 b a).2.1; omega⟩
    · have hx := hX b a
      exact ⟨by omega, by omega, fun p q => by have := h.wp.lt p b q; omega, fun q => by rcases q with q | q; exact (hXb b a).1 q; omega⟩
  · by_cases e : i < k
    · rw [List.getElem?_append_left (by rw [h.len]; exact e)] at hi
      obtain ⟨r', a1, a2, a3⟩ := h.row i p' hi
      have tr : ∀ {E : TypeId} {sz : Nat} {v : Value} {n : Nat} {cs : List Value}, Sl wr R1 E sz v n cs → Sl w4 (fun b => R1 b ∨ X b) E sz v n cs := fun s => (((s.fr hf2 fun _ _ q => q).fr hf3 fun b a q => (hR1 b a).1 q).fr hf4 fun b a q => (hR1 b a).2 q).mono fun b _ q => .inl q
      exact ⟨r', by rw [List.getElem?_append_left (by rw [hrl]; exact e)]; exact a1, tr a2, fun y hy => ⟨tr (a3 y hy).1, (a3 y hy).2⟩⟩
    · have e2 : i = k := by
        have := (List.getElem?_eq_some_iff.1 hi).1
        rw [List.length_append, h.len] at this
        simp at this; omega
      subst e2
      rw [List.getElem?_append_right (by rw [h.len]; exact Nat.le_refl _), h.len, Nat.sub_self] at hi
      cases hi
      have tr : ∀ {E : TypeId} {sz : Nat} {v : Value} {n : Nat} {cs : List Value}, Sl w2 X E sz v n cs → Sl w4 (fun b => R1 b ∨ X b) E sz v n cs := fun s => ((s.fr hf3 fun b a q => (hXb b a).1 q).fr hf4 fun b a q => (hXb b a).2 q).mono fun b _ q => .inr q
      exact ⟨r, by rw [List.getElem?_append_right (by rw [hrl]; exact Nat.le_refl _), hrl, Nat.sub_self]; rfl, tr hsl, fun y hy => ⟨tr (hcs y hy).1, (hcs y hy).2⟩⟩
  · by_cases e : i < k
    · obtain ⟨q', a1, a2⟩ := h.same i p' e hp'
      exact ⟨q', by rw [List.getElem?_append_left (by rw [h.len]; exact e)]; exact a1, a2⟩
    · obtain rfl : i = k := by omega
      rw [hp] at hp'
      cases hp'
      exact ⟨q, by rw [List.getElem?_append_right (by rw [h.len]; exact Nat.le_refl _), h.len, Nat.sub_self]; rfl, hlen, hsame⟩
/-- All programs are there. -/
theorem NewSt.whole {w wr : World} {F : Nat → Nat → Prop} {c : Cfg} {P L : List (List Ins)} {n : Nat} {v : Value} {rows : List Value} {R0 R1 : Nat → Prop} (h : NewSt w wr F c P L n n v rows R0 R1) : WP H0 wr (Go.Proofs.YtcffplgimbbflaaGreat.upd F 8 (fun b => (R0 b ∨ R1 b) ∨ F 8 b)) { c with vp := v } (L, fun _ => 0) ws00 0 1 := by
  have hT : ∀ p b, p ≠ 8 → F p b → ((R0 b ∨ R1 b) ∨ F 8 b) → False := fun p b n a q => by
    rcases q with (q | q) | q
    · exact (h.r0 b q).2.2 p a
    · exact (h.r1 b q).2.2.1 p a
    · exact n (h.wp.dis _ _ _ a q)
  have key : ∀ p k, Go.Proofs.YtcffplgimbbflaaGreat.upd F 8 (fun b => (R0 b ∨ R1 b) ∨ F 8 b) p k → (p ≠ 8 ∧ F p k) ∨ (p = 8 ∧ ((R0 k ∨ R1 k) ∨ F 8 k)) := fun p k q => by
    by_cases e : p = 8
    · subst e; rw [upd_same] at q; exact .inr ⟨rfl, q⟩
    · rw [upd_ne _ _ e] at q; exact .inl ⟨e, q⟩
  refine ⟨fun p k q => ?_, fun p r k a b => ?_, h.wp.own0, h.wp.own1, fun _ => h.wp.blk (by decide), fun _ => h.wp.clk (by decide), fun _ => h.wp.tab (by decide), fun _ => h.wp.chs (by decide), fun _ => h.wp.tim (by decide), fun _ => h.wp.ctx (by decide), fun _ => h.wp.dls (by decide), fun _ => h.wp.lks (by decide), fun _ => ⟨rows, ?_, fun i p hi => ?_⟩, fun _ => h.wp.evs (by decide), fun _ => h.wp.cas (by decide), fun _ => h.wp.pool (by decide), h.wp.chn, h.wp.tml, h.wp.cxl, h.wp.pad⟩
  · rcases key p k q with q | ⟨_, (q | q) | q⟩
    · exact h.wp.lt p k q.2
    · exact (h.r0 k q).2.1
    · exact (h.r1 k q).2.1
    · exact h.wp.lt 8 k q
  · rcases key p k a with a | a
    · rcases key r k b with b | b
      · exact h.wp.dis _ _ _ a.2 b.2
      · exact (hT p k a.1 a.2 b.2).elim
    · rcases key r k b with b | b
      · exact (hT r k b.1 b.2 a.2).elim
      · omega
  · show Sl wr _ 28 1 v L.length rows
    rw [h.len]; exact h.sl.mono fun b _ q => .inl (.inl q)
  · obtain ⟨r, a1, a2, a3⟩ := h.row i p hi
    exact ⟨r, a1, a2.mono fun b _ q => .inl (.inr q), fun y hy => ⟨(a3 y hy).1.mono fun b _ q => .inl (.inr q), (a3 y hy).2⟩⟩
set_option maxHeartbeats 4000000 in
theorem world_new {w : World} {v : Value} {P : List (List Ins)} {rows : List Value} (h : PgIn w v P rows) :
    Calls Tryz.prog 10 #[v] w fun e w' => ∃ (wb : Nat) (S : Nat → Prop) (L : List (List Ins)), e = .returned (.tuple #[ptV wb, .int .i64 0]) ∧ Fr Nob w w' ∧ WAt w' S wb (L, fun _ => 0) ws0 0 1 ∧ (∀ k, S k → w.heap.size ≤ k) ∧ SameP P L := by
  obtain ⟨hl, hmax, A, c, rfl, hc1, hc2, hA⟩ := h.rd
  have hfit := h.fit
  generalize hn : P.length = n at *
  have Hall := Lib.hid (prog_all h)
  have H := Lib.hid h; have HA := Lib.hid hA; have Hn := Lib.hid hn
  clear h hA hn
  go_enter Tryz.func10, Tryz.ntmps10
  go_wp2_with fail
  refine Hall.out.mono ?_
  rintro e w0 ⟨rfl, hf0⟩
  have Hf0 := Lib.hid hf0
  clear hf0
  go_wp2_with fail
  refine (clock_new w0).mono ?_
  rintro e w1 ⟨cb, rfl, hf1, hcb, hclk⟩
  have Hf1 := Lib.hid hf1; have Hcb := Lib.hid hcb; have Hclk := Lib.hid hclk
  clear hf1 hcb hclk
  go_wp2_with fail
  refine (task_new w1).mono ?_
  rintro e w2 ⟨tb, S2, rfl, hf2, ht2, hs2⟩
  have Hf2 := Lib.hid hf2; have Ht2 := Lib.hid ht2; have Hs2 := Lib.hid hs2
  clear hf2 ht2 hs2
  go_wp2_with fail
  refine (tim_new w2).mono ?_
  rintro e w3 ⟨mb, S4, rfl, hf3, hm3, hs3⟩
  have Hf3 := Lib.hid hf3; have Hm3 := Lib.hid hm3; have Hs3 := Lib.hid hs3
  clear hf3 hm3 hs3
  go_wp2_with fail
  refine (deal_new w3).mono ?_
  rintro e w4 ⟨db, S6, rfl, hf4, hd4, hs4, hs4'⟩
  have Hf4 := Lib.hid hf4; have Hd4 := Lib.hid hd4; have Hs4 := Lib.hid hs4; have Hs4' := Lib.hid hs4'
  clear hf4 hd4 hs4 hs4'
  go_wp2_with fail
  obtain ⟨w5, hw5⟩ : ∃ w5, w5 = w4.alloc (.cells #[.slice none 0 0, ptV cb, ptV tb, .slice none 0 0, inV 0, ptV mb, .pointer none, ptV db, .slice none 0 0, inV 0, .slice none 0 0] 69) := ⟨_, rfl⟩
  rw [← hw5]
  refine (cx_new w5 mb).mono ?_
  rintro e w6 ⟨xb, S5, rfl, hf6, hx6, hs6⟩
  have hwp := new_parts (lt_of_block Hclk.out) Hclk.out Hf2.out Ht2.out Hs2.out Hf3.out Hm3.out Hs3.out Hf4.out Hd4.out Hs4.out Hs4'.out hw5 hf6 hx6 hs6
  have hz5 : w5.heap.size = w4.heap.size + 1 := by rw [hw5]; simp
  have hb5 : w5.heap[w4.heap.size]? = some (.cells #[.slice none 0 0, ptV cb, ptV tb, .slice none 0 0, inV 0, ptV mb, .pointer none, ptV db, .slice none 0 0, inV 0, .slice none 0 0] 69 (0, 0)) := by rw [hw5]; exact heap_alloc_new _ _
  have hb6 := hf6.blk (fun q => q) hb5
  have c6 := blk_cell hb6 6 rfl
  have f6 := blk_froz hb6 6
  have hf05 : Fr Nob w w5 := Hf0.out.trans0 (Hf1.out.trans0 (Hf2.out.trans0 (Hf3.out.trans0 (Hf4.out.trans0 (by rw [hw5]; exact (Fr.refl Nob w4).alloc _)))))
  have hz := Hf0.out.size; have hz1 := Hf1.out.size; have hz2 := Hf2.out.size; have hz3 := Hf3.out.size; have hz4 := Hf4.out.size
  have hwb4 : w.heap.size ≤ w4.heap.size := by omega
  have hnew : ∀ p q, newF w4.heap.size cb S2 S4 S5 S6 p q → w.heap.size ≤ q := fun p q a => by
    rcases a with ⟨rfl, rfl⟩ | ⟨rfl, rfl⟩ | ⟨rfl, a⟩ | ⟨rfl, a⟩ | ⟨rfl, a⟩ | ⟨rfl, a⟩
    · exact hwb4
    · have := Hcb.out; omega
    · have := Hs2.out q a; omega
    · have := Hs3.out q a; omega
    · have := hs6 q a; omega
    · have := Hs4.out q a; omega
  obtain ⟨w7, hw7⟩ : ∃ w7, w7 = w6.setCell ⟨w4.heap.size, 6, none⟩ (ptV xb) := ⟨_, rfl⟩
  rw [← hw7] at hwp
  have hf7 : Fr Nob w w7 := (hf05.trans0 hf6).trans (show Fr (fun k => k = w4.heap.size) w6 w7 by rw [hw7]; exact (Fr.refl (fun k => k = w4.heap.size) w6).setB 6 _) fun k hk e => by omega
  have Hw7 := Lib.hid hw7
  clear hw5 hf6 hx6 hs6 hb5 hb6 hf05 hz hz1 hz2 hz3 hz4 hwb4 hw7
  generalize hF : newF w4.heap.size cb S2 S4 S5 S6 = F at *
  generalize hwb : w4.heap.size = wb at *
  have hst : NewSt w w7 F ⟨wb, cb, tb, mb, xb, db, .slice none 0 0, .slice none 0 0, .slice none 0 0, .slice none 0 0, fun _ => 0, [], [], [⟨0, true, none, 0, 0, 0, false, false⟩]⟩ P [] n 0 (.slice none 0 0) [] Nob Nob := ⟨hf7, hwp, hnew, Sl.nil _ _ _ _, fun q a => a.elim, fun q a => a.elim, rfl, fun i p hi => by simp at hi, fun i p hi => by omega⟩
  generalize hC : (⟨wb, cb, tb, mb, xb, db, .slice none 0 0, .slice none 0 0, .slice none 0 0, .slice none 0 0, fun _ => 0, [], [], [⟨0, true, none, 0, 0, 0, false, false⟩]⟩ : Cfg) = C at *
  have hCwb : C.wb = wb := by rw [← hC]
  have Hst := Lib.hid hst; have HCwb := Lib.hid hCwb
  clear hst hF hwp hf7 hnew hC hwb hCwb
  go_wp2_with fail
  rw [← Hw7.out]
  clear c6 f6
  have hnm : Tryz.f25.name ≠ "runtime.NumGoroutine" := by decide +kernel
  have hbd : Tryz.f25.body ≠ none := by intro h; cases h
  have Hnm := Lib.hid hnm; have Hbd := Lib.hid hbd
  clear hnm hbd
  go_loopw [29] (fun i wr => ∃ (k : Nat) (L : List (List Ins)) (v : Value) (rs : List Value) (R0 R1 : Nat → Prop), k ≤ n ∧ i = .int .i64 k ∧ Hid (NewSt w wr F C P L n k v rs R0 R1)) (fun i _ => n - (intOf i).toNat)
  case atStart => exact ⟨0, [], _, [], Nob, Nob, Nat.zero_le _, rfl, Hst⟩
  case round =>
    obtain ⟨k, L, v, rs, R0, R1, hk, rfl, hr⟩ := hrel
    have hb := hr.out.wp.blk (by decide)
    obtain ⟨Av, cv, rfl⟩ := hr.out.sl.slice
    have hb' : wr.heap[wb]? = some (worldO { C with vp := .slice Av k cv } ws00) := by rw [← HCwb.out]; exact hb
    by_cases hlt : k < n
    · obtain ⟨p, hp⟩ : ∃ p, P[k]? = some p := ⟨P[k]'(by rw [Hn.out]; exact hlt), by simp⟩
      obtain ⟨r, hr0, hrd⟩ := H.out.row k p hp
      have hmem := List.mem_of_getElem? hp
      obtain ⟨g, o, rfl, hgl, hc⟩ := HA.out (by omega)
      have q0 := hr.out.fr.cell (p := ⟨g, o + k, none⟩) (fun q => q) (hc k r hr0)
      have hgood := H.out.good p hmem
      have hp100 : p.length ≤ 100 := by have := hgood.1; unfold progB at this; simp at this; exact this.1
      have Hown := Lib.hid (fun W (hW : Fr Nob wr W) => world_own p.length rfl hp100 (hrd.fr (hr.out.fr.trans0 hW)) (fun y hy => (H.out.ok p hmem y hy).fr (hr.out.fr.trans0 hW)) (H.out.nil p hmem) (fun y hy => by
        have h1 := hgood.1
        unfold progB at h1
        simp only [Bool.and_eq_true, List.all_eq_true] at h1
        exact len16 (h1.2 y hy)))
      have hki : (k : Int) < n := by omega
      have c0 := blk_cell hb' 0 rfl
      obtain ⟨wx, hwx⟩ : ∃ wx, wx = wr.drew := ⟨_, rfl⟩
      have Hr := hr; have Hb' := Lib.hid hb'; have Hp := Lib.hid hp
      have hrl : rs.length = k := by have := hr.out.sl.1; omega
      have hrob : ¬ R0 wb := fun q => (hr.out.r0 _ q).2.2 0 (by rw [← HCwb.out]; exact hr.out.wp.own0)
      have Hrl := Lib.hid hrl; have Hrob := Lib.hid hrob
      clear hb hb' hp hr0 hrd hmem hgl hc hgood hp100 hwx wx hrl hrob hr
      go_wp2_with fail
      go_region_law ((first
        | (refine step_call _ rfl _ _ _ rfl _ Tryz.func25 Hnm.out Hbd.out #[r] (by simp [Act.eval, Act.put]) _ (Hown.out wr.drew ((Fr.refl Nob wr).drew)) ?_; rintro e w2 ⟨v2, q, rfl, hf2', hlen, hsame, hsl, hcs⟩; refine ⟨_, rfl, ?_⟩; obtain ⟨A2, c2, rfl⟩ := hsl.slice; have hf2 : Fr Nob wr w2 := ((Fr.refl Nob wr).drew).trans0 hf2'; have e0 := blk_cell (hf2.blk (fun q => q) Hb'.out) 0 rfl; have e0' := blk_cell (((Fr.refl Nob w2).alloc (.cells #[.slice A2 p.length c2] 28)).blk (fun q => q) (hf2.blk (fun q => q) Hb'.out)) 0 rfl; have Hf2 := Lib.hid hf2; have Hlen := Lib.hid hlen; have Hsame := Lib.hid hsame; have Hsl := Lib.hid hsl; have Hcs := Lib.hid hcs; clear hf2' hf2 hlen hsame hsl hcs)
        | (refine step_append_sl _ (by rfl) _ _ _ (by rfl) R0 28 _ 1 24 Tryz.underlying33 Tryz.info_prog rfl (by omega) (.slice Av k cv) k rs (by rfl) ((Hr.out.sl.fr Hf2.out (fun _ _ q => q)).alloc _) ⟨w2.heap.size, 0, none⟩ 1 1 [.slice A2 p.length c2] (by rfl) (by rfl) (news_lit _ [.slice A2 p.length c2] 28 (0, 0) _ (heap_alloc_new w2 _)) (by rfl) (by omega) (by omega) ?_; intro v3 w3 hs3 hf3; obtain ⟨X3, c3, rfl⟩ := hs3.slice; have hb3 := hf3.blk Hrob.out (((Fr.refl Nob w2).alloc _).blk (fun q => q) (Hf2.out.blk (fun q => q) Hb'.out)); have d0 := blk_cell hb3 0 rfl; have g0 := blk_froz hb3 0; have Hs3 := Lib.hid hs3; have Hf3 := Lib.hid hf3; clear hs3 hf3 hb3)))
      all_goals
        have hmore := Hr.out.more (q := q) Hp.out (r := .slice A2 p.length c2) (X := fun b => wr.heap.size ≤ b ∧ b < w2.heap.size) (fun b a => a) Hf2.out Hlen.out Hsame.out (by rw [Hlen.out]; exact Hsl.out) Hcs.out (((Fr.refl R0 w2).alloc _).trans0 Hf3.out) (Hs3.out.mono fun b hb a => by rcases a with a | a; exact .inl a; simp at a; exact .inr (by omega)) Hrl.out
        rw [HCwb.out] at hmore
        obtain ⟨R0', R1', hmore⟩ := hmore
        have Hmore := Lib.hid hmore
        clear hmore
        go_wp2_with fail
        go_roundw
        case rel => exact ⟨k + 1, _, _, _, R0', R1', by omega, by go_num, Hmore⟩
        case measure => simp [intOf]; omega
    · obtain rfl : k = n := by omega
      have hwh := hr.out.whole
      have hfr := hr.out.fr
      have hnw : ∀ p b, Go.Proofs.YtcffplgimbbflaaGreat.upd F 8 (fun b => (R0 b ∨ R1 b) ∨ F 8 b) p b → w.heap.size ≤ b := fun p b q => by
        by_cases e : p = 8
        · subst e
          rw [upd_same] at q
          rcases q with (q | q) | q
          · exact (hr.out.r0 b q).1
          · exact (hr.out.r1 b q).1
          · exact hr.out.new 8 b q
        · rw [upd_ne _ _ e] at q; exact hr.out.new p b q
      have hsame : SameP P L := ⟨by rw [hr.out.len, Hn.out], fun i p hp => hr.out.same i p (by have := (List.getElem?_eq_some_iff.1 hp).1; rw [Hn.out] at this; exact this) hp⟩
      have c2 := blk_cell hb' 2 rfl
      obtain ⟨F', hF'⟩ : ∃ F', F' = Go.Proofs.YtcffplgimbbflaaGreat.upd F 8 (fun b => (R0 b ∨ R1 b) ∨ F 8 b) := ⟨_, rfl⟩
      rw [← hF'] at hwh hnw
      have Hts := Lib.hid (task_start (hwh.tab (fun q => q)) 0 (by omega) (fun _ => 0) 0 (by have := (hwh.cas (fun q => q)).1; simpa [ws00] using this) (by omega) (by simp [ws00]) (by simp [ws00]))
      have Hwh := Lib.hid hwh; have Hfr := Lib.hid hfr; have Hnw := Lib.hid hnw; have Hsame := Lib.hid hsame
      clear hwh hfr hnw hsame hF' hb hr hb'
      go_wp2_with fail
      refine Hts.out.mono ?_
      rintro e w8 ⟨T8, rfl, hf8, ht8, hs8⟩
      have hc8 : CasesAt w8 (F' 10) (C.tsv ++ [(newT 0 (fun _ => 0), false, .slice none 0 0)]) ([] ++ [(newT 0 (fun _ => 0), false, [])]) := ((Hwh.out.cas (fun q => q)).fr hf8 fun k a b => absurd (Hwh.out.dis _ _ _ a b) (by decide)).snoc _ _
      have hnx := WAt.tabled (S := Un F') (fun k => Iff.rfl) Hwh.out hf8 ht8 hs8 hc8
      have Hnx := Lib.hid hnx
      clear hf8 ht8 hs8 hc8 hnx Hts
      go_wp2_with fail
      go_ret2
      obtain ⟨S9, f9, a9, s9⟩ := Hnx.out
      have hwb9 : C.wb = wb := HCwb.out
      refine ⟨wb, S9, L, rfl, Hfr.out.trans f9 fun q hq a => ?_, ?_, fun q a => ?_, Hsame.out⟩
      · obtain ⟨p, a⟩ := a; have := Hnw.out p q a; omega
      · rw [← hwb9]; exact a9
      · rcases s9 q a with ⟨p, b⟩ | b
        · exact Hnw.out p q b
        · have := Hfr.out.size; omega
/-- Entries in a row, and all that they tell. -/
def plays (P : List (List Ins)) : WS → List En → Option (WS × List Ev)
  | st, [] => some (st, [])
  | st, e :: es => match st.step P e with
    | none => none
    | some s => match plays P s es with
      | none => none
      | some (u, l) => some (u, s.ev ++ l)
theorem plays_cons {P : List (List Ins)} {st u : WS} {e : En} {es : List En} {l : List Ev} (h : plays P st (e :: es) = some (u, l)) : ∃ s l', st.step P e = some s ∧ plays P s es = some (u, l') ∧ l = s.ev ++ l' := by
  unfold plays at h
  split at h
  · cases h
  · next s hs =>
    split at h
    · cases h
    · next u' l' hp => cases h; exact ⟨s, l', hs, hp, rfl⟩
/-- The world, and a row of events beside it. -/
def Gath (w wr : World) (S : Nat → Prop) (wb : Nat) (L : List (List Ins)) (st : WS) (v : Value) (l : List Ev) (nd nm : Nat) : Prop := ∃ (B : Nat → Nat) (S' T : Nat → Prop), Fr S w wr ∧ WAt wr S' wb (L, B) st nd nm ∧ (∀ q, S' q → S q ∨ w.heap.size ≤ q) ∧ Sl wr T 43 6 v l.length (evs l) ∧ ∀ q, T q → w.heap.size ≤ q ∧ q < wr.heap.size ∧ ¬ S' q
theorem evs_app (l m : List Ev) : evs (l ++ m) = evs l ++ evs m := by simp [evs]
theorem Gath.fr0 {w wr w2 : World} {S : Nat → Prop} {wb : Nat} {L : List (List Ins)} {st : WS} {v : Value} {l : List Ev} {nd nm : Nat} (h : Gath w wr S wb L st v l nd nm) (hf : Fr Nob wr w2) : Gath w w2 S wb L st v l nd nm := by
  obtain ⟨B, S', T, h1, h2, h3, h4, h5⟩ := h
  exact ⟨B, S', T, h1.trans hf fun _ _ q => q.elim, h2.fr0 hf, h3, h4.fr hf fun _ _ q => q, fun q a => ⟨(h5 q a).1, by have := (h5 q a).2.1; have := hf.size; omega, (h5 q a).2.2⟩⟩
theorem Gath.nil {w : World} {S : Nat → Prop} {wb : Nat} {L : List (List Ins)} {B : Nat → Nat} {st : WS} {nd nm : Nat} (h : WAt w S wb (L, B) st nd nm) : Gath w w S wb L st (.slice none 0 0) [] nd nm := ⟨B, S, Nob, Fr.refl _ _, h, fun q a => .inl a, Sl.nil _ _ _ _, fun q a => a.elim⟩
theorem world_steps {KO : Int → Prop} (hD : DoC KO) {w : World} {S : Nat → Prop} {wb : Nat} {L : List (List Ins)} {B : Nat → Nat} {st s : WS} {nd nm : Nat} (h : WAt w S wb (L, B) st nd nm) (k n d : Int) (hok : PgOk KO L d) (hs : st.step L (k, n, d) = some s) (hnd : nd ≤ 80000000000) (hnm : nm < 600000) :
    Calls Tryz.prog 12 #[ptV wb, .agg #[inV k, inV n, inV d]] w fun en w' => ∃ v, en = .returned v ∧ Gath w w' S wb L s v s.ev (nd + 10000) (nm + costN k) := by
  refine (world_step hD h (k, n, d) hok hs hnd hnm).mono ?_
  rintro e w' ⟨B', v, S', rfl, h1, h2, h3, h4⟩
  exact ⟨v, rfl, B', S', _, h1, h2, h3, h4, fun q a => a⟩
/-- What was gathered, and more. -/
theorem Gath.join {w wr w2 w3 : World} {S S' T : Nat → Prop} {wb : Nat} {L : List (List Ins)} {s : WS} {v2 v3 : Value} {l l2 : List Ev} {nd nm n : Nat} (hf : Fr S w wr) (hsub : ∀ q, S' q → S q ∨ w.heap.size ≤ q) (hT : ∀ q, T q → w.heap.size ≤ q ∧ q < wr.heap.size ∧ ¬ S' q)
    (h2 : Gath wr w2 S' wb L s v2 l2 nd nm) (hf3 : Fr T w2 w3) (hs3 : Sl w3 (fun k => T k ∨ w2.heap.size ≤ k) 43 6 v3 n (evs l ++ evs l2)) (hn : n = l.length + l2.length) : Gath w w3 S wb L s v3 (l ++ l2) nd nm := by
  obtain ⟨B, S2, T2, a1, a2, a3, a4, a5⟩ := h2
  have z1 := hf.size; have z2 := a1.size; have z3 := hf3.size
  refine ⟨B, S2, fun k => T k ∨ (w2.heap.size ≤ k ∧ k < w3.heap.size), (hf.trans a1 fun q hq a => by rcases hsub q a with b | b; exact b; omega).trans hf3 fun q hq a => by have := (hT q a).1; omega, a2.fr hf3 fun q a b => ?_, fun q a => ?_, ?_, fun q a => ?_⟩
  · rcases a3 q a with c | c
    · exact (hT q b).2.2 c
    · have := (hT q b).2.1; omega
  · rcases a3 q a with c | c
    · exact hsub q c
    · exact .inr (by omega)
  · rw [evs_app, List.length_append, ← hn]
    exact hs3.mono fun q hq a => by rcases a with a | a; exact .inl a; exact .inr ⟨a, hq⟩
  · rcases a with a | a
    · exact ⟨(hT q a).1, by have := (hT q a).2.1; omega, fun b => by rcases a3 q b with c | c; exact (hT q a).2.2 c; have := (hT q a).2.1; omega⟩
    · exact ⟨by omega, a.2, fun b => by have := a2.lt q b; omega⟩
def runsE (n : Nat) : List En := (List.range n).map fun i : Nat => ((1 : Int), (i : Int), (0 : Int))
theorem runsE_drop {n k : Nat} (h : k < n) : (runsE n).drop k = (1, (k : Int), 0) :: (runsE n).drop (k + 1) := by
  unfold runsE
  rw [List.drop_eq_getElem_cons (by simpa using h)]
  simp
set_option maxHeartbeats 1000000 in
theorem top_many {KO : Int → Prop} (hD : DoC KO) {w : World} {S : Nat → Prop} {wb : Nat} {L : List (List Ins)} {B : Nat → Nat} {st s : WS} {l : List Ev} {nd nm : Nat} (h : WAt w S wb (L, B) st nd nm) (n : Nat) (hn : n ≤ 1000) (hok : PgOk KO L 0) (hp : plays L st (runsE n) = some (s, l)) (hl : l.length ≤ 1000000000) (hnd : nd + n * 10000 ≤ 80000000000) (hnm : nm + n * 10 < 600000) :
    Calls Tryz.prog 11 #[ptV wb, inV (n : Int)] w fun en w' => ∃ v, en = .returned v ∧ Gath w w' S wb L s v l (nd + n * 10000) (nm + n * 10) := by
  have Hp := Lib.hid hp; have Hok := Lib.hid hok; have Hh := Lib.hid (Gath.nil h)
  clear h hp hok
  go_enter Tryz.func11, Tryz.ntmps11
  go_wp2_with fail
  go_loopw [5, 6] (fun lv i wr => ∃ (k : Nat) (sk : WS) (lk lr : List Ev), k ≤ n ∧ i = .int .i64 k ∧ Hid (plays L sk ((runsE n).drop k) = some (s, lr) ∧ lk ++ lr = l ∧ Gath w wr S wb L sk lv lk (nd + k * 10000) (nm + k * 10))) (fun _ i _ => n - (intOf i).toNat)
  case atStart => exact ⟨0, st, [], l, Nat.zero_le _, rfl, Lib.hid ⟨Hp.out, rfl, by simpa using Hh.out⟩⟩
  case round =>
    rename_i lv iv
    obtain ⟨k, sk, lk, lr, hk, rfl, hr⟩ := hrel
    by_cases hlt : k < n
    · obtain ⟨hpl, hll, hg⟩ := hr.out
      rw [runsE_drop hlt] at hpl
      obtain ⟨s1, l', hs1, hp1, rfl⟩ := plays_cons hpl
      obtain ⟨B1, S1, T1, f1, a1, u1, e1, t1⟩ := hg
      have hki : (k : Int) < n := by omega
      have Hst := Lib.hid (world_steps hD a1 1 (k : Int) 0 Hok.out hs1 (by omega) (by omega))
      obtain ⟨Av, cv, rfl⟩ := e1.slice
      have hlen : lk.length + (s1.ev.length + l'.length) ≤ 1000000000 := by rw [← hll] at hl; simp at hl; omega
      have Hf1 := Lib.hid f1; have Hu1 := Lib.hid u1; have He1 := Lib.hid e1; have Ht1 := Lib.hid t1; have Hp1 := Lib.hid hp1; have Hll := Lib.hid hll
      clear hpl hll f1 a1 u1 e1 t1 hp1 hs1 hr
      go_wp2_with fail
      refine Hst.out.mono ?_
      rintro e w2 ⟨v2, rfl, hg2⟩
      have Hg2 := Lib.hid hg2
      obtain ⟨B2, S2, T2, f2, a2, u2, e2, t2⟩ := hg2
      have He2 := Lib.hid e2.rd
      have He1' := Lib.hid (He1.out.fr f2 fun q a b => (Ht1.out q a).2.2 b)
      clear f2 a2 u2 e2 t2
      go_wp2_with (at_builtin; refine wpList_append_rd _ rfl _ _ _ rfl T1 43 _ 6 48 Tryz.underlying34 Tryz.info_clone_evs rfl (by omega) (.slice Av lk.length cv) lk.length (evs lk) rfl He1'.out v2 s1.ev.length (evs s1.ev) rfl He2.out (evs_one _) (by omega) (by omega) ?_; intro v3 w3 hs3 hf3; have Hs3 := Lib.hid hs3; have Hf3 := Lib.hid hf3; clear hs3 hf3)
      go_roundw
      case rel =>
        refine ⟨k + 1, s1, lk ++ s1.ev, l', by omega, by go_num, Lib.hid ⟨Hp1.out, by rw [List.append_assoc]; exact Hll.out, ?_⟩⟩
        have q := Gath.join (l := lk) Hf1.out Hu1.out Ht1.out Hg2.out Hf3.out Hs3.out rfl
        rw [show nd + (k + 1) * 10000 = nd + k * 10000 + 10000 by omega, show nm + (k + 1) * 10 = nm + k * 10 + costN 1 by show _ = nm + k * 10 + 10; omega]
        exact q
      case measure => simp [intOf]; omega
    · obtain rfl : k = n := by omega
      go_wp2_with fail
      go_ret
      obtain ⟨hpl, hll, hg⟩ := hr.out
      rw [List.drop_of_length_le (by simp [runsE])] at hpl
      simp only [plays, Option.some.injEq, Prod.mk.injEq] at hpl
      obtain ⟨rfl, rfl⟩ := hpl
      rw [List.append_nil] at hll
      subst hll
      exact ⟨_, rfl, hg⟩
/-- What a task told. -/
def toldL (t : Int) (l : List Ev) : List Int := (l.filter fun x => x.2.1 == 1 && x.2.2.1 == t).map fun x => x.2.2.2.1
theorem toldL_app (t : Int) (l m : List Ev) : toldL t (l ++ m) = toldL t l ++ toldL t m := by simp [toldL]
theorem evs_get (l : List Ev) (i j : Nat) (x : Ev) (h : l[i]? = some x) (hj : j < 6) : (evs l)[i * 6 + j]? = (evEn x)[j]? := rowsGet evEn (fun _ => rfl) l i j x h hj
theorem toldL_take {t : Int} {l : List Ev} {k : Nat} {x : Ev} (h : l[k]? = some x) : toldL t (l.take (k + 1)) = toldL t (l.take k) ++ (if x.2.1 = 1 ∧ x.2.2.1 = t then [x.2.2.2.1] else []) := by
  rw [List.take_add_one, h, toldL_app]
  congr 1
  unfold toldL
  by_cases e : x.2.1 = 1 ∧ x.2.2.1 = t
  · simp [e]
  · rw [if_neg e]
    simp only [Option.toList_some, List.map_eq_nil_iff, List.filter_eq_nil_iff, List.mem_singleton, Bool.and_eq_true, beq_iff_eq]
    rintro y rfl; exact e
set_option maxHeartbeats 1000000 in
theorem order_told (w : World) (v : Value) (l : List Ev) (n : Nat) (hn : l.length = n) (hb : n ≤ 1000000000) (h : Rd w 6 v n (evs l)) (t : Int) :
    Calls Tryz.prog 13 #[v, inV t] w fun en w' => ∃ v', en = .returned v' ∧ Fr Nob w w' ∧ Rd w' 1 v' (toldL t l).length (ints (toldL t l)) := by
  obtain ⟨_, hl, A, c, rfl, hc1, hc2, hA⟩ := h
  have HA := Lib.hid hA; have Hn := Lib.hid hn
  clear hA hn
  go_enter Tryz.func13, Tryz.ntmps13
  go_wp2_with fail
  go_loopw [4, 9] (fun ov i wr => ∃ k : Nat, k ≤ n ∧ i = .int .i64 k ∧ Hid (Fr Nob w wr ∧ Sl wr (fun q => w.heap.size ≤ q ∧ q < wr.heap.size) 3 1 ov (toldL t (l.take k)).length (ints (toldL t (l.take k))))) (fun _ i _ => n - (intOf i).toNat)
  case atStart => exact ⟨0, Nat.zero_le _, rfl, Lib.hid ⟨Fr.refl _ _, Sl.nil _ _ _ _⟩⟩
  case round =>
    rename_i ov iv
    obtain ⟨k, hk, rfl, hr⟩ := hrel
    by_cases hlt : k < n
    · obtain ⟨x, hx⟩ : ∃ x, l[k]? = some x := ⟨l[k]'(by rw [Hn.out]; exact hlt), by simp⟩
      obtain ⟨hfr, hsl⟩ := hr.out
      obtain ⟨Ao, co, rfl⟩ := hsl.slice
      obtain ⟨g, o, rfl, hgl, hc⟩ := HA.out (by omega)
      have hq : ∀ j u, j < 6 → (evEn x)[j]? = some u → wr.cell? ⟨g, o + (k * 6 + j), none⟩ = some u := fun j u hj hu => hfr.cell (p := ⟨g, o + (k * 6 + j), none⟩) (fun q => q) (hc _ _ ((evs_get l k j x hx hj).trans hu))
      have q0 := hq 0 _ (by omega) rfl
      have q1 := hq 1 _ (by omega) rfl
      have q2 := hq 2 _ (by omega) rfl
      have q3 := hq 3 _ (by omega) rfl
      have q4 := hq 4 _ (by omega) rfl
      have q5 := hq 5 _ (by omega) rfl
      rw [← Nat.add_assoc] at q1 q2 q3 q4 q5
      rw [Nat.add_zero] at q0
      have htk := toldL_take (t := t) hx
      have hlk : (toldL t (l.take k)).length ≤ k := by unfold toldL; rw [List.length_map]; exact Nat.le_trans (List.length_filter_le _ _) (by simp; omega)
      have hki : (k : Int) < n := by omega
      obtain ⟨x0, x1, x2, x3, x4, x5⟩ := x
      dsimp only at q0 q1 q2 q3 q4 q5 htk
      have Hfr := Lib.hid hfr; have Hsl := Lib.hid hsl; have Htk := Lib.hid htk
      clear hfr hsl hc hq htk hx hr
      generalize hN : (toldL t (l.take k)).length = N at *
      have HN := Lib.hid hN
      clear hN
      by_cases e1 : x1 = 1
      · subst e1
        by_cases e2 : x2 = t
        · subst e2
          have ht := Htk.out
          rw [if_pos ⟨rfl, rfl⟩] at ht
          have Ht := Lib.hid ht
          clear ht Htk
          go_wp2_with (at_builtin; refine wpList_append_sl _ rfl _ _ _ rfl (fun q => w.heap.size ≤ q ∧ q < wr.heap.size) 3 _ 1 8 Tryz.underlying39 Tryz.info_int' rfl (by omega) (.slice Ao N co) N (ints (toldL x2 (l.take k))) rfl ((Hsl.out.alloc _).alloc _) ⟨wr.heap.size + 1, 0, none⟩ 1 1 [inV x3] rfl rfl (news_lit _ [inV x3] 3 (0, 0) (wr.heap.size + 1) (blk_alloc_eq _ (by simp))) (fun u hu => by simp at hu; subst hu; rfl) (by unfold maxLen; omega) (by omega) ?_; intro v3 w3 hs3 hf3; have Hs3 := Lib.hid hs3; have Hf3 := Lib.hid hf3; clear hs3 hf3)
          have hz : wr.heap.size + 1 ≤ w3.heap.size := by have := Hf3.out.size; simp at this; omega
          go_roundw
          case rel =>
            refine ⟨k + 1, by omega, by go_num, Lib.hid ⟨((Hfr.out.alloc _).alloc _).trans Hf3.out fun q hq a => by omega, ?_⟩⟩
            rw [Ht.out, List.length_append, HN.out]
            simp only [ints, List.map_append, List.map_cons, List.map_nil, List.length_singleton]
            exact Hs3.out.mono fun q hq a => by rcases a with a | a; exact ⟨a.1, hq⟩; simp at a; have := Hfr.out.size; exact ⟨by omega, hq⟩
          case measure => simp [intOf]; omega
        · have e2' : (x2 == t) = false := by simpa using e2
          have ht := Htk.out
          rw [if_neg (fun q => e2 q.2), List.append_nil] at ht
          have Ht := Lib.hid ht
          clear ht Htk e2
          go_wp2_with fail
          go_roundw
          case rel =>
            refine ⟨k + 1, by omega, by go_num, Lib.hid ⟨Hfr.out.alloc _, ?_⟩⟩
            rw [Ht.out, HN.out]
            exact (Hsl.out.alloc _).mono fun q hq a => ⟨a.1, hq⟩
          case measure => simp [intOf]; omega
      · have e1' : (x1 == 1) = false := by simpa using e1
        have ht := Htk.out
        rw [if_neg (fun q => e1 q.1), List.append_nil] at ht
        have Ht := Lib.hid ht
        clear ht Htk e1
        go_wp2_with fail
        go_roundw
        case rel =>
          refine ⟨k + 1, by omega, by go_num, Lib.hid ⟨Hfr.out.alloc _, ?_⟩⟩
          rw [Ht.out, HN.out]
          exact (Hsl.out.alloc _).mono fun q hq a => ⟨a.1, hq⟩
        case measure => simp [intOf]; omega
    · obtain rfl : k = n := by omega
      go_wp2_with fail
      go_ret
      obtain ⟨hfr, hsl⟩ := hr.out
      rw [List.take_of_length_le (by rw [Hn.out]; exact Nat.le_refl _)] at hsl
      exact ⟨_, rfl, hfr, hsl.rd⟩
/-- Operations that are covered. -/
def K1 (op : Int) : Prop := op = 8 ∨ op = 9 ∨ op = 20 ∨ op = 17 ∨ op = 18 ∨ op = 10 ∨ op = 11 ∨ op = 13 ∨ op = 14
theorem doc1 : DoC K1 := by
  intro w S P st nd nm ab x a b c id y d e f g1 g2 g3 g4 g5 s o g6 g7
  rcases g7 with q | q | q | q | q | q | q | q | q
  · exact do_go a b c d e f g1 g2 g3 g4 g5 g6 q
  · exact do_make a b c d e f g1 g2 g3 g4 g5 g6 q
  · exact do_stop a b c d e f g1 g2 g3 g4 g5 g6 q
  · exact do_timer a b c d e f g1 g2 g3 g4 g5 g6 q
  · exact do_ticker a b c d e f g1 g2 g3 g4 g5 g6 q
  · exact do_ch10 a b c d e f g1 g2 g3 g4 g5 g6 q
  · exact do_ch11 a b c d e f g1 g2 g3 g4 g5 g6 q
  · exact do_ch13 a b c d e f g1 g2 g3 g4 g5 g6 q
  · exact do_ch14 a b c d e f g1 g2 g3 g4 g5 g6 q
/-- A program without cases, all of whose operations are covered. -/
def plainB (y : Ins) : Bool := mineB y.1.1 || y.1.1 == 8 || y.1.1 == 9 || y.1.1 == 20 || y.1.1 == 17 || y.1.1 == 18 || y.1.1 == 10 || y.1.1 == 11 || y.1.1 == 13 || y.1.1 == 14
def NoCs (P : List (List Ins)) : Prop := ∀ p ∈ P, ∀ y ∈ p, y.2.2.1 = [] ∧ y.2.1 = .slice none 0 0
def nilV : Value → Bool
  | .slice none 0 0 => true
  | _ => false
theorem nilV_eq {v : Value} (h : nilV v = true) : v = .slice none 0 0 := by
  unfold nilV at h
  split at h
  · rfl
  · cases h
def noCsB (P : List (List Ins)) : Bool := P.all fun p => p.all fun y => y.2.2.1.isEmpty && nilV y.2.1
theorem noCs_of {P : List (List Ins)} (h : noCsB P = true) : NoCs P := by
  intro p hp y hy
  unfold noCsB at h
  rw [List.all_eq_true] at h
  have h1 := h p hp
  rw [List.all_eq_true] at h1
  have h2 := h1 y hy
  simp only [Bool.and_eq_true, List.isEmpty_iff] at h2
  exact ⟨h2.1, nilV_eq h2.2⟩
theorem pgok1 {P : List (List Ins)} (h : NoCs P) (hb : ∀ p ∈ P, ∀ y ∈ p, plainB y = true) (d : Int) : PgOk K1 P d := by
  refine ⟨fun p hp y hy hm => ?_⟩
  have := hb p hp y hy
  unfold plainB at this
  rw [hm] at this
  simp only [Bool.false_or, Bool.or_eq_true, beq_iff_eq] at this
  unfold K1
  omega
theorem SameP.eq {P L : List (List Ins)} (h : NoCs P) (hs : SameP P L) : L = P := by
  refine List.ext_getElem? fun i => ?_
  by_cases hi : i < P.length
  · obtain ⟨q, h1, h2, h3⟩ := hs.2 i P[i] (List.getElem?_eq_getElem hi)
    rw [h1, List.getElem?_eq_getElem hi]
    congr 1
    refine List.ext_getElem? fun j => ?_
    by_cases hj : j < P[i].length
    · obtain ⟨y', k1, k2, k3, k4⟩ := h3 j P[i][j] (List.getElem?_eq_getElem hj)
      rw [k1, List.getElem?_eq_getElem hj, k4 (h _ (List.getElem_mem hi) _ (List.getElem_mem hj)).1]
    · rw [List.getElem?_eq_none (by omega), List.getElem?_eq_none (by omega)]
  · rw [List.getElem?_eq_none (by rw [hs.1]; omega), List.getElem?_eq_none (by omega)]
theorem rd_nil (w : World) (sz : Nat) : Rd w sz (.slice none 0 0) 0 [] := (Sl.nil w Nob 3 sz).rd
/-- Programs that lie in memory. -/
theorem PgIn.of {w : World} {v : Value} {P : List (List Ins)} {rows : List Value} (hl : rows.length = P.length) (h1 : Rd w 1 v P.length rows) (hr : ∀ (i : Nat) (p : List Ins), P[i]? = some p → ∃ r, rows[i]? = some r ∧ Rd w 6 r p.length (p.flatMap insEn)) (hn : NoCs P) (hf : 1 ≤ P.length ∧ P.length ≤ 16) (hg : ∀ p ∈ P, progB p = true ∧ ∀ y ∈ p, startsI y < P.length) : PgIn w v P rows :=
  ⟨hl, h1, hr, fun p hp y hy => by obtain ⟨a, b⟩ := hn p hp y hy; unfold InsOk; rw [a, b]; exact rd_nil w 3, fun p hp y hy _ => (hn p hp y hy).2, hf, hg⟩
/-- A row that was laid as a literal. -/
theorem rd_lit {w : World} {b : Nat} {cs : List Value} {T : TypeId} (h : w.heap[b]? = some (.cells cs.toArray T (0, 0))) (n sz : Nat) (hn : n ≤ 1000000) (hl : cs.length = n * sz) (hsz : 0 < sz) : Rd w sz (.slice (some ⟨b, 0, none⟩) n n) n cs := by
  refine ⟨by rw [hl], by unfold maxLen; omega, _, n, rfl, Nat.le_refl _, by unfold maxLen; omega, fun h0 => ⟨b, 0, rfl, lt_of_block h, fun j u hj => ?_⟩⟩
  rw [Nat.zero_add]
  exact blk_cell h j (by simpa using hj)
/-- What each entry tells. -/
def playE (P : List (List Ins)) : WS → List En → Option (List (List Ev))
  | _, [] => some []
  | st, e :: es => match st.step P e with
    | none => none
    | some s => match playE P s es with
      | none => none
      | some l => some (s.ev :: l)
theorem playE_cons {P : List (List Ins)} {st : WS} {e : En} {es : List En} {x : List Ev} {l : List (List Ev)} (h : playE P st (e :: es) = some (x :: l)) : ∃ s, st.step P e = some s ∧ s.ev = x ∧ playE P s es = some l := by
  unfold playE at h
  split at h
  · cases h
  · next s hs =>
    split at h
    · cases h
    · next l' hp => cases h; exact ⟨s, hs, rfl, hp⟩
abbrev ins (o a b c : Int) : Ins := ((o, a, b, c), .slice none 0 0, [], false)
def pA : List Ins := [ins 1 1 10 0, ins 17 0 1 2, ins 20 0 3 0, ins 6 3 0 0, ins 11 2 4 5]
theorem playA : playE [pA] ws0 [(1, 0, 0), (1, 0, 0), (2, 20, 0), (1, 0, 0), (1, 0, 0), (1, 0, 0)] = some [[], [], [(2, 6, -1, 0, 10, 0)], [], [(4, 1, 0, 1, 0, 0)], [(5, 2, 0, 0, 0, 0)]] := by kernel_rfl
theorem costN1 : costN 1 = 10 := rfl
theorem costN2 : costN 2 = 100 := rfl
/-- A row of one event that lies beside. -/
theorem one_ev {w : World} {T : Nat → Prop} {v : Value} {l : List Ev} {x : Ev} (h : Sl w T 43 6 v l.length (evs l)) (hl : l = [x]) : ∃ g o c, v = .slice (some ⟨g, o, none⟩) 1 c ∧ T g ∧ w.cell? ⟨g, o + 1, none⟩ = some (inV x.2.1) ∧ w.cell? ⟨g, o + 3, none⟩ = some (inV x.2.2.2.1) ∧ w.cell? ⟨g, o + 4, none⟩ = some (inV x.2.2.2.2.1) := by
  subst hl
  obtain ⟨g, o, c, rfl, hg, _, _, _, hc, _⟩ := h.form (by simp)
  exact ⟨g, o, c, rfl, hg, hc 1 _ rfl, hc 3 _ rfl, hc 4 _ rfl⟩
set_option maxHeartbeats 4000000 in
theorem top_awake (w : World) : Calls Tryz.prog 9 #[] w fun e w' => e = .returned (.bool true) ∧ Fr Nob w w' := by
  obtain ⟨s1, e1, x1, h1⟩ := playE_cons playA
  obtain ⟨s2, e2, x2, h2⟩ := playE_cons h1
  obtain ⟨s3, e3, x3, h3⟩ := playE_cons h2
  obtain ⟨s4, e4, x4, h4⟩ := playE_cons h3
  obtain ⟨s5, e5, x5, h5⟩ := playE_cons h4
  obtain ⟨s6, e6, x6, h6⟩ := playE_cons h5
  clear h1 h2 h3 h4 h5 h6
  have E1 := Lib.hid e1; have X1 := Lib.hid x1
  have E2 := Lib.hid e2; have X2 := Lib.hid x2
  have E3 := Lib.hid e3; have X3 := Lib.hid x3
  have E4 := Lib.hid e4; have X4 := Lib.hid x4
  have E5 := Lib.hid e5; have X5 := Lib.hid x5
  have E6 := Lib.hid e6; have X6 := Lib.hid x6
  clear e1 e2 e3 e4 e5 e6 x1 x2 x3 x4 x5 x6
  have Hno : Hid (NoCs [pA]) := Lib.hid (noCs_of (by rfl))
  have Hok := Lib.hid (fun d => pgok1 (P := [pA]) Hno.out (by decide) d)
  go_enter Tryz.func9, Tryz.ntmps9
  go_wp2_with fail
  obtain ⟨z1, hz1⟩ : ∃ z1, z1 = (w.alloc (.cells (pA.flatMap insEn).toArray 25)).alloc (.cells #[.slice (some ⟨w.heap.size, 0, none⟩) 5 5] 28) := ⟨_, rfl⟩
  have hz1' := hz1
  simp only [pA, ins, insEn, List.flatMap_cons, List.flatMap_nil, List.cons_append, List.nil_append] at hz1'
  rw [← hz1']
  have hfz : Fr Nob w z1 := by rw [hz1]; exact ((Fr.refl Nob w).alloc _).alloc _
  have hb1 : z1.heap[w.heap.size + 1]? = some (.cells [.slice (some ⟨w.heap.size, 0, none⟩) 5 5].toArray 28 (0, 0)) := by rw [hz1]; exact blk_alloc_eq _ (by simp)
  have hb0 : z1.heap[w.heap.size]? = some (.cells (pA.flatMap insEn).toArray 25 (0, 0)) := by rw [hz1, blk_alloc_ne _ (by simp)]; exact heap_alloc_new _ _
  have hin : PgIn z1 (.slice (some ⟨w.heap.size + 1, 0, none⟩) 1 1) [pA] [.slice (some ⟨w.heap.size, 0, none⟩) 5 5] := PgIn.of rfl (rd_lit hb1 1 1 (by omega) rfl (by omega)) (fun i p hi => by
    cases i with
    | zero => simp at hi; subst hi; exact ⟨_, rfl, rd_lit hb0 5 6 (by omega) rfl (by omega)⟩
    | succ i => simp at hi) Hno.out ⟨by simp, by simp⟩ (by decide)
  have Hnew := Lib.hid (world_new hin)
  have Hfz := Lib.hid hfz
  clear hz1 hz1' hfz hb1 hb0 hin
  refine Hnew.out.mono ?_
  rintro e w0 ⟨wb, S0, L, rfl, hf0, ha0, hs0, hsame⟩
  obtain rfl := SameP.eq Hno.out hsame
  have Hf0 := Lib.hid (Hfz.out.trans0 hf0)
  have Ha0 := Lib.hid ha0
  have Hs0 : Hid (∀ q, S0 q → w.heap.size ≤ q) := Lib.hid fun q a => by have := hs0 q a; have := Hfz.out.size; omega
  clear hf0 ha0 hs0 hsame
  have Hst1 := Lib.hid (world_steps doc1 Ha0.out 1 0 0 (Hok.out 0) E1.out (by omega) (by omega))
  go_wp2_with fail
  refine Hst1.out.mono ?_
  rintro e w1 ⟨v1, rfl, B1, S1, T1, f1, a1, u1, sl1, t1⟩
  rw [costN1] at a1
  have Ha1 := Lib.hid (WAt.mono a1 (show _ ≤ 10000 by omega) (show _ ≤ 11 by omega))
  have Hf1 : Hid (Fr Nob w w1) := Lib.hid (Hf0.out.trans f1 fun q hq a => by have := Hs0.out q a; omega)
  have Hs1 : Hid (∀ q, S1 q → w.heap.size ≤ q) := Lib.hid fun q a => by
    rcases u1 q a with b | b
    · exact Hs0.out q b
    · have := Hf0.out.size; omega
  clear f1 a1 u1 sl1 t1 Hst1
  have Hst2 := Lib.hid (world_steps doc1 Ha1.out 1 0 0 (Hok.out 0) E2.out (by omega) (by omega))
  go_wp2_with fail
  refine Hst2.out.mono ?_
  rintro e w2 ⟨v2, rfl, B2, S2, T2, f2, a2, u2, sl2, t2⟩
  rw [costN1] at a2
  have Ha2 := Lib.hid (WAt.mono a2 (show _ ≤ 20000 by omega) (show _ ≤ 21 by omega))
  have Hf2 : Hid (Fr Nob w w2) := Lib.hid (Hf1.out.trans f2 fun q hq a => by have := Hs1.out q a; omega)
  have Hs2 : Hid (∀ q, S2 q → w.heap.size ≤ q) := Lib.hid fun q a => by
    rcases u2 q a with b | b
    · exact Hs1.out q b
    · have := Hf1.out.size; omega
  clear f2 a2 u2 sl2 t2 Hst2
  have Hst3 := Lib.hid (world_steps doc1 Ha2.out 2 20 0 (Hok.out 0) E3.out (by omega) (by omega))
  go_wp2_with fail
  refine Hst3.out.mono ?_
  rintro e w3 ⟨v3, rfl, B3, S3, T3, f3, a3, u3, sl3, t3⟩
  rw [costN2] at a3
  have Ha3 := Lib.hid (WAt.mono a3 (show _ ≤ 30000 by omega) (show _ ≤ 121 by omega))
  have Hf3 : Hid (Fr Nob w w3) := Lib.hid (Hf2.out.trans f3 fun q hq a => by have := Hs2.out q a; omega)
  have Hs3 : Hid (∀ q, S3 q → w.heap.size ≤ q) := Lib.hid fun q a => by
    rcases u3 q a with b | b
    · exact Hs2.out q b
    · have := Hf2.out.size; omega
  obtain ⟨g3, o3, c3, rfl, tg3, p3, q3, r3⟩ := one_ev sl3 X3.out
  dsimp only at p3 q3 r3
  have Hg3 : Hid (¬ S3 g3 ∧ g3 < w3.heap.size) := Lib.hid ⟨(t3 g3 tg3).2.2, (t3 g3 tg3).2.1⟩
  clear f3 a3 u3 sl3 t3 Hst3 tg3
  have Hst4 := Lib.hid (world_steps doc1 Ha3.out 1 0 0 (Hok.out 0) E4.out (by omega) (by omega))
  go_wp2_with fail
  refine Hst4.out.mono ?_
  rintro e w4 ⟨v4, rfl, B4, S4, T4, f4, a4, u4, sl4, t4⟩
  rw [costN1] at a4
  have Ha4 := Lib.hid (WAt.mono a4 (show _ ≤ 40000 by omega) (show _ ≤ 131 by omega))
  have Hf4 : Hid (Fr Nob w w4) := Lib.hid (Hf3.out.trans f4 fun q hq a => by have := Hs3.out q a; omega)
  have Hs4 : Hid (∀ q, S4 q → w.heap.size ≤ q) := Lib.hid fun q a => by
    rcases u4 q a with b | b
    · exact Hs3.out q b
    · have := Hf3.out.size; omega
  have p3 := f4.cell (p := ⟨g3, o3 + 1, none⟩) Hg3.out.1 p3
  have q3 := f4.cell (p := ⟨g3, o3 + 3, none⟩) Hg3.out.1 q3
  have r3 := f4.cell (p := ⟨g3, o3 + 4, none⟩) Hg3.out.1 r3
  have Hg3 : Hid (¬ S4 g3 ∧ g3 < w4.heap.size) := Lib.hid ⟨fun a => by
    rcases u4 _ a with b | b
    · exact Hg3.out.1 b
    · have := Hg3.out.2; omega, by have := Hg3.out.2; have := f4.size; omega⟩
  clear f4 a4 u4 sl4 t4 Hst4
  have Hst5 := Lib.hid (world_steps doc1 Ha4.out 1 0 0 (Hok.out 0) E5.out (by omega) (by omega))
  go_wp2_with fail
  refine Hst5.out.mono ?_
  rintro e w5 ⟨v5, rfl, B5, S5, T5, f5, a5, u5, sl5, t5⟩
  rw [costN1] at a5
  have Ha5 := Lib.hid (WAt.mono a5 (show _ ≤ 50000 by omega) (show _ ≤ 141 by omega))
  have Hf5 : Hid (Fr Nob w w5) := Lib.hid (Hf4.out.trans f5 fun q hq a => by have := Hs4.out q a; omega)
  have Hs5 : Hid (∀ q, S5 q → w.heap.size ≤ q) := Lib.hid fun q a => by
    rcases u5 q a with b | b
    · exact Hs4.out q b
    · have := Hf4.out.size; omega
  obtain ⟨g5, o5, c5, rfl, tg5, p5, q5, r5⟩ := one_ev sl5 X5.out
  dsimp only at p5 q5 r5
  have Hg5 : Hid (¬ S5 g5 ∧ g5 < w5.heap.size) := Lib.hid ⟨(t5 g5 tg5).2.2, (t5 g5 tg5).2.1⟩
  have p3 := f5.cell (p := ⟨g3, o3 + 1, none⟩) Hg3.out.1 p3
  have q3 := f5.cell (p := ⟨g3, o3 + 3, none⟩) Hg3.out.1 q3
  have r3 := f5.cell (p := ⟨g3, o3 + 4, none⟩) Hg3.out.1 r3
  have Hg3 : Hid (¬ S5 g3 ∧ g3 < w5.heap.size) := Lib.hid ⟨fun a => by
    rcases u5 _ a with b | b
    · exact Hg3.out.1 b
    · have := Hg3.out.2; omega, by have := Hg3.out.2; have := f5.size; omega⟩
  clear f5 a5 u5 sl5 t5 Hst5 tg5
  have Hst6 := Lib.hid (world_steps doc1 Ha5.out 1 0 0 (Hok.out 0) E6.out (by omega) (by omega))
  go_wp2_with fail
  refine Hst6.out.mono ?_
  rintro e w6 ⟨v6, rfl, B6, S6, T6, f6, a6, u6, sl6, t6⟩
  rw [costN1] at a6
  have Ha6 := Lib.hid (WAt.mono a6 (show _ ≤ 60000 by omega) (show _ ≤ 151 by omega))
  have Hf6 : Hid (Fr Nob w w6) := Lib.hid (Hf5.out.trans f6 fun q hq a => by have := Hs5.out q a; omega)
  have Hs6 : Hid (∀ q, S6 q → w.heap.size ≤ q) := Lib.hid fun q a => by
    rcases u6 q a with b | b
    · exact Hs5.out q b
    · have := Hf5.out.size; omega
  obtain ⟨g6, o6, c6, rfl, tg6, p6, q6, r6⟩ := one_ev sl6 X6.out
  dsimp only at p6 q6 r6
  have Hg6 : Hid (¬ S6 g6 ∧ g6 < w6.heap.size) := Lib.hid ⟨(t6 g6 tg6).2.2, (t6 g6 tg6).2.1⟩
  have p3 := f6.cell (p := ⟨g3, o3 + 1, none⟩) Hg3.out.1 p3
  have q3 := f6.cell (p := ⟨g3, o3 + 3, none⟩) Hg3.out.1 q3
  have r3 := f6.cell (p := ⟨g3, o3 + 4, none⟩) Hg3.out.1 r3
  have Hg3 : Hid (¬ S6 g3 ∧ g3 < w6.heap.size) := Lib.hid ⟨fun a => by
    rcases u6 _ a with b | b
    · exact Hg3.out.1 b
    · have := Hg3.out.2; omega, by have := Hg3.out.2; have := f6.size; omega⟩
  have p5 := f6.cell (p := ⟨g5, o5 + 1, none⟩) Hg5.out.1 p5
  have q5 := f6.cell (p := ⟨g5, o5 + 3, none⟩) Hg5.out.1 q5
  have r5 := f6.cell (p := ⟨g5, o5 + 4, none⟩) Hg5.out.1 r5
  have Hg5 : Hid (¬ S6 g5 ∧ g5 < w6.heap.size) := Lib.hid ⟨fun a => by
    rcases u6 _ a with b | b
    · exact Hg5.out.1 b
    · have := Hg5.out.2; omega, by have := Hg5.out.2; have := f6.size; omega⟩
  clear f6 a6 u6 sl6 t6 Hst6 tg6
  go_wp2_with fail
  go_ret
  exact ⟨rfl, Hf6.out⟩
/-- A handle's channel; none. -/
theorem world_chanAt {w : World} {S : Nat → Prop} {wb : Nat} {P : Pg} {st : WS} {nd nm : Nat} (h : WAt w S wb P st nd nm) (i : Nat) (hi : i < st.nch) : Calls Tryz.prog 15 #[ptV wb, inV (i : Int)] w fun e w' => e = .returned (ptV (P.2 i)) ∧ w = w' := by
  obtain ⟨F, c, h, rfl, hS⟩ := h
  have Hc := Lib.hid (world_channel h (i : Int) (some i) (by unfold WS.chan; rw [if_neg (by omega)]; simp))
  have he := Lib.hid (show Value.pointer (pa c.B (some i)) = ptV (P.2 i) by rw [← h.pad.2.2 i hi]; rfl)
  clear h hS
  go_enter Tryz.func15, Tryz.ntmps15
  go_wp2_with fail
  refine Hc.out.mono ?_
  rintro e _ ⟨rfl, rfl⟩
  rw [he.out]
  go_wp2_with fail
  go_ret
  exact ⟨rfl, rfl⟩
theorem WAt.len {w : World} {S : Nat → Prop} {wb : Nat} {P : Pg} {st : WS} {nd nm : Nat} (h : WAt w S wb P st nd nm) {i : Nat} {c : ChS} (hi : st.ch i = some c) (hn : i < st.nch) (n : Nat) (hl : c.lenR = n) : Calls Tryz.prog 16 #[ptV (P.2 i)] w fun e w' => e = .returned (inV (n : Int)) ∧ w = w' := by
  obtain ⟨F, c', h, rfl, hS⟩ := h
  rw [← h.pad.2.2 i hn]
  exact pool_len (h.pool id) i hi n hl
theorem WAt.cap {w : World} {S : Nat → Prop} {wb : Nat} {P : Pg} {st : WS} {nd nm : Nat} (h : WAt w S wb P st nd nm) {i : Nat} {c : ChS} (hi : st.ch i = some c) (hn : i < st.nch) (n : Nat) (hl : c.capR = n) : Calls Tryz.prog 17 #[ptV (P.2 i)] w fun e w' => e = .returned (inV (n : Int)) ∧ w = w' := by
  obtain ⟨F, c', h, rfl, hS⟩ := h
  rw [← h.pad.2.2 i hn]
  exact pool_cap (h.pool id) i hi n hl
end Go.Proofs.YtcffplgimbbflaaGreat
