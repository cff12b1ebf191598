/- What end, Close and End of a channel do. -/
import Derived.Test.YtdemeghhjnehbaaChanPark
set_option linter.unusedVariables false
set_option linter.unusedSimpArgs false
namespace Go.Proofs.Ytdemeghhjnehbaa
open Go.RowKit
set_option maxRecDepth 100000
theorem info_wake : (Try.prog.info? 37).map (fun i => (i.zero, i.size, i.bytes)) = some (some (.agg #[.int .i64 0, .int .i64 0, .int .i64 0, .bool false, .bool false]), 5, 32) := by kernel_rfl
def hdW : List Wt → Wt
  | [] => (0, 0, 0)
  | x :: _ => x
def okW : List Wt → Bool
  | [] => false
  | _ :: _ => true
def cntOf : Option Value → Nat
  | some (.int _ n) => n.toNat
  | _ => 0
def okN : Value → Nat
  | .bool true => 1
  | _ => 0
theorem wait_pop_any (w : World) (S : Nat → Prop) (b : Nat) (l : List Wt) (h : WaitAt w S b l) :
    Calls Try.prog 71 #[.pointer (some ⟨b, 0, none⟩)] w fun e w' => e = .returned (.tuple #[wtVal (hdW l), .bool (okW l)]) ∧ Fr S w w' ∧ WaitAt w' S b l.tail := by
  cases l with
  | nil => exact (wait_pop_none w S b h).mono fun e w' ⟨h1, h2⟩ => ⟨h1, h2.none, h.fr0 h2⟩
  | cons x l => exact wait_pop_some w S b x l h
theorem WaitAt.count {w : World} {S : Nat → Prop} {b : Nat} {l : List Wt} (h : WaitAt w S b l) : cntOf (w.cell? ⟨b, 2, none⟩) = l.length := by
  obtain ⟨xs, h, rfl⟩ := h
  rw [blk_cell h.blk 2 rfl]
  simp [cntOf]
theorem okN_le (l : List Wt) : l.tail.length + okN (.bool (okW l)) = l.length := by cases l <;> simp [okN, okW]
/-- Where end stands: the two queues in a slice of their own, the wakes so far in another. -/
structure EndSt (w wr : World) (S : Nat → Prop) (b rb qb sb : Nat) (R A B : Nat → Prop) (c : ChS) (sq : Nat) (T : Nat → Prop) (a : List Wk) (A2 : Option Addr) (cp n : Nat) : Prop where
  fr : Fr S w wr
  ch : ChP wr S b rb qb sb R A B c
  sqb : wr.heap[sq]? = some (.cells #[.pointer (some ⟨qb, 0, none⟩), .pointer (some ⟨sb, 0, none⟩)] 82 (0, 0))
  sqn : w.heap.size ≤ sq
  old : ∀ k, S k → k < w.heap.size
  tn : ∀ k, T k → w.heap.size ≤ k ∧ k < wr.heap.size ∧ k ≠ sq
  sl : Sl wr T 37 5 (.slice A2 n cp) n (wks a)
  len : a.length = n
structure EndCur (w wr : World) (S : Nat → Prop) (b rb qb sb : Nat) (R A B : Nat → Prop) (c : ChS) (sq : Nat) (T : Nat → Prop) (a : List Wk) (A2 : Option Addr) (cp n pb : Nat) (x : Wt) : Prop where
  st : EndSt w wr S b rb qb sb R A B c sq T a A2 cp n
  cur : wr.heap[pb]? = some (.cells #[.int .i64 x.1, .int .i64 x.2.1, .int .i64 x.2.2] 63 (0, 0))
  pbn : w.heap.size ≤ pb
  pbs : pb ≠ sq
  pbt : ¬ T pb
section
variable {w wr w' : World} {S : Nat → Prop} {b rb qb sb : Nat} {R A B : Nat → Prop} {c : ChS} {sq : Nat} {T : Nat → Prop} {a : List Wk} {A2 : Option Addr} {cp n : Nat}
/-- A frame that touches neither the channel, nor the slices. -/
theorem EndSt.fr0 (h : EndSt w wr S b rb qb sb R A B c sq T a A2 cp n) (hf : Fr Nob wr w') : EndSt w w' S b rb qb sb R A B c sq T a A2 cp n :=
  ⟨h.fr.trans0 hf.none, h.ch.fr0 hf, hf.blk id h.sqb, h.sqn, h.old, fun k q => ⟨(h.tn k q).1, by have := (h.tn k q).2.1; have := hf.size; omega, (h.tn k q).2.2⟩, h.sl.fr hf fun _ _ q => q, h.len⟩
theorem EndCur.fr0 {pb : Nat} {x : Wt} (h : EndCur w wr S b rb qb sb R A B c sq T a A2 cp n pb x) (hf : Fr Nob wr w') : EndCur w w' S b rb qb sb R A B c sq T a A2 cp n pb x :=
  ⟨h.st.fr0 hf, hf.blk id h.cur, h.pbn, h.pbs, h.pbt⟩
/-- Another who waits is at hand: in a block of its own. -/
theorem EndSt.fresh (h : EndSt w wr S b rb qb sb R A B c sq T a A2 cp n) (x : Wt) :
    EndCur w (wr.alloc (.cells #[.int .i64 x.1, .int .i64 x.2.1, .int .i64 x.2.2] 63)) S b rb qb sb R A B c sq T a A2 cp n wr.heap.size x :=
  ⟨h.fr0 ((Fr.refl _ _).alloc _), heap_alloc_new _ _, h.fr.size, fun e => by have := lt_of_block h.sqb; omega, fun q => by have := (h.tn _ q).2.1; omega⟩
end
section
variable {w wr w' : World} {S : Nat → Prop} {b rb qb sb : Nat} {R A B : Nat → Prop} {c : ChS} {sq : Nat} {T : Nat → Prop} {a : List Wk} {A2 : Option Addr} {cp n pb : Nat} {x : Wt}
theorem EndCur.put (h : EndCur w wr S b rb qb sb R A B c sq T a A2 cp n pb x) (y : Wt) :
    EndCur w (((wr.setCell ⟨pb, 0, none⟩ (.int .i64 y.1)).setCell ⟨pb, 1, none⟩ (.int .i64 y.2.1)).setCell ⟨pb, 2, none⟩ (.int .i64 y.2.2)) S b rb qb sb R A B c sq T a A2 cp n pb y := by
  have hf : Fr (fun k => k = pb) wr (((wr.setCell ⟨pb, 0, none⟩ (.int .i64 y.1)).setCell ⟨pb, 1, none⟩ (.int .i64 y.2.1)).setCell ⟨pb, 2, none⟩ (.int .i64 y.2.2)) :=
    (((Fr.refl (fun k => k = pb) wr).setCell (p := ⟨pb, 0, none⟩) (.inl rfl) _).setCell (p := ⟨pb, 1, none⟩) (.inl rfl) _).setCell (p := ⟨pb, 2, none⟩) (.inl rfl) _
  have hpb := h.pbn
  refine ⟨⟨h.st.fr.trans hf fun k hk e => by omega, h.st.ch.fr hf fun k q e => by have := h.st.old k q; omega, hf.blk (fun e => h.pbs e.symm) h.st.sqb, h.st.sqn, h.st.old, fun k q => ⟨(h.st.tn k q).1, by have := (h.st.tn k q).2.1; have := hf.size; omega, (h.st.tn k q).2.2⟩, h.st.sl.fr hf fun k q e => h.pbt (by rw [← e]; exact q), h.st.len⟩, ?_, h.pbn, h.pbs, h.pbt⟩
  rw [blk_set (blk_set (blk_set h.cur 0 _) 1 _) 2 _]; rfl
theorem EndCur.append (h : EndCur w wr S b rb qb sb R A B c sq T a A2 cp n pb x) (hf : Fr T wr w') (k : Wk) {A3 : Option Addr} {c3 : Nat} (hs : Sl w' (fun j => T j ∨ wr.heap.size ≤ j) 37 5 (.slice A3 (n + 1) c3) (n + 1) (wks a ++ wkEn k)) :
    EndCur w w' S b rb qb sb R A B c sq (fun j => (T j ∨ wr.heap.size ≤ j) ∧ j < w'.heap.size) (a ++ [k]) A3 c3 (n + 1) pb x := by
  have hz := h.st.fr.size
  have hpl := lt_of_block h.cur
  have hsl := lt_of_block h.st.sqb
  refine ⟨⟨h.st.fr.trans hf fun j hj q => by have := (h.st.tn j q).1; omega, h.st.ch.fr hf fun j q e => by have := h.st.old j q; have := (h.st.tn j e).1; omega, hf.blk (fun e => (h.st.tn _ e).2.2 rfl) h.st.sqb, h.st.sqn, h.st.old, fun j q => ?_, ?_, by simp [h.st.len]⟩, hf.blk h.pbt h.cur, h.pbn, h.pbs, fun q => ?_⟩
  · rcases q.1 with q' | q'
    · exact ⟨(h.st.tn j q').1, q.2, (h.st.tn j q').2.2⟩
    · exact ⟨by omega, q.2, by omega⟩
  · rw [show wks (a ++ [k]) = wks a ++ wkEn k by simp [wks]]
    exact hs.mono fun j hj q => ⟨q, hj⟩
  · rcases q.1 with q' | q'
    · exact h.pbt q'
    · omega
end
theorem onceW_le (pn : Bool) : ∀ (l : List Wt) (acc : List Wk), (onceW pn acc l).length ≤ acc.length + l.length
  | [], acc => by simp [onceW]
  | x :: l, acc => by
    unfold onceW
    refine Nat.le_trans (onceW_le pn l _) ?_
    split <;> simp <;> omega

theorem EndSt.pop0 {w wr w' : World} {S : Nat → Prop} {b rb qb sb : Nat} {R A B : Nat → Prop} {c : ChS} {sq : Nat} {T : Nat → Prop} {a : List Wk} {A2 : Option Addr} {cp n : Nat} (h : EndSt w wr S b rb qb sb R A B c sq T a A2 cp n) {l : List Wt} (hf : Fr A wr w') (hq : WaitAt w' A qb l) : EndSt w w' S b rb qb sb R A B { c with rv := l } sq T a A2 cp n :=
  have hS : ∀ k, A k → k < w.heap.size := fun k q => h.old k (h.ch.subA k q).1
  ⟨h.fr.trans0 (hf.mono fun k _ q => (h.ch.subA k q).1), h.ch.toRecv hf hq, hf.blk (fun q => by have := hS _ q; have := h.sqn; omega) h.sqb, h.sqn, h.old, fun k q => ⟨(h.tn k q).1, by have := (h.tn k q).2.1; have := hf.size; omega, (h.tn k q).2.2⟩, h.sl.fr hf fun k q q' => by have := hS _ q'; have := (h.tn k q).1; omega, h.len⟩
theorem EndCur.pop0 {w wr w' : World} {S : Nat → Prop} {b rb qb sb : Nat} {R A B : Nat → Prop} {c : ChS} {sq : Nat} {T : Nat → Prop} {a : List Wk} {A2 : Option Addr} {cp n pb : Nat} {x : Wt} (h : EndCur w wr S b rb qb sb R A B c sq T a A2 cp n pb x) {l : List Wt} (hf : Fr A wr w') (hq : WaitAt w' A qb l) : EndCur w w' S b rb qb sb R A B { c with rv := l } sq T a A2 cp n pb x :=
  ⟨h.st.pop0 hf hq, hf.blk (fun q => by have := h.st.old _ (h.st.ch.subA _ q).1; have := h.pbn; omega) h.cur, h.pbn, h.pbs, h.pbt⟩

theorem EndSt.pop1 {w wr w' : World} {S : Nat → Prop} {b rb qb sb : Nat} {R A B : Nat → Prop} {c : ChS} {sq : Nat} {T : Nat → Prop} {a : List Wk} {A2 : Option Addr} {cp n : Nat} (h : EndSt w wr S b rb qb sb R A B c sq T a A2 cp n) {l : List Wt} (hf : Fr B wr w') (hq : WaitAt w' B sb l) : EndSt w w' S b rb qb sb R A B { c with sd := l } sq T a A2 cp n :=
  have hS : ∀ k, B k → k < w.heap.size := fun k q => h.old k (h.ch.subB k q).1
  ⟨h.fr.trans0 (hf.mono fun k _ q => (h.ch.subB k q).1), h.ch.toSend hf hq, hf.blk (fun q => by have := hS _ q; have := h.sqn; omega) h.sqb, h.sqn, h.old, fun k q => ⟨(h.tn k q).1, by have := (h.tn k q).2.1; have := hf.size; omega, (h.tn k q).2.2⟩, h.sl.fr hf fun k q q' => by have := hS _ q'; have := (h.tn k q).1; omega, h.len⟩
theorem EndCur.pop1 {w wr w' : World} {S : Nat → Prop} {b rb qb sb : Nat} {R A B : Nat → Prop} {c : ChS} {sq : Nat} {T : Nat → Prop} {a : List Wk} {A2 : Option Addr} {cp n pb : Nat} {x : Wt} (h : EndCur w wr S b rb qb sb R A B c sq T a A2 cp n pb x) {l : List Wt} (hf : Fr B wr w') (hq : WaitAt w' B sb l) : EndCur w w' S b rb qb sb R A B { c with sd := l } sq T a A2 cp n pb x :=
  ⟨h.st.pop1 hf hq, hf.blk (fun q => by have := h.st.old _ (h.st.ch.subB _ q).1; have := h.pbn; omega) h.cur, h.pbn, h.pbs, h.pbt⟩
end Go.Proofs.Ytdemeghhjnehbaa
