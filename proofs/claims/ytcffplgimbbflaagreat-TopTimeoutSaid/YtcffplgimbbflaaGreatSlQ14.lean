/- Who waits on a channel, from outside; what two laws need. -/
import Derived.Test.YtcffplgimbbflaaGreatSlQ13
set_option linter.unusedVariables false
set_option linter.unusedSimpArgs false
namespace Go.Proofs.YtcffplgimbbflaaGreat
open Go.RowKit
set_option maxRecDepth 100000
theorem Tryz.info_ctx : (Tryz.prog.info? 120).map (fun i => (i.zero, i.size, i.bytes)) = some (some (.agg #[.int .i64 0, .bool false, .pointer none, .int .i64 0, .int .i64 0, .int .i64 0, .bool false, .bool false, .int .i64 0]), 9, 64) := by kernel_rfl
/-- A context as it lies. -/
structure CxR where
  node : Nat
  free : Bool
  cb : Option Nat
  err : Int
  cause : Int
  when' : Int
  has : Bool
  own : Bool
def ptrO : Option Nat → Option Addr
  | none => none
  | some b => some ⟨b, 0, none⟩
abbrev cxEn (x : CxR) : List Value := [.int .i64 (x.node : Int), .bool x.free, .pointer (ptrO x.cb), .int .i64 x.err, .int .i64 x.cause, .int .i64 x.when', .bool x.has, .bool x.own, .int .i64 (-1)]
abbrev cxs (l : List CxR) : List Value := l.flatMap cxEn
theorem cxs_get (l : List CxR) (i j : Nat) (x : CxR) (h : l[i]? = some x) (hj : j < 9) : (cxs l)[i * 9 + j]? = (cxEn x)[j]? := rowsGet cxEn (fun _ => rfl) l i j x h hj
structure CxP (w : World) (S : Nat → Prop) (b tmb trb mb : Nat) (ST SL : Nat → Prop) (v : Value) (l : List CxR) (n : Nat) (ns : List Nd) (nm : Nat) : Prop where
  own : S b
  ownM : S mb
  ne : b ≠ mb
  lt : ∀ k, S k → k < w.heap.size
  subT : ∀ k, ST k → S k ∧ k ≠ b ∧ k ≠ mb
  subL : ∀ k, SL k → S k ∧ k ≠ b ∧ k ≠ mb ∧ ¬ ST k
  blk : w.heap[b]? = some (.cells #[.pointer (some ⟨tmb, 0, none⟩), .pointer (some ⟨trb, 0, none⟩), v, .slice none 0 0, .map (some mb)] 117 (0, 0))
  len : l.length = n
  sl : Sl w SL 120 9 v n (cxs l)
  tree : TreeAt w ST trb ns
  map : ∃ f, MapAt w mb nm f
def CxAt (w : World) (S : Nat → Prop) (b tmb : Nat) (l : List CxR) (ns : List Nd) (nm : Nat) : Prop := ∃ (trb mb : Nat) (ST SL : Nat → Prop) (v : Value) (n : Nat), CxP w S b tmb trb mb ST SL v l n ns nm
section
variable {w w' : World} {S : Nat → Prop} {b tmb trb mb : Nat} {ST SL : Nat → Prop} {v : Value} {l : List CxR} {n : Nat} {ns : List Nd} {nm : Nat}
theorem CxP.fr (h : CxP w S b tmb trb mb ST SL v l n ns nm) {F : Nat → Prop} (hf : Fr F w w') (hd : ∀ k, S k → F k → False) : CxP w' S b tmb trb mb ST SL v l n ns nm :=
  ⟨h.own, h.ownM, h.ne, fun k q => by have := h.lt k q; have := hf.size; omega, h.subT, h.subL, hf.blk (hd _ h.own) h.blk, h.len, h.sl.fr hf fun k q => hd k (h.subL k q).1, h.tree.fr hf fun k q => hd k (h.subT k q).1, by obtain ⟨f, hm⟩ := h.map; exact ⟨f, hm.fr hf (hd _ h.ownM)⟩⟩
theorem CxP.fr0 (h : CxP w S b tmb trb mb ST SL v l n ns nm) (hf : Fr Nob w w') : CxP w' S b tmb trb mb ST SL v l n ns nm := h.fr hf fun _ _ q => q
theorem CxAt.fr (h : CxAt w S b tmb l ns nm) {F : Nat → Prop} (hf : Fr F w w') (hd : ∀ k, S k → F k → False) : CxAt w' S b tmb l ns nm := by
  obtain ⟨trb, mb, ST, SL, v, n, h⟩ := h; exact ⟨trb, mb, ST, SL, v, n, h.fr hf hd⟩
theorem CxAt.fr0 (h : CxAt w S b tmb l ns nm) (hf : Fr Nob w w') : CxAt w' S b tmb l ns nm := h.fr hf fun _ _ q => q
theorem CxAt.own (h : CxAt w S b tmb l ns nm) : S b := by obtain ⟨trb, mb, ST, SL, v, n, h⟩ := h; exact h.own
theorem CxAt.lt (h : CxAt w S b tmb l ns nm) : ∀ k, S k → k < w.heap.size := by obtain ⟨trb, mb, ST, SL, v, n, h⟩ := h; exact h.lt
theorem CxAt.mono (h : CxAt w S b tmb l ns nm) {m : Nat} (hm : nm ≤ m) : CxAt w S b tmb l ns m := by
  obtain ⟨trb, mb, ST, SL, v, n, h⟩ := h
  exact ⟨trb, mb, ST, SL, v, n, h.own, h.ownM, h.ne, h.lt, h.subT, h.subL, h.blk, h.len, h.sl, h.tree, by obtain ⟨f, q⟩ := h.map; exact ⟨f, q.mono hm⟩⟩
/-- The tree has grown. -/
theorem CxP.growTree (h : CxP w S b tmb trb mb ST SL v l n ns nm) (hf : Fr ST w w') {ns' : List Nd} (ht : TreeAt w' (And' ST w w') trb ns') : CxP w' (And' S w w') b tmb trb mb (And' ST w w') SL v l n ns' nm := by
  have hz := hf.size
  refine ⟨.inl h.own, .inl h.ownM, h.ne, fun k q => ?_, fun k q => ?_, fun k q => ⟨.inl (h.subL k q).1, (h.subL k q).2.1, (h.subL k q).2.2.1, fun q' => ?_⟩, hf.blk (fun q => (h.subT _ q).2.1 rfl) h.blk, h.len, h.sl.fr hf fun k q q' => (h.subL k q).2.2.2 q', ht, by obtain ⟨f, hm⟩ := h.map; exact ⟨f, hm.fr hf fun q => (h.subT _ q).2.2 rfl⟩⟩
  · rcases q with q | q
    · have := h.lt k q; omega
    · exact q.2
  · rcases q with q | q
    · exact ⟨.inl (h.subT k q).1, (h.subT k q).2⟩
    · exact ⟨.inr q, fun e => by have := h.lt b h.own; omega, fun e => by have := h.lt mb h.ownM; omega⟩
  · rcases q' with q' | q'
    · exact (h.subL k q).2.2.2 q'
    · have := h.lt k (h.subL k q).1; omega
theorem CxP.toMap (h : CxP w S b tmb trb mb ST SL v l n ns nm) (hf : Fr (fun k => k = mb) w w') {f : Int → Option Int} {m : Nat} (hm : MapAt w' mb m f) : CxP w' S b tmb trb mb ST SL v l n ns m :=
  ⟨h.own, h.ownM, h.ne, fun k q => by have := h.lt k q; have := hf.size; omega, h.subT, h.subL, hf.blk h.ne h.blk, h.len, h.sl.fr hf fun k q e => (h.subL k q).2.2.1 e, h.tree.fr hf fun k q e => (h.subT k q).2.2 e, f, hm⟩
theorem CxP.cells (h : CxP w S b tmb trb mb ST SL v l n ns nm) : ∃ A cp, v = .slice A n cp ∧ w.cell? ⟨b, 0, none⟩ = some (.pointer (some ⟨tmb, 0, none⟩)) ∧ w.cell? ⟨b, 1, none⟩ = some (.pointer (some ⟨trb, 0, none⟩)) ∧ w.cell? ⟨b, 2, none⟩ = some (.slice A n cp) ∧ w.cell? ⟨b, 3, none⟩ = some (.slice none 0 0) ∧ w.cell? ⟨b, 4, none⟩ = some (.map (some mb)) ∧ w.frozen? ⟨b, 2, none⟩ = false := by
  obtain ⟨A, cp, e⟩ := h.sl.slice
  have c2 := blk_cell h.blk 2 rfl
  rw [e] at c2
  exact ⟨A, cp, e, blk_cell h.blk 0 rfl, blk_cell h.blk 1 rfl, c2, blk_cell h.blk 3 rfl, blk_cell h.blk 4 rfl, blk_froz h.blk 2⟩
end
/-- One more stands at the end of the row. -/
theorem CxP.grown {w X w3 : World} {S : Nat → Prop} {b tmb trb mb : Nat} {ST SL : Nat → Prop} {A : Option Addr} {cp : Nat} {l : List CxR} {n : Nat} {ns : List Nd} {nm : Nat} (h : CxP w S b tmb trb mb ST SL (.slice A n cp) l n ns nm) (x : CxR)
    (hX : Fr Nob w X) (hf3 : Fr SL X w3) {X3 : Option Addr} {c3 : Nat} (hs3 : Sl w3 (fun k => SL k ∨ X.heap.size ≤ k) 120 9 (.slice X3 (n + 1) c3) (n + 1) (cxs l ++ cxEn x)) :
    CxP (w3.setCell ⟨b, 2, none⟩ (.slice X3 (n + 1) c3)) (And' S w (w3.setCell ⟨b, 2, none⟩ (.slice X3 (n + 1) c3))) b tmb trb mb ST (And' SL w (w3.setCell ⟨b, 2, none⟩ (.slice X3 (n + 1) c3))) (.slice X3 (n + 1) c3) (l ++ [x]) (n + 1) ns nm ∧ Fr S w (w3.setCell ⟨b, 2, none⟩ (.slice X3 (n + 1) c3)) := by
  have hb3 := hf3.blk (fun q => (h.subL _ q).2.1 rfl) (hX.blk id h.blk)
  obtain ⟨W3, hW3⟩ : ∃ W3, W3 = w3.setCell ⟨b, 2, none⟩ (.slice X3 (n + 1) c3) := ⟨_, rfl⟩
  have hf34 : Fr (fun k => k = b) w3 W3 := by rw [hW3]; exact (Fr.refl (fun k => k = b) w3).setCell (p := ⟨b, 2, none⟩) (.inl rfl) _
  have hb4 := blk_set hb3 2 (.slice X3 (n + 1) c3)
  rw [← hW3] at hb4 ⊢
  have hbl := h.lt b h.own; have hml := h.lt mb h.ownM
  have hz1 := hX.size; have hz2 := hf3.size; have hz3 := hf34.size
  refine ⟨⟨.inl h.own, .inl h.ownM, h.ne, fun k q => ?_, fun k q => ⟨.inl (h.subT k q).1, (h.subT k q).2⟩, fun k q => ?_, hb4, by rw [List.length_append, h.len]; rfl, ?_, ?_, ?_⟩, ?_⟩
  · rcases q with q | q
    · have := h.lt k q; omega
    · exact q.2
  · rcases q with q | q
    · exact ⟨.inl (h.subL k q).1, (h.subL k q).2⟩
    · exact ⟨.inr q, by omega, by omega, fun e => by have := h.lt k (h.subT k e).1; omega⟩
  · have e1 : cxs (l ++ [x]) = cxs l ++ cxEn x := by simp [cxs]
    rw [e1]
    refine (hs3.fr hf34 fun k q e => ?_).mono fun k hk q => ?_
    · rcases q with q | q
      · exact (h.subL k q).2.1 e
      · omega
    · rcases q with q | q
      · exact .inl q
      · exact .inr ⟨by omega, hk⟩
  · exact ((h.tree.fr0 hX).fr hf3 fun k q q' => (h.subL k q').2.2.2 q).fr hf34 fun k q e => (h.subT k q).2.1 e
  · obtain ⟨f, hm⟩ := h.map
    exact ⟨f, ((hm.fr0 hX).fr hf3 fun q => (h.subL _ q).2.2.1 rfl).fr hf34 fun e => h.ne e.symm⟩
  · exact (hX.none.trans hf3 fun k _ q => (h.subL k q).1).trans hf34 fun k _ q => by subst q; exact h.own
set_option maxHeartbeats 2000000 in
theorem cx_add {w : World} {S : Nat → Prop} {b tmb : Nat} {l : List CxR} {ns : List Nd} {nm : Nat} (h : CxAt w S b tmb l ns nm) (n : Nat) (hl : l.length = n) (hn : n < 900) (hns : ns.length < 1000) (hnm : nm < 900000) (free : Bool) (cb : Option Nat) (err cause when' : Int) (has own : Bool) (par : Int) (nf : Bool) (hnf : (!free) = nf) {ns' : List Nd}
    (htree : ∀ W ST trb, TreeAt W ST trb ns → Calls Tryz.prog 67 #[.pointer (some ⟨trb, 0, none⟩), .int .i64 par, .bool nf] W fun e w' => e = .returned (.tuple #[.int .i64 (ns.length : Int), .int .i64 0]) ∧ Fr ST W w' ∧ TreeAt w' (And' ST W w') trb ns') :
    Calls Tryz.prog 45 #[.pointer (some ⟨b, 0, none⟩), .agg #[.int .i64 0, .bool free, .pointer (ptrO cb), .int .i64 err, .int .i64 cause, .int .i64 when', .bool has, .bool own, .int .i64 0], .int .i64 par] w fun e w' => ∃ S' : Nat → Prop, e = .returned (.int .i64 (n : Int)) ∧ Fr S w w' ∧ CxAt w' S' b tmb (l ++ [⟨ns.length, free, cb, err, cause, when', has, own⟩]) ns' (nm + 1) ∧ ∀ k, S' k → S k ∨ w.heap.size ≤ k := by
  obtain ⟨trb, mb, ST, SL, v, n', h⟩ := h
  obtain rfl : n' = n := by rw [← h.len, hl]
  have Htree := Lib.hid (fun W (hW : Fr Nob w W) => htree W ST trb ((h.fr0 hW).tree))
  obtain ⟨A, cp, rfl, c0, c1, c2, c3, c4, f2⟩ := h.cells
  have H := Lib.hid h
  have C1 := Lib.hid c1
  clear h htree c0 c1 c2 c3 c4 f2
  generalize hnn : ns.length = m at *
  have Hnn := Lib.hid hnn
  clear hnn
  obtain ⟨pc, hpc⟩ : ∃ pc, pc = ptrO cb := ⟨_, rfl⟩
  rw [← hpc]
  have Hpc := Lib.hid hpc
  clear hpc
  go_enter Tryz.func45, Tryz.ntmps45
  go_wp2_with fail
  obtain ⟨w1, hw1⟩ : ∃ w1, w1 = w.alloc (.cells #[.int .i64 0, .bool free, .pointer pc, .int .i64 err, .int .i64 cause, .int .i64 when', .bool has, .bool own, .int .i64 0] 120) := ⟨_, rfl⟩
  rw [← hw1]
  obtain ⟨xb, hxb⟩ : ∃ xb, xb = w.heap.size := ⟨_, rfl⟩
  rw [← hxb]
  have hfw1 : Fr Nob w w1 := by rw [hw1]; exact (Fr.refl Nob w).alloc _
  have hbw1 : w1.heap[xb]? = some (.cells #[.int .i64 0, .bool free, .pointer pc, .int .i64 err, .int .i64 cause, .int .i64 when', .bool has, .bool own, .int .i64 0] 120 (0, 0)) := by rw [hw1, hxb]; exact heap_alloc_new _ _
  have Hfw1 := Lib.hid hfw1; have Hbw1 := Lib.hid hbw1; have Hzw1 : Hid (w.heap.size = xb ∧ xb < w1.heap.size) := ⟨hxb.symm, lt_of_block hbw1⟩
  clear hw1 hxb hfw1 hbw1
  have hS : ∀ k, S k → k < w.heap.size := H.out.lt
  have hxS : ¬ S xb := fun q => by have := hS _ q; have := Hzw1.out; omega
  have key : ∀ W, Fr ST w1 W → W.cell? ⟨b, 1, none⟩ = some (.pointer (some ⟨trb, 0, none⟩)) ∧ W.cell? ⟨xb, 1, none⟩ = some (.bool free) := fun W hW => by
    have q := hW.blk (fun q => hxS (H.out.subT _ q).1) Hbw1.out
    exact ⟨hW.cell (fun q => (H.out.subT _ q).2.1 rfl) (Hfw1.out.cell id C1.out), blk_cell q 1 rfl⟩
  have hxb : xb ≠ b := fun e => hxS (by rw [e]; exact H.out.own)
  have key2 : ∀ W u, Fr ST w1 W → (W.setCell ⟨xb, 0, none⟩ u).cell? ⟨b, 1, none⟩ = some (.pointer (some ⟨trb, 0, none⟩)) ∧ (W.setCell ⟨xb, 0, none⟩ u).cell? ⟨xb, 1, none⟩ = some (.bool free) := fun W u hW => by
    have q := hW.blk (fun q => hxS (H.out.subT _ q).1) Hbw1.out
    exact ⟨((Fr.refl (fun k => k = xb) W).setB 0 u).cell (p := ⟨b, 1, none⟩) (fun e => hxb e.symm) (key W hW).1, blk_cell (blk_set q 0 u) 1 rfl⟩
  have keyx : ∀ W, Fr ST w1 W → W.cell? ⟨xb, 0, none⟩ = some (.int .i64 0) ∧ W.frozen? ⟨xb, 0, none⟩ = false := fun W hW => by
    have q := hW.blk (fun q => hxS (H.out.subT _ q).1) Hbw1.out
    exact ⟨blk_cell q 0 rfl, blk_froz q 0⟩
  have Key := Lib.hid key; have Key2 := Lib.hid key2; have Keyx := Lib.hid keyx
  clear key key2 keyx
  have hf0 : Fr ST w1 w1 := Fr.refl _ _
  go_region_held3 (fun W => W.cell? ⟨b, 1, none⟩ = some (.pointer (some ⟨trb, 0, none⟩)) ∧ W.cell? ⟨xb, 1, none⟩ = some (.bool free))
    ((first | (refine Key2.out _ _ ?_; with_reducible exact hf2) | (refine Key.out _ ?_; first | with_reducible exact hf2 | with_reducible exact hf0 | exact hf0.drew)))
    ((go_at_call 67; refine (Htree.out w1.drew (Hfw1.out.drew)).mono ?_; rintro e w2 ⟨rfl, hf2', ht2⟩; have hf2 : Fr ST w1 w2 := (hf0.drew).trans0 hf2'; obtain ⟨xx0, xz0⟩ := Keyx.out w2 hf2; have Ht2 := Lib.hid (H.out.fr0 (Hfw1.out.drew) |>.growTree hf2' ht2); clear ht2 hf2'))
  obtain ⟨w3, hw3⟩ : ∃ w3, w3 = w2.setCell ⟨xb, 0, none⟩ (.int .i64 (m : Int)) := ⟨_, rfl⟩
  rw [← hw3]
  have hx2 := hf2.blk (fun q => hxS (H.out.subT _ q).1) Hbw1.out
  have hb3 : w3.heap[xb]? = some (.cells #[.int .i64 (m : Int), .bool free, .pointer pc, .int .i64 err, .int .i64 cause, .int .i64 when', .bool has, .bool own, .int .i64 0] 120 (0, 0)) := by rw [hw3]; exact blk_set hx2 0 _
  have hf23 : Fr (fun k => k = xb) w2 w3 := by rw [hw3]; exact (Fr.refl _ w2).setB 0 _
  have hxd : ∀ k, And' S w1.drew w2 k → k = xb → False := fun k q e => by
    rcases q with q | q
    · exact hxS (by rw [← e]; exact q)
    · have := Hzw1.out; have := q.1; rw [e] at this; exact absurd this (by show ¬ w1.heap.size ≤ xb; omega)
  have H3 := Lib.hid (Ht2.out.fr hf23 hxd)
  have Hf2 := Lib.hid hf2; have Hb3 := Lib.hid hb3; have Hxd := Lib.hid hxd; have Hf23 := Lib.hid hf23
  clear hw3 hx2 hb3 hf23 hxd xx0 xz0 hf2 hf0 Key Key2 Keyx
  have x8 := blk_cell Hb3.out 8 rfl; have z8 := blk_froz Hb3.out 8
  go_wp2_with fail
  obtain ⟨w4, hw4⟩ : ∃ w4, w4 = w3.setCell ⟨xb, 8, none⟩ (.int .i64 (-1)) := ⟨_, rfl⟩
  rw [← hw4]
  have hb4 : w4.heap[xb]? = some (.cells #[.int .i64 (m : Int), .bool free, .pointer pc, .int .i64 err, .int .i64 cause, .int .i64 when', .bool has, .bool own, .int .i64 (-1)] 120 (0, 0)) := by rw [hw4]; exact blk_set Hb3.out 8 _
  have hf34 : Fr (fun k => k = xb) w3 w4 := by rw [hw4]; exact (Fr.refl _ w3).setB 8 _
  have H4 := Lib.hid (H3.out.fr hf34 Hxd.out)
  have Hf34 := Lib.hid hf34; have Hb4 := Lib.hid hb4
  clear hw4 hb4 hf34 x8 z8
  obtain ⟨A', cp', hv, c0, c1, c2, c3, c4, f2⟩ := H4.out.cells
  injection hv with e1 e2 e3
  subst e1; subst e3
  refine wp_region_held_drew (S := fun W => W.cell? ⟨b, 4, none⟩ = some (.map (some mb)) ∧ W.cell? ⟨b, 2, none⟩ = some (.slice A n' cp) ∧ W.cell? ⟨xb, 0, none⟩ = some (.int .i64 (m : Int))) (by kernel_rfl) ⟨c4, c2, blk_cell Hb4.out 0 rfl⟩ (fun hHeld => ?_)
  refine wpAnyH_take (i := 0) (v := ?_) rfl (by kernel_rfl) (by kernel_rfl) (by kernel_rfl) (fun _ _ _ h => h) (Or.inl ⟨by rfl, ?_⟩) (by assumption) ?_
  rotate_left
  · intro w hSw; (try dsimp only at hSw); go_simp; try with_reducible rfl
  try simp only [List.getElem_toArray, List.getElem_cons_zero, List.getElem_cons_succ, Act.put, List.setIfInBounds_toArray, List.set_cons_zero, List.set_cons_succ]
  refine wpAnyH_take (i := 1) (v := ?_) rfl (by kernel_rfl) (by kernel_rfl) (by kernel_rfl) (fun _ _ _ h => h) (Or.inl ⟨by rfl, ?_⟩) (by assumption) ?_
  rotate_left
  · intro w hSw; (try dsimp only at hSw); go_simp; try with_reducible rfl
  try simp only [List.getElem_toArray, List.getElem_cons_zero, List.getElem_cons_succ, Act.put, List.setIfInBounds_toArray, List.set_cons_zero, List.set_cons_succ]
  refine wpAnyH_take (i := 2) (v := ?_) rfl (by kernel_rfl) (by kernel_rfl) (by kernel_rfl) (fun _ _ _ h => h) (Or.inl ⟨by rfl, ?_⟩) (by assumption) ?_
  rotate_left
  · intro w hSw; (try dsimp only at hSw); go_simp; try with_reducible rfl
  try simp only [List.getElem_toArray, List.getElem_cons_zero, List.getElem_cons_succ, Act.put, List.setIfInBounds_toArray, List.set_cons_zero, List.set_cons_succ]
  refine wpAnyH_take (i := 3) (v := ?_) rfl (by kernel_rfl) (by kernel_rfl) (by kernel_rfl) (fun _ _ _ h => h) (Or.inl ⟨by rfl, ?_⟩) (by assumption) ?_
  rotate_left
  · intro w hSw; (try dsimp only at hSw); go_simp; try with_reducible rfl
  try simp only [List.getElem_toArray, List.getElem_cons_zero, List.getElem_cons_succ, Act.put, List.setIfInBounds_toArray, List.set_cons_zero, List.set_cons_succ]
  refine wpAnyH_take (i := 4) (v := ?_) rfl (by kernel_rfl) (by kernel_rfl) (by kernel_rfl) (fun _ _ _ h => h) (Or.inl ⟨by rfl, ?_⟩) (by assumption) ?_
  rotate_left
  · intro w hSw; (try dsimp only at hSw); go_simp; try with_reducible rfl
  try simp only [List.getElem_toArray, List.getElem_cons_zero, List.getElem_cons_succ, Act.put, List.setIfInBounds_toArray, List.set_cons_zero, List.set_cons_succ]
  refine wpAnyH_take (i := 5) (v := ?_) rfl (by kernel_rfl) (by kernel_rfl) (by kernel_rfl) (fun _ _ _ h => h) (Or.inl ⟨by rfl, ?_⟩) (by assumption) ?_
  rotate_left
  · intro w hSw; (try dsimp only at hSw); go_simp; try with_reducible rfl
  try simp only [List.getElem_toArray, List.getElem_cons_zero, List.getElem_cons_succ, Act.put, List.setIfInBounds_toArray, List.set_cons_zero, List.set_cons_succ]
  refine wpAnyH_take (i := 6) (v := ?_) rfl (by kernel_rfl) (by kernel_rfl) (by kernel_rfl) (fun _ _ _ h => h) (Or.inl ⟨by rfl, ?_⟩) (by assumption) ?_
  rotate_left
  · intro w hSw; (try dsimp only at hSw); go_simp; try with_reducible rfl
  try simp only [List.getElem_toArray, List.getElem_cons_zero, List.getElem_cons_succ, Act.put, List.setIfInBounds_toArray, List.set_cons_zero, List.set_cons_succ]
  refine wpAnyH_take (i := 7) (v := ?_) rfl (by kernel_rfl) (by kernel_rfl) (by kernel_rfl) (fun _ _ _ h => h) (Or.inl ⟨by rfl, ?_⟩) (by assumption) ?_
  rotate_left
  · intro w hSw; (try dsimp only at hSw); go_simp; try with_reducible rfl
  try simp only [List.getElem_toArray, List.getElem_cons_zero, List.getElem_cons_succ, Act.put, List.setIfInBounds_toArray, List.set_cons_zero, List.set_cons_succ]
  refine wpAnyH_take (i := 8) (v := ?_) rfl (by kernel_rfl) (by kernel_rfl) (by kernel_rfl) (fun _ _ _ h => h) (Or.inl ⟨by rfl, ?_⟩) (by assumption) ?_
  rotate_left
  · intro w hSw; (try dsimp only at hSw); go_simp; try with_reducible rfl
  try simp only [List.getElem_toArray, List.getElem_cons_zero, List.getElem_cons_succ, Act.put, List.setIfInBounds_toArray, List.set_cons_zero, List.set_cons_succ]
  refine wpAnyH_take (i := 9) (v := ?_) rfl (by kernel_rfl) (by kernel_rfl) (by kernel_rfl) (fun _ _ _ h => h) (Or.inl ⟨by rfl, ?_⟩) (by assumption) ?_
  rotate_left
  · intro w hSw; (try dsimp only at hSw); go_simp; try with_reducible rfl
  try simp only [List.getElem_toArray, List.getElem_cons_zero, List.getElem_cons_succ, Act.put, List.setIfInBounds_toArray, List.set_cons_zero, List.set_cons_succ]
  refine wpAnyH_take (i := 10) (v := ?_) rfl (by kernel_rfl) (by kernel_rfl) (by kernel_rfl) (fun _ _ _ h => h) (Or.inl ⟨by rfl, ?_⟩) (by assumption) ?_
  rotate_left
  · intro w hSw; (try dsimp only at hSw); go_simp; try with_reducible rfl
  try simp only [List.getElem_toArray, List.getElem_cons_zero, List.getElem_cons_succ, Act.put, List.setIfInBounds_toArray, List.set_cons_zero, List.set_cons_succ]
  refine wpAnyH_ready (rs := [11]) (by kernel_rfl) (by simp) ?_
  refine AllReadyH.cons rfl (fun K hK => ?_) AllReadyH.nil
  obtain ⟨f, hmap⟩ := H4.out.map
  refine map_put_op rfl (.tmp 24) (.tmp 26) (.tmp 31) rfl mb nm f rfl hmap.drew (by omega) m n' rfl rfl (wf_small (by omega) (by omega)) (wf_small (by omega) (by omega)) fun w5 hm5 hf5 => ?_
  have hf45 : Fr (fun k => k = mb) w4 w5 := ((Fr.refl _ w4).drew).trans0 hf5
  have hxm : xb ≠ mb := fun e => hxS (by rw [e]; exact H.out.ownM)
  have h5 := H4.out.toMap hf45 hm5
  have hb5 := hf45.blk hxm Hb4.out
  obtain ⟨_, _, _, k0, k1, k2, k3, k4, g2⟩ := id h5.cells
  refine hK.out _ _ ⟨hf45.cell (p := ⟨b, 4, none⟩) H4.out.ne c4, hf45.cell (p := ⟨b, 2, none⟩) H4.out.ne c2, blk_cell hb5 0 rfl⟩ (fun hHeld2 => ?_)
  refine wpAnyH_done (by kernel_rfl) ?_ _
  try simp only [List.getElem_toArray, List.getElem_cons_zero, List.getElem_cons_succ, Act.put, List.setIfInBounds_toArray, List.set_cons_zero, List.set_cons_succ]
  have H5 := Lib.hid h5; have Hb5 := Lib.hid hb5; have Hf45 := Lib.hid hf45
  clear hf5 hm5 hmap hHeld hHeld2 hK K hb5 h5 hf45 hxm c0 c1 c2 c3 c4 f2 k0 k1 k2 k3 k4 g2
  go_wp2_with fail
  have c2 := blk_cell H5.out.blk 2 rfl
  have f2 := blk_froz H5.out.blk 2
  have x0 := blk_cell Hb5.out 0 rfl; have x1 := blk_cell Hb5.out 1 rfl; have x2 := blk_cell Hb5.out 2 rfl; have x3 := blk_cell Hb5.out 3 rfl; have x4 := blk_cell Hb5.out 4 rfl; have x5 := blk_cell Hb5.out 5 rfl; have x6 := blk_cell Hb5.out 6 rfl; have x7 := blk_cell Hb5.out 7 rfl; have x8 := blk_cell Hb5.out 8 rfl
  have lb5 := lt_of_block H5.out.blk
  go_region_law ((refine step_append_sl _ (by rfl) _ _ _ (by rfl) SL 120 _ 9 64 Tryz.underlying114 Tryz.info_ctx rfl (by omega) (.slice A n' cp) n' (cxs l) (by rfl) ((H5.out.sl.alloc _).drew) ⟨w5.heap.size, 0, none⟩ 1 1 [.int .i64 (m : Int), .bool free, .pointer pc, .int .i64 err, .int .i64 cause, .int .i64 when', .bool has, .bool own, .int .i64 (-1)] (by rfl) (by rfl) (news_lit _ [.int .i64 (m : Int), .bool free, .pointer pc, .int .i64 err, .int .i64 cause, .int .i64 when', .bool has, .bool own, .int .i64 (-1)] 120 (0, 0) _ (heap_alloc_new w5 _)) (by rfl) (by omega) (by omega) ?_; intro v6 w6 hs6 hf6; obtain ⟨X6, c6, rfl⟩ := hs6.slice; have hb6 := hf6.blk (fun q => (H5.out.subL _ q).2.1 rfl) (show ((w5.alloc (.cells #[.int .i64 (m : Int), .bool free, .pointer pc, .int .i64 err, .int .i64 cause, .int .i64 when', .bool has, .bool own, .int .i64 (-1)] 120)).drew).heap[b]? = _ from (blk_alloc_ne _ lb5).trans H5.out.blk); have d2 := blk_cell hb6 2 rfl; have g2 := blk_froz hb6 2; have Hs6 := Lib.hid hs6; have Hf6 := Lib.hid hf6; have Hb6 := Lib.hid hb6; clear hs6 hf6 hb6))
  all_goals
    have hpc := Hpc.out
    subst hpc
    have hq := CxP.grown H5.out ⟨m, free, cb, err, cause, when', has, own⟩ ((Fr.refl Nob w5).alloc _).drew Hf6.out Hs6.out
    obtain ⟨w7, hw7⟩ : ∃ w7, w7 = w6.setCell ⟨b, 2, none⟩ (.slice X6 (n' + 1) c6) := ⟨_, rfl⟩
    rw [← hw7] at hq ⊢
    obtain ⟨hq7, hf7⟩ := hq
    have k2 := blk_cell hq7.blk 2 rfl
    have hw1 : IntKind.i64.wrap ((n' : Int) + 1 - 1) = (n' : Int) := by rw [show (n' : Int) + 1 - 1 = n' by omega]; simp [IntKind.wrap, IntKind.bits, IntKind.signed]; omega
    have Hq7 := Lib.hid hq7; have Hf7 := Lib.hid hf7
    clear hq7 hf7 hw7 d2 g2 c2 f2 x0 x1 x2 x3 x4 x5 x6 x7 x8
    go_wp2_with fail
    go_ret
    have hz1 := Hzw1.out; have hz2 := Hf2.out.size; have hz3 := Hf23.out.size; have hz4 := Hf34.out.size; have hz5 := Hf45.out.size
    have hxw : w.heap.size ≤ xb := by omega
    have e1 : Fr S w w2 := Hfw1.out.none.trans Hf2.out fun k _ q => (H.out.subT k q).1
    have e2 : Fr S w w5 := ((e1.trans Hf23.out fun k hk q => by omega).trans Hf34.out fun k hk q => by omega).trans Hf45.out fun k _ q => by rw [q]; exact H.out.ownM
    refine ⟨by first | rfl | simp, e2.trans Hf7.out fun k hk q => ?_, _, ⟨trb, mb, _, _, _, _, Hq7.out⟩, fun k q => ?_⟩
    · rcases q with q | q
      · exact q
      · have q1 : w1.heap.size ≤ k := q.1; omega
    · rcases q with q | q
      · rcases q with q | q
        · exact .inl q
        · have q1 : w1.heap.size ≤ k := q.1; exact .inr (by omega)
      · exact .inr (by have := q.1; omega)
theorem cx_new (w : World) (tmb : Nat) : Calls Tryz.prog 24 #[.pointer (some ⟨tmb, 0, none⟩)] w fun e w' => ∃ (b : Nat) (S : Nat → Prop), e = .returned (.pointer (some ⟨b, 0, none⟩)) ∧ Fr Nob w w' ∧ CxAt w' S b tmb [⟨0, true, none, 0, 0, 0, false, false⟩] [(-1, false)] 1 ∧ ∀ k, S k → w.heap.size ≤ k := by
  have hmm := @run_makeMap Tryz.prog
  have Ht := Lib.hid (tree_new w)
  go_enter Tryz.func24, Tryz.ntmps24
  go_wp2_with fail
  refine Ht.out.mono ?_
  rintro e w1 ⟨trb, rfl, hf1, ht1⟩
  have Hf1 := Lib.hid hf1; have Ht1 := Lib.hid ht1
  clear hf1 ht1
  go_wp2_with fail
  obtain ⟨w2, hw2⟩ : ∃ w2, w2 = (w1.alloc (.map #[] 0)).alloc (.cells #[.pointer (some ⟨tmb, 0, none⟩), .pointer (some ⟨trb, 0, none⟩), .slice none 0 0, .slice none 0 0, .map (some w1.heap.size)] 117) := ⟨_, rfl⟩
  rw [← hw2]
  have hf12 : Fr Nob w1 w2 := by rw [hw2]; exact ((Fr.refl Nob w1).alloc _).alloc _
  have hz := Hf1.out.size
  have hz2 : w2.heap.size = w1.heap.size + 2 := by rw [hw2]; simp
  have h2 : CxAt w2 (fun k => w.heap.size ≤ k ∧ k < w2.heap.size) (w1.heap.size + 1) tmb [] [] 0 := by
    refine ⟨trb, w1.heap.size, fun k => w.heap.size ≤ k ∧ k < w1.heap.size, Nob, .slice none 0 0, 0, ⟨by omega, by omega⟩, ⟨by omega, by omega⟩, by omega, fun k q => q.2, fun k q => ⟨⟨q.1, by omega⟩, by omega, by omega⟩, fun k q => q.elim, ?_, rfl, Sl.nil _ _ _ _, Ht1.out.fr0 hf12, ⟨fun _ => none, ?_⟩⟩
    · rw [hw2]; exact blk_alloc_eq _ (by simp)
    · rw [hw2]; exact (MapAt.made w1).fr0 ((Fr.refl Nob _).alloc _)
  obtain ⟨bb, hbb⟩ : ∃ bb, bb = w1.heap.size + 1 := ⟨_, rfl⟩
  rw [← hbb] at h2 ⊢
  have Hf2 := Lib.hid (Hf1.out.trans0 hf12)
  clear hw2 hf12 hbb
  refine (cx_add h2 0 rfl (by omega) (by simp) (by omega) true none 0 0 0 false false (-1) false rfl (ns' := [(-1, false)]) fun W ST trb ht => tree_add_lone W ST trb [] (-1) false 0 rfl ht (by omega) (by omega) (by omega) (.inl rfl)).mono ?_
  rintro e w3 ⟨S3, rfl, hf3, ha3, hs3⟩
  have Hf3 := Lib.hid hf3; have Ha3 := Lib.hid ha3; have Hs3 := Lib.hid hs3
  clear hf3 ha3 hs3
  go_wp2_with fail
  go_ret
  refine ⟨bb, S3, rfl, Hf2.out.trans Hf3.out fun k hk q => by omega, Ha3.out, fun k q => ?_⟩
  rcases Hs3.out k q with q | q
  · exact q.1
  · have := Hf2.out.size; omega
/-- What was received is in its registers. -/
def gotT (u : Nat → Int) (B C : Nat) (v : Int) (ok : Bool) : Nat → Int := if ok then updT (updT (updT u (4 + B) v) (4 + C) 0) (4 + C) 1 else updT (updT u (4 + B) v) (4 + C) 0
/-- A task's place and registers are put. -/
def putT (t : Nat → Int) (pc : Int) (r : Nat → Int) : Nat → Int := fun j => if j = 1 then pc else if 4 ≤ j ∧ j < 12 then r (j - 4) else t j
/-- A task: its numbers, its instruction's default, its instruction's cases. -/
abbrev TkS := (Nat → Int) × Bool × List ICs
/-- A timer: its kind, what it starts, the number of its channel, how often it was armed. -/
abbrev TmS := Int × Int × Nat × Int
/-- A context: its node, free, the number of its channel, error, cause, when, has, own; no timer. -/
structure CxS where
  node : Nat
  free : Bool
  ch : Option Nat
  err : Int
  cause : Int
  when' : Int
  has : Bool
  own : Bool
structure WS where
  now : Int
  ts : List TkS
  line : List Int
  ch : Nat → Option ChS
  nch : Nat
  made : Nat
  tm : List TmS
  named : Nat
  hp : List Hi
  seq : Nat
  per : Int → Option Int
  cx : List CxS
  tr : List Nd
  steps : Nat
  ev : List Ev
def bitI (b : Bool) : Int := if b then 1 else 0
def WS.tell (st : WS) (kind who a b c : Int) : WS := { st with ev := st.ev ++ [((st.steps : Int), kind, who, a, b, c)] }
/-- The same, while there are few. -/
def WS.tellO (st : WS) (kind who a b c : Int) : Option WS := if 1000 ≤ st.ev.length then none else some (st.tell kind who a b c)
def regsOf (t : Nat → Int) : Nat → Int := fun j => t (4 + j)
/-- A handle's channel; none: there is none. -/
def WS.chan (st : WS) (h : Int) : Option (Option Nat) :=
  if h < 0 ∨ (st.nch : Int) ≤ h then (if h = -1 then some none else none) else some (some h.toNat)
/-- A select's cases; none: one of them has no channel. -/
def WS.cases (st : WS) (r : Nat → Int) : List ICs → Option (List Cs)
  | [] => some []
  | c :: l => match st.chan (r c.2.1.toNat) with
    | none => none
    | some o => match st.cases r l with
      | none => none
      | some q => some ((o, c.1, r c.2.2.toNat) :: q)
/-- What a task that waited is told. -/
def toldT (t : Nat → Int) (cs : List ICs) (k v : Int) (ok : Bool) : Nat → Int :=
  if t 12 = 15 then
    (if (cs[k.toNat]?.getD (true, 0, 0)).1 then updT t (4 + (t 13).toNat) k else gotT (updT t (4 + (t 13).toNat) k) (t 14).toNat (t 15).toNat v ok)
  else if t 12 = 11 then gotT t (t 14).toNat (t 15).toNat v ok else t
def regs3 (t : Nat → Int) : Bool := regB (t 13) && regB (t 14) && regB (t 15)
/-- Who waits no more: it sent, or it received, or a case of its select received. -/
def okWk (t : Nat → Int) (cs : List ICs) (x : Wk) : Bool := (cs.isEmpty && (t 12 == 10 || (t 12 == 11 && x.2.2.2.1))) || (t 12 == 15 && x.2.2.2.1 && decide (0 ≤ x.2.1) && (match cs[x.2.1.toNat]? with
  | some z => !z.1
  | none => false))
def WS.few (st : WS) : Bool := (List.range st.nch).all fun i => match st.ch i with
  | some c => decide (c.rv.length ≤ 900) && decide (c.sd.length ≤ 900)
  | none => true
/-- A task waits no more. -/
def WS.wake1 (st : WS) (x : Wk) : Option WS :=
  if x.1 < 0 then none else
  match st.ts[x.1.toNat]? with
  | none => none
  | some (t, d, cs) =>
    if t 2 ≠ 1 then (if cs.isEmpty then some st else none) else
    if st.few = false ∨ x.2.2.2.2 = true ∨ regs3 t = false ∨ cs.all csB = false ∨ 16 < cs.length then none else
    if okWk t cs x = false then none else
    if st.line.contains x.1 ∨ 100000 ≤ st.line.length then none else
    if t 1 < 0 ∨ 1000 < t 1 then none else
    match st.cases (regsOf t) cs with
    | none => none
    | some l => WS.tellO { st with
        ch := leaveF x.1 l st.ch
        ts := st.ts.set x.1.toNat (wakeT (toldT t cs x.2.1 x.2.2.1 x.2.2.2.1), false, [])
        line := st.line ++ [x.1] } 3 x.1 x.2.1 x.2.2.1 (bitI x.2.2.2.1)
def WS.wake (st : WS) : List Wk → Option WS
  | [] => some st
  | x :: l => match st.wake1 x with
    | none => none
    | some s => s.wake l
/-- A task starts. -/
def WS.start (st : WS) (p : Int) (r : Nat → Int) : Option WS :=
  if p < 0 ∨ 64 ≤ st.ts.length ∨ st.line.contains (st.ts.length : Int) ∨ 100000 ≤ st.line.length then none else
  WS.tellO { st with ts := st.ts ++ [(newT p r, false, [])], line := st.line ++ [(st.ts.length : Int)] } 5 st.ts.length p 0 0
def WS.put (st : WS) (id : Nat) (pc : Int) (r : Nat → Int) : Option WS := match st.ts[id]? with
  | none => none
  | some (t, d, cs) => if t 2 = 0 ∧ cs = [] then some { st with ts := st.ts.set id (putT t pc r, d, []) } else none
def WS.endT (st : WS) (id : Nat) (how : Int) : Option WS := match st.ts[id]? with
  | none => none
  | some (t, d, cs) => if t 2 = 2 ∨ cs ≠ [] then none else some { st with ts := st.ts.set id (Go.Proofs.YtcffplgimbbflaaGreat.endT t how, false, []), line := st.line.erase (id : Int) }
def WS.park (st : WS) (id : Nat) (y : Ins) : Option WS := match st.ts[id]? with
  | none => none
  | some (t, d, cs) => if t 2 = 0 ∧ cs = [] ∧ goodB y 1 = true ∧ (y.1.1 = 10 ∨ y.1.1 = 11 ∨ y.1.1 = 15) then
      WS.tellO { st with ts := st.ts.set id (parkT t y.1.1 y.1.2.1 y.1.2.2.1 y.1.2.2.2, y.2.2.2, y.2.2.1), line := st.line.erase (id : Int) } 2 id 0 0 0 else none
/-- What comes of an instruction that concerns others: it parks, or its registers. -/
abbrev Act' := WS × Option (Nat → Int)
def WS.wakes (st : WS) (l : List Wk) : Option WS := if 1000 ≤ l.length then none else st.wake l
/-- A value that was received is taken. -/
def WS.take (st : WS) (r : Nat → Int) (b c : Nat) (v : Int) (ok : Bool) (l : List Wk) : Option Act' := match st.wakes l with
  | none => none
  | some s => some (s, some (updR (updR (updR r b v) c 0) c (bitI ok)))
/-- A timer that has a channel. -/
def WS.timer (st : WS) (kind : Int) (d : Int) : Option WS :=
  if st.now < 0 ∨ maxT < st.now ∨ d < 1 ∨ 64 ≤ st.named ∨ 900 ≤ st.tm.length then none else
  match heapAdd (heapDel st.hp st.tm.length) ((st.tm.length : Int), addT st.now d, ((st.seq + 1 : Nat) : Int)) with
  | none => none
  | some h => some { st with tm := st.tm ++ [(kind, 0, st.nch, 1)], named := st.named + 1, ch := Go.Proofs.YtcffplgimbbflaaGreat.upd st.ch st.nch (some chTimed), nch := st.nch + 1, hp := h, seq := st.seq + 1, per := putP st.per st.tm.length (perOf kind d) }
/-- What is due next fires; none: they do not go there; some none: nothing is due. -/
def WS.fire (st : WS) : Option (Option WS) :=
  if st.now < 0 ∨ maxT < st.now then none else
  match st.hp with
  | [] => some none
  | x :: _ => if st.now < x.2.1 then some none else
    match st.tm[x.1.toNat]? with
    | none => none
    | some (kind, data, c, gen) =>
      if kind = 3 ∨ kind = 4 then none else
      match st.ch c with
      | none => none
      | some cc => match takeR st.hp st.seq st.per x st.now with
        | none => none
        | some (hp', seq', per') => if 1000 ≤ st.ev.length then none else match ({ st with hp := hp', seq := seq', per := per', ch := Go.Proofs.YtcffplgimbbflaaGreat.upd st.ch c (some (cc.putS st.now)) }.tell 6 (-1) x.1 x.2.1 0).wakes (cc.putR st.now).1 with
          | none => none
          | some s3 => some (some s3)
def WS.fires (st : WS) : Nat → Option WS
  | 0 => none
  | n + 1 => match st.fire with
    | none => none
    | some none => some st
    | some (some s) => s.fires n
/-- What hangs on a context lapses with it: here nothing does. -/
def WS.cancel (st : WS) (id : Nat) (err cause : Int) : Option WS := match st.cx[id]? with
  | none => none
  | some x => if x.free ∨ x.err ≠ 0 then none else
    match x.ch with
    | none => none
    | some c => match st.ch c with
      | none => none
      | some cc => match st.tr[x.node]? with
        | none => none
        | some (par, linked) => if kids st.tr x.node ≠ [] ∨ !linked ∨ par < 0 ∨ 1000 ≤ st.ev.length then none else
          ({ st with
              cx := st.cx.set id { x with err := err, cause := cause }
              ch := Go.Proofs.YtcffplgimbbflaaGreat.upd st.ch c (some cc.endS)
              tr := st.tr.set x.node (par, false) }.tell 7 (-1) id err cause).wakes cc.endR
/-- A context is made. -/
def WS.newCx (st : WS) (parent : Int) (free : Bool) : Option (WS × Int) :=
  if parent < 0 ∨ 64 ≤ st.cx.length ∨ 900 ≤ st.tr.length ∨ 90000 ≤ st.nch then none else
  match st.cx[parent.toNat]? with
  | none => none
  | some up => if up.err ≠ 0 ∨ st.tr.length ≤ up.node then none else
    let s1 : WS := { st with
      cx := st.cx ++ [if free then ⟨st.tr.length, true, none, 0, 0, 0, false, false⟩ else ⟨st.tr.length, false, some st.nch, 0, 0, up.when', up.has, false⟩]
      tr := st.tr ++ [((up.node : Int), !free)] }
    some (if free then s1 else { s1 with ch := Go.Proofs.YtcffplgimbbflaaGreat.upd st.ch st.nch (some chSignal), nch := st.nch + 1 }, (st.cx.length : Int))
/-- A task starts another. -/
def WS.actGo (st : WS) (y : Ins) (r : Nat → Int) : Option Act' := match st.start y.1.2.2.1 r with
  | none => none
  | some s => some (s, some (updR r y.1.2.1.toNat st.ts.length))
/-- A channel is made. -/
def WS.actMake (st : WS) (y : Ins) (r : Nat → Int) : Option Act' :=
  if y.1.2.2.1 < 0 ∨ 64 < y.1.2.2.1 ∨ 64 ≤ st.made ∨ 90000 ≤ st.nch then none else
    some ({ st with ch := Go.Proofs.YtcffplgimbbflaaGreat.upd st.ch st.nch (some (chNew y.1.2.2.1.toNat)), nch := st.nch + 1, made := st.made + 1 }, some (updR r y.1.2.1.toNat st.nch))
/-- A timer is stopped. -/
def WS.actStop (st : WS) (y : Ins) (r : Nat → Int) : Option Act' :=
  let a := r y.1.2.1.toNat
  if a < 0 ∨ 900 < st.tm.length then none else match st.tm[a.toNat]? with
    | none => none
    | some (kind, data, c, gen) => if kind = 4 ∨ kind = 0 then none else match st.ch c with
      | none => none
      | some cc => some ({ st with hp := heapDel st.hp a, per := delP st.per a, ch := Go.Proofs.YtcffplgimbbflaaGreat.upd st.ch c (some cc.dropS) }, some (updR r y.1.2.2.1.toNat (bitI (cc.dropR || heapHas st.hp a))))
/-- A timer is made. -/
def WS.actTimer (st : WS) (kind : Int) (y : Ins) (r : Nat → Int) : Option Act' :=
  if 90000 ≤ st.nch then none else match st.timer kind (r y.1.2.2.1.toNat) with
  | none => none
  | some s => some (s, some (updR (updR r y.1.2.1.toNat st.tm.length) y.1.2.2.2.toNat st.nch))
/-- A value is sent on channel i. -/
def WS.actSend (st : WS) (id : Nat) (i : Nat) (c : ChS) (v : Int) (r : Nat → Int) : Option Act' :=
  if (c.sendR v).2.2 ≠ 0 then none
  else if (c.sendR v).1 then (match ({ st with ch := Go.Proofs.YtcffplgimbbflaaGreat.upd st.ch i (some (c.sendS v)) } : WS).wakes (c.sendR v).2.1 with
    | none => none
    | some s => some (s, some r))
  else some ({ st with ch := Go.Proofs.YtcffplgimbbflaaGreat.upd st.ch i (some ((c.sendS v).waitS ((id : Int), 0, v) true)) }, none)
/-- A value is received of channel i. -/
def WS.actRecv (st : WS) (id : Nat) (i : Nat) (c : ChS) (b d : Nat) (r : Nat → Int) : Option Act' :=
  if c.recvR.2.2.1 then ({ st with ch := Go.Proofs.YtcffplgimbbflaaGreat.upd st.ch i (some c.recvS) } : WS).take r b d c.recvR.1 c.recvR.2.1 c.recvR.2.2.2
  else some ({ st with ch := Go.Proofs.YtcffplgimbbflaaGreat.upd st.ch i (some (c.recvS.waitS ((id : Int), 0, 0) false)) }, none)
/-- What concerns one channel. -/
def WS.actChan (st : WS) (id : Nat) (y : Ins) (r : Nat → Int) : Option Act' :=
  match st.chan (r y.1.2.1.toNat) with
  | some (some i) => (match st.ch i with
    | none => none
    | some c =>
      if y.1.1 = 13 then some (st, some (updR r y.1.2.2.1.toNat c.lenR))
      else if y.1.1 = 14 then some (st, some (updR r y.1.2.2.1.toNat c.capR))
      else if y.1.1 = 10 then st.actSend id i c (r y.1.2.2.1.toNat) r
      else if y.1.1 = 11 then st.actRecv id i c y.1.2.2.1.toNat y.1.2.2.2.toNat r
      else none)
  | _ => none
/-- One of several. -/
def WS.actChoose (st : WS) (id : Nat) (y : Ins) (r : Nat → Int) (draw : Int) : Option Act' :=
  match st.cases r y.2.2.1 with
  | none => none
  | some l => if l.any (fun x => x.2.1 && muteC st.ch x) then none else
    match rdy (fun k => canC st.ch (l.getD k (none, false, 0))) l.length with
    | [] => if y.2.2.2 then some (st, some (updR r y.1.2.1.toNat (-1))) else some ({ st with ch := parkF (id : Int) l 0 st.ch }, none)
    | q => (let k := (q.getD (draw % (q.length : Int)).toNat 0).toNat
      match l[k]? with
      | none => none
      | some x => match x.1 with
        | none => none
        | some i => match st.ch i with
          | none => none
          | some c => if (oneR c x).2.2.1 then none else
            if x.2.1 then (match ({ st with ch := Go.Proofs.YtcffplgimbbflaaGreat.upd st.ch i (some (oneS c x)) } : WS).wakes (oneR c x).2.2.2 with
              | none => none
              | some s => some (s, some (updR r y.1.2.1.toNat k)))
            else ({ st with ch := Go.Proofs.YtcffplgimbbflaaGreat.upd st.ch i (some (oneS c x)) } : WS).take (updR r y.1.2.1.toNat k) y.1.2.2.1.toNat y.1.2.2.2.toNat (oneR c x).1 (oneR c x).2.1 (oneR c x).2.2.2)
/-- A context is made. -/
def WS.actCx (st : WS) (y : Ins) (r : Nat → Int) : Option Act' := match st.newCx (r y.1.2.2.1.toNat) (y.1.1 = 25) with
  | none => none
  | some (s, n) => some (s, some (updR r y.1.2.1.toNat n))
/-- A context is cancelled. -/
def WS.actCancel (st : WS) (y : Ins) (r : Nat → Int) : Option Act' :=
  let a := r y.1.2.1.toNat
  if a < 0 ∨ r y.1.2.2.1.toNat < 1 then none else match st.cx[a.toNat]? with
    | none => none
    | some x => if x.free then none else match st.cancel a.toNat 1 (r y.1.2.2.1.toNat) with
      | none => none
      | some s => some (s, some r)
/-- A context is asked. -/
def WS.actAsk (st : WS) (y : Ins) (r : Nat → Int) : Option Act' :=
  let a := r y.1.2.1.toNat
  let B := y.1.2.2.1.toNat
  if a < 0 then none else match st.cx[a.toNat]? with
    | none => none
    | some x => if y.1.1 = 27 then some (st, some (updR r B x.err))
      else if y.1.1 = 28 then some (st, some (updR r B x.cause))
      else if y.1.1 = 29 then (match x.ch with
        | none => some (st, some (updR r B (-1)))
        | some i => some (st, some (updR r B i)))
      else some (st, some (updR (updR r B x.when') y.1.2.2.2.toNat (bitI x.has)))
/-- An instruction that concerns others. -/
def WS.act (st : WS) (id : Nat) (y : Ins) (r : Nat → Int) (draw : Int) : Option Act' :=
  if y.1.1 = 8 then st.actGo y r
  else if y.1.1 = 9 then st.actMake y r
  else if y.1.1 = 20 then st.actStop y r
  else if y.1.1 = 17 then st.actTimer 1 y r
  else if y.1.1 = 18 then st.actTimer 2 y r
  else if y.1.1 = 10 ∨ y.1.1 = 11 ∨ y.1.1 = 13 ∨ y.1.1 = 14 then st.actChan id y r
  else if y.1.1 = 15 then st.actChoose id y r draw
  else if y.1.1 = 22 ∨ y.1.1 = 25 then st.actCx y r
  else if y.1.1 = 26 then st.actCancel y r
  else if y.1.1 = 27 ∨ y.1.1 = 28 ∨ y.1.1 = 29 ∨ y.1.1 = 30 then st.actAsk y r
  else none
/-- Registers are named where they are used. -/
def regsOk (y : Ins) : Bool := regB y.1.2.1 && (y.1.1 == 8 || y.1.1 == 9 || (regB y.1.2.2.1 && regB y.1.2.2.2))
/-- A task does its next instruction. -/
def WS.run (P : List (List Ins)) (st : WS) (n draw : Int) : Option WS :=
  match st.line with
  | [] => some st
  | _ =>
    let id := st.line.getD (n % (st.line.length : Int)).toNat 0
    if id < 0 then none else
    match st.ts[id.toNat]? with
    | none => none
    | some (t, d, cs) => if t 0 < 0 ∨ t 2 ≠ 0 ∨ cs ≠ [] ∨ t 1 < 0 then none else
      match P[(t 0).toNat]? with
      | none => none
      | some p =>
        if progB p = false ∨ (p.length : Int) < t 1 then none
        else if t 1 = p.length then
          (match st.endT id.toNat 0 with
            | none => none
            | some s => s.tellO 4 id 0 0 0)
        else match p[(t 1).toNat]? with
          | none => none
          | some y =>
            if mineB y.1.1 then
              (let o := stepR y.1.1 y.1.2.1 y.1.2.2.1 (t 1).toNat (regsOf t) st.now
              match st.put id.toNat o.1 o.2.1 with
              | none => none
              | some s =>
                match (if o.2.2.1 then s.tellO 1 id o.2.2.2.1 0 0 else some s) with
                | none => none
                | some s => if o.2.2.2.2 then (match s.endT id.toNat 0 with
                  | none => none
                  | some s => s.tellO 4 id 0 0 0) else some s)
            else if regsOk y = false then none else match st.act id.toNat y (regsOf t) draw with
              | none => none
              | some (s, none) => s.park id.toNat y
              | some (s, some r) => s.put id.toNat (t 1 + 1) r
/-- An entry: its kind, its number, its draw. -/
abbrev En := Int × Int × Int
def WS.step (P : List (List Ins)) (st : WS) (e : En) : Option WS :=
  if st.few = false then none else
  let s := { st with ev := [] }
  let out := if e.1 = 1 then s.run P e.2.1 e.2.2
    else if e.1 = 2 ∧ 0 ≤ e.2.1 ∧ e.2.2 = 0 then ({ s with now := addT s.now e.2.1 }).fires 9
    else some (s.tell 8 0 0 0 0)
  match out with
  | none => none
  | some s => if 10000 ≤ s.steps ∨ 1000000 < s.ev.length then none else some { s with steps := s.steps + 1 }
section
variable {w : World} {S : Nat → Prop} {b : Nat} {ts : List Tk} {line : List Int} (h : TableAt w S b ts line)
include h
theorem task_pick (k : Int) (n : Nat) (hn : line.length = n) (h0 : 0 < n) : Calls Tryz.prog 55 #[.pointer (some ⟨b, 0, none⟩), .int .i64 k] w fun e w' => e = .returned (.tuple #[.int .i64 (line.getD (k % n).toNat 0), .bool true]) ∧ Fr Nob w w' := by
  obtain ⟨ab, lb, SA, SL, h⟩ := h
  have c1 := blk_cell h.blk 1 rfl
  have ha := ready_pick w SL lb line k n hn h.ready h0
  have Ha := Lib.hid ha
  generalize line.getD (k % n).toNat 0 = v at *
  clear h ha hn
  go_enter Tryz.func55, Tryz.ntmps55
  go_wp2_with fail
  refine Ha.out.mono ?_
  rintro e w1 ⟨rfl, hf⟩
  have Hf := Lib.hid hf
  clear hf
  go_wp2_with fail
  go_ret2
  exact ⟨rfl, Hf.out⟩
end
theorem task_pick_none {w : World} {S : Nat → Prop} {b : Nat} {ts : List Tk} (h : TableAt w S b ts []) (k : Int) : Calls Tryz.prog 55 #[.pointer (some ⟨b, 0, none⟩), .int .i64 k] w fun e w' => e = .returned (.tuple #[.int .i64 0, .bool false]) ∧ Fr Nob w w' := by
  obtain ⟨ab, lb, SA, SL, h⟩ := h
  have c1 := blk_cell h.blk 1 rfl
  have ha := ready_pick_none w SL lb k h.ready
  have Ha := Lib.hid ha
  clear h ha
  go_enter Tryz.func55, Tryz.ntmps55
  go_wp2_with fail
  refine Ha.out.mono ?_
  rintro e w1 ⟨rfl, hf⟩
  have Hf := Lib.hid hf
  clear hf
  go_wp2_with fail
  go_ret2
  exact ⟨rfl, Hf.out⟩
abbrev inV (n : Int) : Value := .int .i64 n
abbrev ptV (b : Nat) : Value := .pointer (some ⟨b, 0, none⟩)
/-- The programs, and where the channels lie. -/
abbrev Pg := List (List Ins) × (Nat → Nat)
/-- What the world's words are in memory. -/
structure Cfg where
  wb : Nat
  cb : Nat
  tb : Nat
  mb : Nat
  xb : Nat
  db : Nat
  vp : Value
  vc : Value
  vl : Value
  ve : Value
  B : Nat → Nat
  tsv : List Tk
  tmr : List Tr
  cxr : List CxR
def worldO (c : Cfg) (st : WS) : Obj := .cells #[c.vp, ptV c.cb, ptV c.tb, c.vc, inV (st.made : Int), ptV c.mb, ptV c.xb, ptV c.db, c.vl, inV (st.steps : Int), c.ve] 69 (0, 0)
def chPtrs (B : Nat → Nat) (n : Nat) : List Value := (List.range n).map fun i => ptV (B i)
def DealAt (w : World) (S : Nat → Prop) (b nd : Nat) : Prop := ∃ (SL : Nat → Prop) (v : Value) (n : Nat) (cs : List Value), S b ∧ (∀ k, SL k → S k ∧ k ≠ b) ∧ w.heap[b]? = some (.cells #[v] 110 (0, 0)) ∧ Sl w SL 222 5 v n cs ∧ n ≤ nd
def LookAt (w : World) (S : Nat → Prop) (v : Value) (m : Nat) : Prop := ∃ (n : Nat) (cs : List Value), Sl w S 134 2 v n cs ∧ n ≤ m
/-- Programs in memory. -/
def ProgsAt (w : World) (S : Nat → Prop) (v : Value) (P : List (List Ins)) : Prop := ∃ rows : List Value, Sl w S 28 1 v P.length rows ∧ ∀ (i : Nat) (p : List Ins), P[i]? = some p → ∃ r, rows[i]? = some r ∧ Sl w S 25 6 r p.length (p.flatMap insEn) ∧ ∀ y ∈ p, Sl w S 27 3 y.2.1 y.2.2.1.length (y.2.2.1.flatMap icsEn) ∧ (y.2.2.1 = [] → y.2.1 = .slice none 0 0)
/-- The tasks in memory, and the cases of those that wait by some. -/
def CasesAt (w : World) (S : Nat → Prop) (tsv : List Tk) (ts : List TkS) : Prop := tsv.length = ts.length ∧ ∀ (i : Nat) (t : Nat → Int) (d : Bool) (cs : List ICs), ts[i]? = some (t, d, cs) → ∃ cv, tsv[i]? = some (t, d, cv) ∧ Sl w S 27 3 cv cs.length (cs.flatMap icsEn) ∧ (cs = [] → cv = .slice none 0 0)
/-- The timers in memory. -/
def TmOk (B : Nat → Nat) (nch : Nat) (tmr : List Tr) (tm : List TmS) : Prop := tmr = tm.map (fun x => (x.1, x.2.1, B x.2.2.1, x.2.2.2)) ∧ ∀ x ∈ tm, x.2.2.1 < nch
def toR (B : Nat → Nat) (x : CxS) : CxR := ⟨x.node, x.free, x.ch.map B, x.err, x.cause, x.when', x.has, x.own⟩
def CxOk (B : Nat → Nat) (nch : Nat) (cxr : List CxR) (cx : List CxS) : Prop := cxr = cx.map (toR B) ∧ ∀ x ∈ cx, ∀ i, x.ch = some i → i < nch
theorem DealAt.fr {w w' : World} {S F : Nat → Prop} {b nd : Nat} (h : DealAt w S b nd) (hf : Fr F w w') (hd : ∀ k, S k → F k → False) : DealAt w' S b nd := by
  obtain ⟨SL, v, n, cs, h1, h2, h3, h4, h5⟩ := h
  exact ⟨SL, v, n, cs, h1, h2, hf.blk (hd _ h1) h3, h4.fr hf fun k q => hd k (h2 k q).1, h5⟩
theorem DealAt.mono {w : World} {S : Nat → Prop} {b nd m : Nat} (h : DealAt w S b nd) (hm : nd ≤ m) : DealAt w S b m := by
  obtain ⟨SL, v, n, cs, h1, h2, h3, h4, h5⟩ := h
  exact ⟨SL, v, n, cs, h1, h2, h3, h4, by omega⟩
theorem LookAt.mono {w : World} {S : Nat → Prop} {v : Value} {m n : Nat} (h : LookAt w S v m) (hm : m ≤ n) : LookAt w S v n := by
  obtain ⟨k, cs, h1, h2⟩ := h; exact ⟨k, cs, h1, by omega⟩
theorem LookAt.fr {w w' : World} {S F : Nat → Prop} {v : Value} {m : Nat} (h : LookAt w S v m) (hf : Fr F w w') (hd : ∀ k, S k → F k → False) : LookAt w' S v m := by
  obtain ⟨n, cs, h1, h2⟩ := h; exact ⟨n, cs, h1.fr hf hd, h2⟩
theorem ProgsAt.fr {w w' : World} {S F : Nat → Prop} {v : Value} {P : List (List Ins)} (h : ProgsAt w S v P) (hf : Fr F w w') (hd : ∀ k, S k → F k → False) : ProgsAt w' S v P := by
  obtain ⟨rows, h1, h2⟩ := h
  refine ⟨rows, h1.fr hf hd, fun i p hp => ?_⟩
  obtain ⟨r, a, b, c⟩ := h2 i p hp
  exact ⟨r, a, b.fr hf hd, fun y hy => ⟨(c y hy).1.fr hf hd, (c y hy).2⟩⟩
theorem CasesAt.fr {w w' : World} {S F : Nat → Prop} {tsv : List Tk} {ts : List TkS} (h : CasesAt w S tsv ts) (hf : Fr F w w') (hd : ∀ k, S k → F k → False) : CasesAt w' S tsv ts := by
  refine ⟨h.1, fun i t d cs hi => ?_⟩
  obtain ⟨cv, a, b, c⟩ := h.2 i t d cs hi
  exact ⟨cv, a, b.fr hf hd, c⟩
/-- The world as it lies, but for the parts H. -/
structure WP (H : Nat → Prop) (w : World) (F : Nat → Nat → Prop) (c : Cfg) (P : Pg) (st : WS) (nd nm : Nat) : Prop where
  lt : ∀ p k, F p k → k < w.heap.size
  dis : ∀ p q k, F p k → F q k → p = q
  own0 : F 0 c.wb
  own1 : F 1 c.cb
  blk : ¬ H 0 → w.heap[c.wb]? = some (worldO c st)
  clk : ¬ H 1 → w.heap[c.cb]? = some (.cells #[inV st.now] 93 (0, 0))
  tab : ¬ H 2 → TableAt w (F 2) c.tb c.tsv st.line
  chs : ¬ H 3 → Sl w (F 3) 48 1 c.vc st.nch (chPtrs c.B st.nch)
  tim : ¬ H 4 → TmAt w (F 4) c.mb c.tmr st.named st.hp st.seq st.per nm
  ctx : ¬ H 5 → CxAt w (F 5) c.xb c.mb c.cxr st.tr nm
  dls : ¬ H 6 → DealAt w (F 6) c.db nd
  lks : ¬ H 7 → LookAt w (F 7) c.vl nd
  prg : ¬ H 8 → ProgsAt w (F 8) c.vp P.1
  evs : ¬ H 9 → Sl w (F 9) 43 6 c.ve st.ev.length (Go.Proofs.YtcffplgimbbflaaGreat.evs st.ev)
  cas : ¬ H 10 → CasesAt w (F 10) c.tsv st.ts
  pool : ¬ H 11 → Pool w (F 11) c.B st.ch
  chn : ∀ i, (st.ch i).isSome = decide (i < st.nch)
  tml : TmOk c.B st.nch c.tmr st.tm
  cxl : CxOk c.B st.nch c.cxr st.cx
  pad : st.steps ≤ 10000 ∧ st.nch ≤ 100000 ∧ ∀ i, i < st.nch → c.B i = P.2 i
theorem TabAt.fr' {w w' : World} {S F : Nat → Prop} {b : Nat} {ts : List Tk} {line : List Int} (h : TableAt w S b ts line) (hf : Fr F w w') (hd : ∀ k, S k → F k → False) : TableAt w' S b ts line := by
  obtain ⟨ab, lb, SA, SL, h⟩ := h; exact ⟨ab, lb, SA, SL, h.fr hf hd⟩
/-- What has turned lies in the parts H'. -/
theorem WP.frame {H H' : Nat → Prop} {w w' : World} {F : Nat → Nat → Prop} {c : Cfg} {P : Pg} {st : WS} {nd nm : Nat} (h : WP H w F c P st nd nm) {T : Nat → Prop} (hf : Fr T w w') (hH : ∀ p, H p → H' p) (hT : ∀ p k, ¬ H' p → F p k → T k → False) : WP H' w' F c P st nd nm :=
  ⟨fun p k q => by have := h.lt p k q; have := hf.size; omega, h.dis, h.own0, h.own1,
   fun n => hf.blk (hT 0 _ n h.own0) (h.blk fun q => n (hH _ q)), fun n => hf.blk (hT 1 _ n h.own1) (h.clk fun q => n (hH _ q)),
   fun n => TabAt.fr' (h.tab fun q => n (hH _ q)) hf fun k q => hT 2 k n q, fun n => (h.chs fun q => n (hH _ q)).fr hf fun k q => hT 3 k n q,
   fun n => (h.tim fun q => n (hH _ q)).fr hf fun k q => hT 4 k n q, fun n => (h.ctx fun q => n (hH _ q)).fr hf fun k q => hT 5 k n q,
   fun n => (h.dls fun q => n (hH _ q)).fr hf fun k q => hT 6 k n q, fun n => (h.lks fun q => n (hH _ q)).fr hf fun k q => hT 7 k n q,
   fun n => (h.prg fun q => n (hH _ q)).fr hf fun k q => hT 8 k n q, fun n => (h.evs fun q => n (hH _ q)).fr hf fun k q => hT 9 k n q,
   fun n => (h.cas fun q => n (hH _ q)).fr hf fun k q => hT 10 k n q, fun n => (h.pool fun q => n (hH _ q)).fr hf fun k q => hT 11 k n q,
   h.chn, h.tml, h.cxl, h.pad⟩
abbrev H0 : Nat → Prop := fun _ => False
theorem WP.fr0 {H : Nat → Prop} {w w' : World} {F : Nat → Nat → Prop} {c : Cfg} {P : Pg} {st : WS} {nd nm : Nat} (h : WP H w F c P st nd nm) (hf : Fr Nob w w') : WP H w' F c P st nd nm := h.frame hf (fun _ q => q) fun _ _ _ _ q => q
/-- A part has turned. -/
theorem WP.part {w w' : World} {F : Nat → Nat → Prop} {c : Cfg} {P : Pg} {st : WS} {nd nm : Nat} (h : WP H0 w F c P st nd nm) (p : Nat) (hf : Fr (F p) w w') : WP (fun q => q = p) w' F c P st nd nm :=
  h.frame hf (fun _ q => q.elim) fun q k n a b => n (h.dis q p k a b)
theorem WP.part2 {w w' : World} {F : Nat → Nat → Prop} {c : Cfg} {P : Pg} {st : WS} {nd nm : Nat} (h : WP H0 w F c P st nd nm) (p r : Nat) (hf : Fr (fun k => F p k ∨ F r k) w w') : WP (fun q => q = p ∨ q = r) w' F c P st nd nm :=
  h.frame hf (fun _ q => q.elim) fun q k n a b => by
    rcases b with b | b
    · exact n (.inl (h.dis q p k a b))
    · exact n (.inr (h.dis q r k a b))
/-- The world's blocks. -/
abbrev Un (F : Nat → Nat → Prop) : Nat → Prop := fun k => ∃ p, F p k
/-- A family of sets, one of which has grown. -/
theorem fam_lt {w w' : World} {F : Nat → Nat → Prop} (h : ∀ p k, F p k → k < w.heap.size) (hz : w.heap.size ≤ w'.heap.size) {q : Nat} {T : Nat → Prop} (hT : ∀ k, T k → k < w'.heap.size) : ∀ p k, Go.Proofs.YtcffplgimbbflaaGreat.upd F q T p k → k < w'.heap.size := fun p k a => by
  by_cases e : p = q
  · subst e; rw [upd_same] at a; exact hT k a
  · rw [upd_ne _ _ e] at a; have := h p k a; omega
theorem fam_dis {w : World} {F : Nat → Nat → Prop} (h : ∀ p k, F p k → k < w.heap.size) (hd : ∀ p q k, F p k → F q k → p = q) {q : Nat} {T : Nat → Prop} (hT : ∀ k, T k → F q k ∨ w.heap.size ≤ k) : ∀ p r k, Go.Proofs.YtcffplgimbbflaaGreat.upd F q T p k → Go.Proofs.YtcffplgimbbflaaGreat.upd F q T r k → p = r := fun p r k a b => by
  by_cases e : p = q
  · subst e
    rw [upd_same] at a
    by_cases e2 : r = p
    · exact e2.symm
    · rw [upd_ne _ _ e2] at b
      rcases hT k a with a | a
      · exact hd _ _ _ a b
      · have := h r k b; omega
  · rw [upd_ne _ _ e] at a
    by_cases e2 : r = q
    · subst e2
      rw [upd_same] at b
      rcases hT k b with b | b
      · exact hd _ _ _ a b
      · have := h p k a; omega
    · rw [upd_ne _ _ e2] at b
      exact hd _ _ _ a b
theorem fam_un {w : World} {F : Nat → Nat → Prop} {S : Nat → Prop} (h : ∀ p k, F p k → S k) {q : Nat} {T : Nat → Prop} (hT : ∀ k, T k → F q k ∨ w.heap.size ≤ k) : ∀ k, Un (Go.Proofs.YtcffplgimbbflaaGreat.upd F q T) k → S k ∨ w.heap.size ≤ k := fun k ⟨p, a⟩ => by
  by_cases e : p = q
  · subst e; rw [upd_same] at a
    rcases hT k a with a | a
    · exact .inl (h _ _ a)
    · exact .inr a
  · rw [upd_ne _ _ e] at a; exact .inl (h _ _ a)
/-- The world, in blocks S. -/
def WAt (w : World) (S : Nat → Prop) (wb : Nat) (P : Pg) (st : WS) (nd nm : Nat) : Prop := ∃ (F : Nat → Nat → Prop) (c : Cfg), WP H0 w F c P st nd nm ∧ c.wb = wb ∧ ∀ k, S k ↔ Un F k
/-- What is of the world behind a call. -/
def Nx (w : World) (S : Nat → Prop) (wb : Nat) (P : Pg) (st : WS) (nd nm : Nat) (w' : World) : Prop := ∃ S' : Nat → Prop, Fr S w w' ∧ WAt w' S' wb P st nd nm ∧ ∀ k, S' k → S k ∨ w.heap.size ≤ k
theorem WAt.lt {w : World} {S : Nat → Prop} {wb : Nat} {P : Pg} {st : WS} {nd nm : Nat} (h : WAt w S wb P st nd nm) : ∀ k, S k → k < w.heap.size := fun k q => by
  obtain ⟨F, c, h1, h2, h3⟩ := h
  obtain ⟨p, a⟩ := (h3 k).1 q
  exact h1.lt p k a
theorem WAt.fr {w w' : World} {S T : Nat → Prop} {wb : Nat} {P : Pg} {st : WS} {nd nm : Nat} (h : WAt w S wb P st nd nm) (hf : Fr T w w') (hd : ∀ k, S k → T k → False) : WAt w' S wb P st nd nm := by
  obtain ⟨F, c, h1, h2, h3⟩ := h
  exact ⟨F, c, h1.frame hf (fun _ q => q) fun p k _ a b => hd k ((h3 k).2 ⟨p, a⟩) b, h2, h3⟩
theorem WAt.fr0 {w w' : World} {S : Nat → Prop} {wb : Nat} {P : Pg} {st : WS} {nd nm : Nat} (h : WAt w S wb P st nd nm) (hf : Fr Nob w w') : WAt w' S wb P st nd nm := h.fr hf fun _ _ q => q
theorem Nx.refl {w : World} {S : Nat → Prop} {wb : Nat} {P : Pg} {st : WS} {nd nm : Nat} (h : WAt w S wb P st nd nm) : Nx w S wb P st nd nm w := ⟨S, Fr.refl _ _, h, fun k q => .inl q⟩
theorem Nx.ofFr {w w' : World} {S : Nat → Prop} {wb : Nat} {P : Pg} {st : WS} {nd nm : Nat} (h : WAt w S wb P st nd nm) (hf : Fr Nob w w') : Nx w S wb P st nd nm w' := ⟨S, hf.none, h.fr0 hf, fun k q => .inl q⟩
theorem Nx.step {w w1 w2 : World} {S S1 : Nat → Prop} {wb : Nat} {P : Pg} {st : WS} {nd nm : Nat} (hf : Fr S w w1) (hs : ∀ k, S1 k → S k ∨ w.heap.size ≤ k) (h : Nx w1 S1 wb P st nd nm w2) : Nx w S wb P st nd nm w2 := by
  obtain ⟨S2, f2, a2, s2⟩ := h
  refine ⟨S2, hf.trans f2 fun k hk q => ?_, a2, fun k q => ?_⟩
  · rcases hs k q with q | q
    · exact q
    · omega
  · rcases s2 k q with q | q
    · exact hs k q
    · exact .inr (by have := hf.size; omega)
theorem Nx.after {w w1 w2 : World} {S : Nat → Prop} {wb : Nat} {P : Pg} {st st' : WS} {nd nm nd' nm' : Nat} (h1 : Nx w S wb P st nd nm w1) (h2 : ∀ S1, WAt w1 S1 wb P st nd nm → Nx w1 S1 wb P st' nd' nm' w2) : Nx w S wb P st' nd' nm' w2 := by
  obtain ⟨S1, f1, a1, s1⟩ := h1
  exact Nx.step f1 s1 (h2 S1 a1)
theorem Nx.fr0 {w w1 w2 : World} {S : Nat → Prop} {wb : Nat} {P : Pg} {st : WS} {nd nm : Nat} (h : Nx w S wb P st nd nm w1) (hf : Fr Nob w1 w2) : Nx w S wb P st nd nm w2 := h.after fun S1 a => Nx.ofFr a hf
theorem Nx.from0 {w w1 w2 : World} {S : Nat → Prop} {wb : Nat} {P : Pg} {st : WS} {nd nm : Nat} (hf : Fr Nob w w1) (h : Nx w1 S wb P st nd nm w2) : Nx w S wb P st nd nm w2 := Nx.step hf.none (fun k q => .inl q) h
/-- A slice that lies beside the world stays. -/
theorem Nx.beside {w w1 : World} {S T : Nat → Prop} {wb : Nat} {P : Pg} {st : WS} {nd nm : Nat} (h : Nx w S wb P st nd nm w1) {E : TypeId} {sz : Nat} {v : Value} {n : Nat} {cs : List Value} (hs : Sl w T E sz v n cs) (hd : ∀ k, S k → T k → False) : Sl w1 T E sz v n cs := by
  obtain ⟨S1, f1, a1, s1⟩ := h
  exact hs.fr f1 fun k a b => hd k b a
/-- Behind a turn of a part the world is whole again. -/
theorem WAt.of {w w' : World} {S : Nat → Prop} {F F' : Nat → Nat → Prop} {c' : Cfg} {wb : Nat} {P : Pg} {st : WS} {nd nm : Nat} (hS : ∀ k, S k ↔ Un F k) (hf : Fr (Un F) w w') (hn : WP H0 w' F' c' P st nd nm) (hwb : c'.wb = wb) (hU : ∀ k, Un F' k → Un F k ∨ w.heap.size ≤ k) : Nx w S wb P st nd nm w' :=
  ⟨Un F', hf.mono fun k _ q => (hS k).2 q, ⟨F', c', hn, hwb, fun k => Iff.rfl⟩, fun k q => by
    rcases hU k q with q | q
    · exact .inl ((hS k).2 q)
    · exact .inr q⟩
theorem WAt.mono {w : World} {S : Nat → Prop} {wb : Nat} {P : Pg} {st : WS} {nd nm nd' nm' : Nat} (h : WAt w S wb P st nd nm) (h1 : nd ≤ nd') (h2 : nm ≤ nm') : WAt w S wb P st nd' nm' := by
  obtain ⟨F, c, h, hw, hS⟩ := h
  exact ⟨F, c, ⟨h.lt, h.dis, h.own0, h.own1, h.blk, h.clk, h.tab, h.chs, fun n => (h.tim n).mono h2, fun n => (h.ctx n).mono h2, fun n => (h.dls n).mono h1, fun n => (h.lks n).mono h1, h.prg, h.evs, h.cas, h.pool, h.chn, h.tml, h.cxl, h.pad⟩, hw, hS⟩
theorem Nx.mono {w w' : World} {S : Nat → Prop} {wb : Nat} {P : Pg} {st : WS} {nd nm nd' nm' : Nat} (h : Nx w S wb P st nd nm w') (h1 : nd ≤ nd') (h2 : nm ≤ nm') : Nx w S wb P st nd' nm' w' := by
  obtain ⟨S', a, b, c⟩ := h; exact ⟨S', a, b.mono h1 h2, c⟩
end Go.Proofs.YtcffplgimbbflaaGreat
