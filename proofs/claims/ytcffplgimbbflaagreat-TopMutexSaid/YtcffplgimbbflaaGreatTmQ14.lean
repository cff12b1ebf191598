/- TopTimes answers true whatever its inputs are: no condition. -/
import Derived.Test.YtcffplgimbbflaaGreatTmQ13
set_option linter.unusedVariables false
set_option linter.unusedSimpArgs false
namespace Go.Proofs.YtcffplgimbbflaaGreat
open Go.RowKit
set_option maxRecDepth 100000
theorem tree_new (w : World) : Calls Tryz.prog 44 #[] w fun e w' => ∃ b, e = .returned (.pointer (some ⟨b, 0, none⟩)) ∧ Fr Nob w w' ∧ TreeAt w' (fun k => w.heap.size ≤ k ∧ k < w'.heap.size) b [] := by
  go_enter Tryz.func44, Tryz.ntmps44
  go_wp2
  go_ret
  refine ⟨w.heap.size, rfl, (Fr.refl Nob w).alloc _, .slice none 0 0, [], Nob, fun _ => Nob, ⟨by simp, heap_alloc_new _ _, Sl.nil _ _ _ _, fun i x hx => by simp at hx, fun k q => q.elim, fun i k q => q.elim, fun i j k q => q.elim, fun i x hx => by simp at hx, by simp⟩, rfl⟩
theorem tree_len (w : World) (S : Nat → Prop) (b : Nat) (ns : List Nd) (n : Nat) (hn : ns.length = n) (h : TreeAt w S b ns) :
    Calls Tryz.prog 155 #[.pointer (some ⟨b, 0, none⟩)] w fun e w' => e = .returned (.int .i64 (n : Int)) ∧ w = w' := by
  obtain ⟨v, xs, M, K, h, rfl⟩ := h
  have hm := h.main
  rw [show xs.length = n by simpa using hn] at hm
  have c0 := blk_cell h.blk 0 rfl
  obtain ⟨A, c, rfl⟩ := hm.slice
  clear h hm hn
  go_enter Tryz.func155, Tryz.ntmps155
  go_wp2
  go_ret
  exact ⟨rfl, rfl⟩
theorem tree_has_yes (w : World) (S : Nat → Prop) (b : Nat) (ns : List Nd) (i n : Nat) (hn : ns.length = n) (h : TreeAt w S b ns) (hi : i < n) :
    Calls Tryz.prog 107 #[.pointer (some ⟨b, 0, none⟩), .int .i64 (i : Int)] w fun e w' => e = .returned (.bool true) ∧ w = w' := by
  have H := Lib.hid (tree_len w S b ns n hn h)
  clear h hn
  have h1 : (i : Int) < n := by omega
  go_enter Tryz.func107, Tryz.ntmps107
  go_wp2_with fail
  refine H.out.mono ?_
  rintro e w' ⟨rfl, rfl⟩
  go_wp2_with fail
  go_ret
  exact ⟨rfl, rfl⟩
/-- What is read of one node. -/
theorem TAt.cells {w : World} {S : Nat → Prop} {b : Nat} {v : Value} {xs : List NdV} {M : Nat → Prop} {K : Nat → Nat → Prop} (h : TAt w S b v xs M K) (i : Nat) (x : NdV) (hx : xs[i]? = some x) :
    ∃ g off cap, v = .slice (some ⟨g, off, none⟩) xs.length cap ∧ M g ∧ g < w.heap.size ∧ xs.length ≤ cap ∧ cap ≤ maxLen ∧ w.cell? ⟨g, off + i * 3, none⟩ = some (.int .i64 x.1.1) ∧ w.cell? ⟨g, off + i * 3 + 1, none⟩ = some (.bool x.1.2) ∧ w.cell? ⟨g, off + i * 3 + 2, none⟩ = some x.2 ∧ ∀ j, w.frozen? ⟨g, j, none⟩ = false := by
  have hi := (List.getElem?_eq_some_iff.1 hx).1
  obtain ⟨g, off, cap, hv, hM, hg, hc1, hc2, hcell, hfz⟩ := h.main.form (by omega)
  have q0 := hcell _ _ (flat_get (sz := 3) ndEn xs (fun _ _ => rfl) i 0 x hx (by omega))
  have q1 := hcell _ _ (flat_get (sz := 3) ndEn xs (fun _ _ => rfl) i 1 x hx (by omega))
  have q2 := hcell _ _ (flat_get (sz := 3) ndEn xs (fun _ _ => rfl) i 2 x hx (by omega))
  rw [← Nat.add_assoc] at q1 q2
  exact ⟨g, off, cap, hv, hM, hg, hc1, hc2, q0, q1, q2, hfz⟩
set_option maxHeartbeats 1000000 in
theorem tree_add_lone (w : World) (S : Nat → Prop) (b : Nat) (ns : List Nd) (p : Int) (l : Bool) (n : Nat) (hnn : ns.length = n) (h : TreeAt w S b ns) (hp : -1 ≤ p) (hp2 : p < (n : Int)) (hf : n < 1000) (hl : p = -1 ∨ l = false) :
    Calls Tryz.prog 67 #[.pointer (some ⟨b, 0, none⟩), .int .i64 p, .bool l] w fun e w' => e = .returned (.tuple #[.int .i64 (n : Int), .int .i64 0]) ∧ Fr S w w' ∧ TreeAt w' (And' S w w') b (ns ++ [(p, false)]) := by
  have hh := fun (i : Nat) (hi : i < n) => tree_has_yes w S b ns i n hnn h hi
  obtain ⟨v, xs, M, K, h, rfl⟩ := h
  have hl2 : xs.length = n := by simpa using hnn
  have hs := h.main
  rw [hl2] at hs
  obtain ⟨A, c, hA⟩ := hs.slice
  have hbM : ¬ M b := fun q => (h.inM _ q).2.1 rfl
  subst hA
  have c0 := blk_cell h.blk 0 rfl
  have f0 := blk_froz h.blk 0
  have lb := lt_of_block h.blk
  have hfin : ∀ w1 v1, Sl w1 (fun k => M k ∨ w.heap.size ≤ k) 203 3 v1 (n + 1) (xs.flatMap ndEn ++ ndEn ((p, false), .slice none 0 0)) → Fr M w w1 → 
      Fr S w (w1.setCell ⟨b, 0, none⟩ v1) ∧ TreeAt (w1.setCell ⟨b, 0, none⟩ v1) (And' S w (w1.setCell ⟨b, 0, none⟩ v1)) b (nds xs ++ [(p, false)]) := by
    intro w1 v1 hs1 hf1
    have hb1 := hf1.blk hbM h.blk
    refine ⟨(hf1.mono fun k _ q => (h.inM k q).1).setCell (.inl h.own) _, h.lone hp (by omega) (by omega) ((hf1.mono fun k _ q => .inl q).setCell (.inl (.inr rfl)) _) (blk_set hb1 0 _) ?_⟩
    rw [hl2]
    have hs2 := hs1.fr ((Fr.refl (fun k => k = b) w1).setCell (p := ⟨b, 0, none⟩) (.inl rfl) v1) (fun k q e => by
      have e' : k = b := e
      subst e'
      rcases q with q | q; exact hbM q; omega)
    exact hs2.mono fun k hk q => by rcases q with q | q; exact .inl q; exact .inr ⟨q, hk⟩
  have Hfin := Lib.hid hfin; have Hs := Lib.hid hs; have Hb := Lib.hid h.blk; have HbM := Lib.hid hbM; have Hh := Lib.hid hh
  clear hfin hs h hl2 hnn hbM hh
  have h3 : ¬ (1000 : Int) ≤ n := by omega
  have key : ∀ (i : Nat), p = (i : Int) → l = false → Calls Tryz.prog 67 #[.pointer (some ⟨b, 0, none⟩), .int .i64 p, .bool l] w fun e w' => e = .returned (.tuple #[.int .i64 (n : Int), .int .i64 0]) ∧ Fr S w w' ∧ TreeAt w' (And' S w w') b (nds xs ++ [(p, false)]) := by
    rintro i rfl rfl
    have H := Lib.hid (Hh.out i (by omega))
    have hb : ((i : Int) != -1) = true := by simp
    clear hl Hh
    go_enter Tryz.func67, Tryz.ntmps67
    go_wp2_with fail
    refine H.out.mono ?_
    rintro e w' ⟨rfl, rfl⟩
    go_wp2_with (at_builtin; refine wpList_append1 _ rfl _ _ _ rfl M 203 _ 3 40 Tryz.underlying168 info_node rfl (by omega) (.slice A n c) n (xs.flatMap ndEn) [.int .i64 (i : Int), .bool false, .slice none 0 0] rfl Hs.out rfl rfl rfl (by omega) (by omega) ?_; intro v3 w3 hs3 hf3 hz3; obtain ⟨A3, c3, rfl⟩ := hs3.slice; have hb3 := hf3.blk HbM.out Hb.out; have d0 := blk_cell hb3 0 rfl; have g0 := blk_froz hb3 0; have Hs3 := Lib.hid hs3; have Hf3 := Lib.hid hf3; clear hb3 hs3 hf3)
    go_ret2
    exact ⟨rfl, Hfin.out _ _ Hs3.out Hf3.out⟩
  by_cases h0 : p = -1
  · subst h0
    clear hl Hh key
    cases l <;> (
    go_enter Tryz.func67, Tryz.ntmps67
    go_wp2_with (at_builtin; refine wpList_append1 _ rfl _ _ _ rfl M 203 _ 3 40 Tryz.underlying168 info_node rfl (by omega) (.slice A n c) n (xs.flatMap ndEn) [.int .i64 (-1), .bool false, .slice none 0 0] rfl Hs.out rfl rfl rfl (by omega) (by omega) ?_; intro v3 w3 hs3 hf3 hz3; obtain ⟨A3, c3, rfl⟩ := hs3.slice; have hb3 := hf3.blk HbM.out Hb.out; have d0 := blk_cell hb3 0 rfl; have g0 := blk_froz hb3 0; have Hs3 := Lib.hid hs3; have Hf3 := Lib.hid hf3; clear hb3 hs3 hf3)
    go_ret2
    exact ⟨rfl, Hfin.out _ _ Hs3.out Hf3.out⟩)
  · obtain ⟨i, hi⟩ := Int.eq_ofNat_of_zero_le (show 0 ≤ p by omega)
    exact key i hi (hl.resolve_left h0)
theorem Tryz.info_ctx : (Tryz.prog.info? 120).map (fun i => (i.zero, i.size, i.bytes)) = some (some (.agg #[.int .i64 0, .bool false, .pointer none, .int .i64 0, .int .i64 0, .int .i64 0, .bool false, .bool false, .int .i64 0]), 9, 64) := by kernel_rfl
/-- A context as it lies. -/
structure CxR where
  node : Nat
  free : Bool
  cb : Option Nat
  err : Int
  cause : Int
  when' : Int
  has : Bool
  own : Bool
def ptrO : Option Nat → Option Addr
  | none => none
  | some b => some ⟨b, 0, none⟩
abbrev cxEn (x : CxR) : List Value := [.int .i64 (x.node : Int), .bool x.free, .pointer (ptrO x.cb), .int .i64 x.err, .int .i64 x.cause, .int .i64 x.when', .bool x.has, .bool x.own, .int .i64 (-1)]
abbrev cxs (l : List CxR) : List Value := l.flatMap cxEn
structure CxP (w : World) (S : Nat → Prop) (b tmb trb mb : Nat) (ST SL : Nat → Prop) (v : Value) (l : List CxR) (n : Nat) (ns : List Nd) (nm : Nat) : Prop where
  own : S b
  ownM : S mb
  ne : b ≠ mb
  lt : ∀ k, S k → k < w.heap.size
  subT : ∀ k, ST k → S k ∧ k ≠ b ∧ k ≠ mb
  subL : ∀ k, SL k → S k ∧ k ≠ b ∧ k ≠ mb ∧ ¬ ST k
  blk : w.heap[b]? = some (.cells #[.pointer (some ⟨tmb, 0, none⟩), .pointer (some ⟨trb, 0, none⟩), v, .slice none 0 0, .map (some mb)] 117 (0, 0))
  len : l.length = n
  sl : Sl w SL 120 9 v n (cxs l)
  tree : TreeAt w ST trb ns
  map : ∃ f, MapAt w mb nm f
def CxAt (w : World) (S : Nat → Prop) (b tmb : Nat) (l : List CxR) (ns : List Nd) (nm : Nat) : Prop := ∃ (trb mb : Nat) (ST SL : Nat → Prop) (v : Value) (n : Nat), CxP w S b tmb trb mb ST SL v l n ns nm
section
variable {w w' : World} {S : Nat → Prop} {b tmb trb mb : Nat} {ST SL : Nat → Prop} {v : Value} {l : List CxR} {n : Nat} {ns : List Nd} {nm : Nat}
theorem CxP.fr (h : CxP w S b tmb trb mb ST SL v l n ns nm) {F : Nat → Prop} (hf : Fr F w w') (hd : ∀ k, S k → F k → False) : CxP w' S b tmb trb mb ST SL v l n ns nm :=
  ⟨h.own, h.ownM, h.ne, fun k q => by have := h.lt k q; have := hf.size; omega, h.subT, h.subL, hf.blk (hd _ h.own) h.blk, h.len, h.sl.fr hf fun k q => hd k (h.subL k q).1, h.tree.fr hf fun k q => hd k (h.subT k q).1, by obtain ⟨f, hm⟩ := h.map; exact ⟨f, hm.fr hf (hd _ h.ownM)⟩⟩
theorem CxP.fr0 (h : CxP w S b tmb trb mb ST SL v l n ns nm) (hf : Fr Nob w w') : CxP w' S b tmb trb mb ST SL v l n ns nm := h.fr hf fun _ _ q => q
theorem CxAt.fr (h : CxAt w S b tmb l ns nm) {F : Nat → Prop} (hf : Fr F w w') (hd : ∀ k, S k → F k → False) : CxAt w' S b tmb l ns nm := by
  obtain ⟨trb, mb, ST, SL, v, n, h⟩ := h; exact ⟨trb, mb, ST, SL, v, n, h.fr hf hd⟩
theorem CxAt.fr0 (h : CxAt w S b tmb l ns nm) (hf : Fr Nob w w') : CxAt w' S b tmb l ns nm := h.fr hf fun _ _ q => q
theorem CxAt.own (h : CxAt w S b tmb l ns nm) : S b := by obtain ⟨trb, mb, ST, SL, v, n, h⟩ := h; exact h.own
theorem CxAt.lt (h : CxAt w S b tmb l ns nm) : ∀ k, S k → k < w.heap.size := by obtain ⟨trb, mb, ST, SL, v, n, h⟩ := h; exact h.lt
theorem CxAt.mono (h : CxAt w S b tmb l ns nm) {m : Nat} (hm : nm ≤ m) : CxAt w S b tmb l ns m := by
  obtain ⟨trb, mb, ST, SL, v, n, h⟩ := h
  exact ⟨trb, mb, ST, SL, v, n, h.own, h.ownM, h.ne, h.lt, h.subT, h.subL, h.blk, h.len, h.sl, h.tree, by obtain ⟨f, q⟩ := h.map; exact ⟨f, q.mono hm⟩⟩
/-- The tree has grown. -/
theorem CxP.growTree (h : CxP w S b tmb trb mb ST SL v l n ns nm) (hf : Fr ST w w') {ns' : List Nd} (ht : TreeAt w' (And' ST w w') trb ns') : CxP w' (And' S w w') b tmb trb mb (And' ST w w') SL v l n ns' nm := by
  have hz := hf.size
  refine ⟨.inl h.own, .inl h.ownM, h.ne, fun k q => ?_, fun k q => ?_, fun k q => ⟨.inl (h.subL k q).1, (h.subL k q).2.1, (h.subL k q).2.2.1, fun q' => ?_⟩, hf.blk (fun q => (h.subT _ q).2.1 rfl) h.blk, h.len, h.sl.fr hf fun k q q' => (h.subL k q).2.2.2 q', ht, by obtain ⟨f, hm⟩ := h.map; exact ⟨f, hm.fr hf fun q => (h.subT _ q).2.2 rfl⟩⟩
  · rcases q with q | q
    · have := h.lt k q; omega
    · exact q.2
  · rcases q with q | q
    · exact ⟨.inl (h.subT k q).1, (h.subT k q).2⟩
    · exact ⟨.inr q, fun e => by have := h.lt b h.own; omega, fun e => by have := h.lt mb h.ownM; omega⟩
  · rcases q' with q' | q'
    · exact (h.subL k q).2.2.2 q'
    · have := h.lt k (h.subL k q).1; omega
theorem CxP.toMap (h : CxP w S b tmb trb mb ST SL v l n ns nm) (hf : Fr (fun k => k = mb) w w') {f : Int → Option Int} {m : Nat} (hm : MapAt w' mb m f) : CxP w' S b tmb trb mb ST SL v l n ns m :=
  ⟨h.own, h.ownM, h.ne, fun k q => by have := h.lt k q; have := hf.size; omega, h.subT, h.subL, hf.blk h.ne h.blk, h.len, h.sl.fr hf fun k q e => (h.subL k q).2.2.1 e, h.tree.fr hf fun k q e => (h.subT k q).2.2 e, f, hm⟩
theorem CxP.cells (h : CxP w S b tmb trb mb ST SL v l n ns nm) : ∃ A cp, v = .slice A n cp ∧ w.cell? ⟨b, 0, none⟩ = some (.pointer (some ⟨tmb, 0, none⟩)) ∧ w.cell? ⟨b, 1, none⟩ = some (.pointer (some ⟨trb, 0, none⟩)) ∧ w.cell? ⟨b, 2, none⟩ = some (.slice A n cp) ∧ w.cell? ⟨b, 3, none⟩ = some (.slice none 0 0) ∧ w.cell? ⟨b, 4, none⟩ = some (.map (some mb)) ∧ w.frozen? ⟨b, 2, none⟩ = false := by
  obtain ⟨A, cp, e⟩ := h.sl.slice
  have c2 := blk_cell h.blk 2 rfl
  rw [e] at c2
  exact ⟨A, cp, e, blk_cell h.blk 0 rfl, blk_cell h.blk 1 rfl, c2, blk_cell h.blk 3 rfl, blk_cell h.blk 4 rfl, blk_froz h.blk 2⟩
end
/-- One more stands at the end of the row. -/
theorem CxP.grown {w X w3 : World} {S : Nat → Prop} {b tmb trb mb : Nat} {ST SL : Nat → Prop} {A : Option Addr} {cp : Nat} {l : List CxR} {n : Nat} {ns : List Nd} {nm : Nat} (h : CxP w S b tmb trb mb ST SL (.slice A n cp) l n ns nm) (x : CxR)
    (hX : Fr Nob w X) (hf3 : Fr SL X w3) {X3 : Option Addr} {c3 : Nat} (hs3 : Sl w3 (fun k => SL k ∨ X.heap.size ≤ k) 120 9 (.slice X3 (n + 1) c3) (n + 1) (cxs l ++ cxEn x)) :
    CxP (w3.setCell ⟨b, 2, none⟩ (.slice X3 (n + 1) c3)) (And' S w (w3.setCell ⟨b, 2, none⟩ (.slice X3 (n + 1) c3))) b tmb trb mb ST (And' SL w (w3.setCell ⟨b, 2, none⟩ (.slice X3 (n + 1) c3))) (.slice X3 (n + 1) c3) (l ++ [x]) (n + 1) ns nm ∧ Fr S w (w3.setCell ⟨b, 2, none⟩ (.slice X3 (n + 1) c3)) := by
  have hb3 := hf3.blk (fun q => (h.subL _ q).2.1 rfl) (hX.blk id h.blk)
  obtain ⟨W3, hW3⟩ : ∃ W3, W3 = w3.setCell ⟨b, 2, none⟩ (.slice X3 (n + 1) c3) := ⟨_, rfl⟩
  have hf34 : Fr (fun k => k = b) w3 W3 := by rw [hW3]; exact (Fr.refl (fun k => k = b) w3).setCell (p := ⟨b, 2, none⟩) (.inl rfl) _
  have hb4 := blk_set hb3 2 (.slice X3 (n + 1) c3)
  rw [← hW3] at hb4 ⊢
  have hbl := h.lt b h.own; have hml := h.lt mb h.ownM
  have hz1 := hX.size; have hz2 := hf3.size; have hz3 := hf34.size
  refine ⟨⟨.inl h.own, .inl h.ownM, h.ne, fun k q => ?_, fun k q => ⟨.inl (h.subT k q).1, (h.subT k q).2⟩, fun k q => ?_, hb4, by rw [List.length_append, h.len]; rfl, ?_, ?_, ?_⟩, ?_⟩
  · rcases q with q | q
    · have := h.lt k q; omega
    · exact q.2
  · rcases q with q | q
    · exact ⟨.inl (h.subL k q).1, (h.subL k q).2⟩
    · exact ⟨.inr q, by omega, by omega, fun e => by have := h.lt k (h.subT k e).1; omega⟩
  · have e1 : cxs (l ++ [x]) = cxs l ++ cxEn x := by simp [cxs]
    rw [e1]
    refine (hs3.fr hf34 fun k q e => ?_).mono fun k hk q => ?_
    · rcases q with q | q
      · exact (h.subL k q).2.1 e
      · omega
    · rcases q with q | q
      · exact .inl q
      · exact .inr ⟨by omega, hk⟩
  · exact ((h.tree.fr0 hX).fr hf3 fun k q q' => (h.subL k q').2.2.2 q).fr hf34 fun k q e => (h.subT k q).2.1 e
  · obtain ⟨f, hm⟩ := h.map
    exact ⟨f, ((hm.fr0 hX).fr hf3 fun q => (h.subL _ q).2.2.1 rfl).fr hf34 fun e => h.ne e.symm⟩
  · exact (hX.none.trans hf3 fun k _ q => (h.subL k q).1).trans hf34 fun k _ q => by subst q; exact h.own
set_option maxHeartbeats 2000000 in
theorem cx_add {w : World} {S : Nat → Prop} {b tmb : Nat} {l : List CxR} {ns : List Nd} {nm : Nat} (h : CxAt w S b tmb l ns nm) (n : Nat) (hl : l.length = n) (hn : n < 900) (hns : ns.length < 1000) (hnm : nm < 900000) (free : Bool) (cb : Option Nat) (err cause when' : Int) (has own : Bool) (par : Int) (nf : Bool) (hnf : (!free) = nf) {ns' : List Nd}
    (htree : ∀ W ST trb, TreeAt W ST trb ns → Calls Tryz.prog 67 #[.pointer (some ⟨trb, 0, none⟩), .int .i64 par, .bool nf] W fun e w' => e = .returned (.tuple #[.int .i64 (ns.length : Int), .int .i64 0]) ∧ Fr ST W w' ∧ TreeAt w' (And' ST W w') trb ns') :
    Calls Tryz.prog 45 #[.pointer (some ⟨b, 0, none⟩), .agg #[.int .i64 0, .bool free, .pointer (ptrO cb), .int .i64 err, .int .i64 cause, .int .i64 when', .bool has, .bool own, .int .i64 0], .int .i64 par] w fun e w' => ∃ S' : Nat → Prop, e = .returned (.int .i64 (n : Int)) ∧ Fr S w w' ∧ CxAt w' S' b tmb (l ++ [⟨ns.length, free, cb, err, cause, when', has, own⟩]) ns' (nm + 1) ∧ ∀ k, S' k → S k ∨ w.heap.size ≤ k := by
  obtain ⟨trb, mb, ST, SL, v, n', h⟩ := h
  obtain rfl : n' = n := by rw [← h.len, hl]
  have Htree := Lib.hid (fun W (hW : Fr Nob w W) => htree W ST trb ((h.fr0 hW).tree))
  obtain ⟨A, cp, rfl, c0, c1, c2, c3, c4, f2⟩ := h.cells
  have H := Lib.hid h
  have C1 := Lib.hid c1
  clear h htree c0 c1 c2 c3 c4 f2
  generalize hnn : ns.length = m at *
  have Hnn := Lib.hid hnn
  clear hnn
  obtain ⟨pc, hpc⟩ : ∃ pc, pc = ptrO cb := ⟨_, rfl⟩
  rw [← hpc]
  have Hpc := Lib.hid hpc
  clear hpc
  go_enter Tryz.func45, Tryz.ntmps45
  go_wp2_with fail
  obtain ⟨w1, hw1⟩ : ∃ w1, w1 = w.alloc (.cells #[.int .i64 0, .bool free, .pointer pc, .int .i64 err, .int .i64 cause, .int .i64 when', .bool has, .bool own, .int .i64 0] 120) := ⟨_, rfl⟩
  rw [← hw1]
  obtain ⟨xb, hxb⟩ : ∃ xb, xb = w.heap.size := ⟨_, rfl⟩
  rw [← hxb]
  have hfw1 : Fr Nob w w1 := by rw [hw1]; exact (Fr.refl Nob w).alloc _
  have hbw1 : w1.heap[xb]? = some (.cells #[.int .i64 0, .bool free, .pointer pc, .int .i64 err, .int .i64 cause, .int .i64 when', .bool has, .bool own, .int .i64 0] 120 (0, 0)) := by rw [hw1, hxb]; exact heap_alloc_new _ _
  have Hfw1 := Lib.hid hfw1; have Hbw1 := Lib.hid hbw1; have Hzw1 : Hid (w.heap.size = xb ∧ xb < w1.heap.size) := ⟨hxb.symm, lt_of_block hbw1⟩
  clear hw1 hxb hfw1 hbw1
  have hS : ∀ k, S k → k < w.heap.size := H.out.lt
  have hxS : ¬ S xb := fun q => by have := hS _ q; have := Hzw1.out; omega
  have key : ∀ W, Fr ST w1 W → W.cell? ⟨b, 1, none⟩ = some (.pointer (some ⟨trb, 0, none⟩)) ∧ W.cell? ⟨xb, 1, none⟩ = some (.bool free) := fun W hW => by
    have q := hW.blk (fun q => hxS (H.out.subT _ q).1) Hbw1.out
    exact ⟨hW.cell (fun q => (H.out.subT _ q).2.1 rfl) (Hfw1.out.cell id C1.out), blk_cell q 1 rfl⟩
  have hxb : xb ≠ b := fun e => hxS (by rw [e]; exact H.out.own)
  have key2 : ∀ W u, Fr ST w1 W → (W.setCell ⟨xb, 0, none⟩ u).cell? ⟨b, 1, none⟩ = some (.pointer (some ⟨trb, 0, none⟩)) ∧ (W.setCell ⟨xb, 0, none⟩ u).cell? ⟨xb, 1, none⟩ = some (.bool free) := fun W u hW => by
    have q := hW.blk (fun q => hxS (H.out.subT _ q).1) Hbw1.out
    exact ⟨((Fr.refl (fun k => k = xb) W).setB 0 u).cell (p := ⟨b, 1, none⟩) (fun e => hxb e.symm) (key W hW).1, blk_cell (blk_set q 0 u) 1 rfl⟩
  have keyx : ∀ W, Fr ST w1 W → W.cell? ⟨xb, 0, none⟩ = some (.int .i64 0) ∧ W.frozen? ⟨xb, 0, none⟩ = false := fun W hW => by
    have q := hW.blk (fun q => hxS (H.out.subT _ q).1) Hbw1.out
    exact ⟨blk_cell q 0 rfl, blk_froz q 0⟩
  have Key := Lib.hid key; have Key2 := Lib.hid key2; have Keyx := Lib.hid keyx
  clear key key2 keyx
  have hf0 : Fr ST w1 w1 := Fr.refl _ _
  go_region_held3 (fun W => W.cell? ⟨b, 1, none⟩ = some (.pointer (some ⟨trb, 0, none⟩)) ∧ W.cell? ⟨xb, 1, none⟩ = some (.bool free))
    ((first | (refine Key2.out _ _ ?_; with_reducible exact hf2) | (refine Key.out _ ?_; first | with_reducible exact hf2 | with_reducible exact hf0 | exact hf0.drew)))
    ((go_at_call 67; refine (Htree.out w1.drew (Hfw1.out.drew)).mono ?_; rintro e w2 ⟨rfl, hf2', ht2⟩; have hf2 : Fr ST w1 w2 := (hf0.drew).trans0 hf2'; obtain ⟨xx0, xz0⟩ := Keyx.out w2 hf2; have Ht2 := Lib.hid (H.out.fr0 (Hfw1.out.drew) |>.growTree hf2' ht2); clear ht2 hf2'))
  obtain ⟨w3, hw3⟩ : ∃ w3, w3 = w2.setCell ⟨xb, 0, none⟩ (.int .i64 (m : Int)) := ⟨_, rfl⟩
  rw [← hw3]
  have hx2 := hf2.blk (fun q => hxS (H.out.subT _ q).1) Hbw1.out
  have hb3 : w3.heap[xb]? = some (.cells #[.int .i64 (m : Int), .bool free, .pointer pc, .int .i64 err, .int .i64 cause, .int .i64 when', .bool has, .bool own, .int .i64 0] 120 (0, 0)) := by rw [hw3]; exact blk_set hx2 0 _
  have hf23 : Fr (fun k => k = xb) w2 w3 := by rw [hw3]; exact (Fr.refl _ w2).setB 0 _
  have hxd : ∀ k, And' S w1.drew w2 k → k = xb → False := fun k q e => by
    rcases q with q | q
    · exact hxS (by rw [← e]; exact q)
    · have := Hzw1.out; have := q.1; rw [e] at this; exact absurd this (by show ¬ w1.heap.size ≤ xb; omega)
  have H3 := Lib.hid (Ht2.out.fr hf23 hxd)
  have Hf2 := Lib.hid hf2; have Hb3 := Lib.hid hb3; have Hxd := Lib.hid hxd; have Hf23 := Lib.hid hf23
  clear hw3 hx2 hb3 hf23 hxd xx0 xz0 hf2 hf0 Key Key2 Keyx
  have x8 := blk_cell Hb3.out 8 rfl; have z8 := blk_froz Hb3.out 8
  go_wp2_with fail
  obtain ⟨w4, hw4⟩ : ∃ w4, w4 = w3.setCell ⟨xb, 8, none⟩ (.int .i64 (-1)) := ⟨_, rfl⟩
  rw [← hw4]
  have hb4 : w4.heap[xb]? = some (.cells #[.int .i64 (m : Int), .bool free, .pointer pc, .int .i64 err, .int .i64 cause, .int .i64 when', .bool has, .bool own, .int .i64 (-1)] 120 (0, 0)) := by rw [hw4]; exact blk_set Hb3.out 8 _
  have hf34 : Fr (fun k => k = xb) w3 w4 := by rw [hw4]; exact (Fr.refl _ w3).setB 8 _
  have H4 := Lib.hid (H3.out.fr hf34 Hxd.out)
  have Hf34 := Lib.hid hf34; have Hb4 := Lib.hid hb4
  clear hw4 hb4 hf34 x8 z8
  obtain ⟨A', cp', hv, c0, c1, c2, c3, c4, f2⟩ := H4.out.cells
  injection hv with e1 e2 e3
  subst e1; subst e3
  refine wp_region_held_drew (S := fun W => W.cell? ⟨b, 4, none⟩ = some (.map (some mb)) ∧ W.cell? ⟨b, 2, none⟩ = some (.slice A n' cp) ∧ W.cell? ⟨xb, 0, none⟩ = some (.int .i64 (m : Int))) (by kernel_rfl) ⟨c4, c2, blk_cell Hb4.out 0 rfl⟩ (fun hHeld => ?_)
  refine wpAnyH_take (i := 0) (v := ?_) rfl (by kernel_rfl) (by kernel_rfl) (by kernel_rfl) (fun _ _ _ h => h) (Or.inl ⟨by rfl, ?_⟩) (by assumption) ?_
  rotate_left
  · intro w hSw; (try dsimp only at hSw); go_simp; try with_reducible rfl
  try simp only [List.getElem_toArray, List.getElem_cons_zero, List.getElem_cons_succ, Act.put, List.setIfInBounds_toArray, List.set_cons_zero, List.set_cons_succ]
  refine wpAnyH_take (i := 1) (v := ?_) rfl (by kernel_rfl) (by kernel_rfl) (by kernel_rfl) (fun _ _ _ h => h) (Or.inl ⟨by rfl, ?_⟩) (by assumption) ?_
  rotate_left
  · intro w hSw; (try dsimp only at hSw); go_simp; try with_reducible rfl
  try simp only [List.getElem_toArray, List.getElem_cons_zero, List.getElem_cons_succ, Act.put, List.setIfInBounds_toArray, List.set_cons_zero, List.set_cons_succ]
  refine wpAnyH_take (i := 2) (v := ?_) rfl (by kernel_rfl) (by kernel_rfl) (by kernel_rfl) (fun _ _ _ h => h) (Or.inl ⟨by rfl, ?_⟩) (by assumption) ?_
  rotate_left
  · intro w hSw; (try dsimp only at hSw); go_simp; try with_reducible rfl
  try simp only [List.getElem_toArray, List.getElem_cons_zero, List.getElem_cons_succ, Act.put, List.setIfInBounds_toArray, List.set_cons_zero, List.set_cons_succ]
  refine wpAnyH_take (i := 3) (v := ?_) rfl (by kernel_rfl) (by kernel_rfl) (by kernel_rfl) (fun _ _ _ h => h) (Or.inl ⟨by rfl, ?_⟩) (by assumption) ?_
  rotate_left
  · intro w hSw; (try dsimp only at hSw); go_simp; try with_reducible rfl
  try simp only [List.getElem_toArray, List.getElem_cons_zero, List.getElem_cons_succ, Act.put, List.setIfInBounds_toArray, List.set_cons_zero, List.set_cons_succ]
  refine wpAnyH_take (i := 4) (v := ?_) rfl (by kernel_rfl) (by kernel_rfl) (by kernel_rfl) (fun _ _ _ h => h) (Or.inl ⟨by rfl, ?_⟩) (by assumption) ?_
  rotate_left
  · intro w hSw; (try dsimp only at hSw); go_simp; try with_reducible rfl
  try simp only [List.getElem_toArray, List.getElem_cons_zero, List.getElem_cons_succ, Act.put, List.setIfInBounds_toArray, List.set_cons_zero, List.set_cons_succ]
  refine wpAnyH_take (i := 5) (v := ?_) rfl (by kernel_rfl) (by kernel_rfl) (by kernel_rfl) (fun _ _ _ h => h) (Or.inl ⟨by rfl, ?_⟩) (by assumption) ?_
  rotate_left
  · intro w hSw; (try dsimp only at hSw); go_simp; try with_reducible rfl
  try simp only [List.getElem_toArray, List.getElem_cons_zero, List.getElem_cons_succ, Act.put, List.setIfInBounds_toArray, List.set_cons_zero, List.set_cons_succ]
  refine wpAnyH_take (i := 6) (v := ?_) rfl (by kernel_rfl) (by kernel_rfl) (by kernel_rfl) (fun _ _ _ h => h) (Or.inl ⟨by rfl, ?_⟩) (by assumption) ?_
  rotate_left
  · intro w hSw; (try dsimp only at hSw); go_simp; try with_reducible rfl
  try simp only [List.getElem_toArray, List.getElem_cons_zero, List.getElem_cons_succ, Act.put, List.setIfInBounds_toArray, List.set_cons_zero, List.set_cons_succ]
  refine wpAnyH_take (i := 7) (v := ?_) rfl (by kernel_rfl) (by kernel_rfl) (by kernel_rfl) (fun _ _ _ h => h) (Or.inl ⟨by rfl, ?_⟩) (by assumption) ?_
  rotate_left
  · intro w hSw; (try dsimp only at hSw); go_simp; try with_reducible rfl
  try simp only [List.getElem_toArray, List.getElem_cons_zero, List.getElem_cons_succ, Act.put, List.setIfInBounds_toArray, List.set_cons_zero, List.set_cons_succ]
  refine wpAnyH_take (i := 8) (v := ?_) rfl (by kernel_rfl) (by kernel_rfl) (by kernel_rfl) (fun _ _ _ h => h) (Or.inl ⟨by rfl, ?_⟩) (by assumption) ?_
  rotate_left
  · intro w hSw; (try dsimp only at hSw); go_simp; try with_reducible rfl
  try simp only [List.getElem_toArray, List.getElem_cons_zero, List.getElem_cons_succ, Act.put, List.setIfInBounds_toArray, List.set_cons_zero, List.set_cons_succ]
  refine wpAnyH_take (i := 9) (v := ?_) rfl (by kernel_rfl) (by kernel_rfl) (by kernel_rfl) (fun _ _ _ h => h) (Or.inl ⟨by rfl, ?_⟩) (by assumption) ?_
  rotate_left
  · intro w hSw; (try dsimp only at hSw); go_simp; try with_reducible rfl
  try simp only [List.getElem_toArray, List.getElem_cons_zero, List.getElem_cons_succ, Act.put, List.setIfInBounds_toArray, List.set_cons_zero, List.set_cons_succ]
  refine wpAnyH_take (i := 10) (v := ?_) rfl (by kernel_rfl) (by kernel_rfl) (by kernel_rfl) (fun _ _ _ h => h) (Or.inl ⟨by rfl, ?_⟩) (by assumption) ?_
  rotate_left
  · intro w hSw; (try dsimp only at hSw); go_simp; try with_reducible rfl
  try simp only [List.getElem_toArray, List.getElem_cons_zero, List.getElem_cons_succ, Act.put, List.setIfInBounds_toArray, List.set_cons_zero, List.set_cons_succ]
  refine wpAnyH_ready (rs := [11]) (by kernel_rfl) (by simp) ?_
  refine AllReadyH.cons rfl (fun K hK => ?_) AllReadyH.nil
  obtain ⟨f, hmap⟩ := H4.out.map
  refine map_put_op rfl (.tmp 24) (.tmp 26) (.tmp 31) rfl mb nm f rfl hmap.drew (by omega) m n' rfl rfl (wf_small (by omega) (by omega)) (wf_small (by omega) (by omega)) fun w5 hm5 hf5 => ?_
  have hf45 : Fr (fun k => k = mb) w4 w5 := ((Fr.refl _ w4).drew).trans0 hf5
  have hxm : xb ≠ mb := fun e => hxS (by rw [e]; exact H.out.ownM)
  have h5 := H4.out.toMap hf45 hm5
  have hb5 := hf45.blk hxm Hb4.out
  obtain ⟨_, _, _, k0, k1, k2, k3, k4, g2⟩ := id h5.cells
  refine hK.out _ _ ⟨hf45.cell (p := ⟨b, 4, none⟩) H4.out.ne c4, hf45.cell (p := ⟨b, 2, none⟩) H4.out.ne c2, blk_cell hb5 0 rfl⟩ (fun hHeld2 => ?_)
  refine wpAnyH_done (by kernel_rfl) ?_ _
  try simp only [List.getElem_toArray, List.getElem_cons_zero, List.getElem_cons_succ, Act.put, List.setIfInBounds_toArray, List.set_cons_zero, List.set_cons_succ]
  have H5 := Lib.hid h5; have Hb5 := Lib.hid hb5; have Hf45 := Lib.hid hf45
  clear hf5 hm5 hmap hHeld hHeld2 hK K hb5 h5 hf45 hxm c0 c1 c2 c3 c4 f2 k0 k1 k2 k3 k4 g2
  go_wp2_with fail
  have c2 := blk_cell H5.out.blk 2 rfl
  have f2 := blk_froz H5.out.blk 2
  have x0 := blk_cell Hb5.out 0 rfl; have x1 := blk_cell Hb5.out 1 rfl; have x2 := blk_cell Hb5.out 2 rfl; have x3 := blk_cell Hb5.out 3 rfl; have x4 := blk_cell Hb5.out 4 rfl; have x5 := blk_cell Hb5.out 5 rfl; have x6 := blk_cell Hb5.out 6 rfl; have x7 := blk_cell Hb5.out 7 rfl; have x8 := blk_cell Hb5.out 8 rfl
  have lb5 := lt_of_block H5.out.blk
  go_region_law ((refine step_append_sl _ (by rfl) _ _ _ (by rfl) SL 120 _ 9 64 Tryz.underlying114 Tryz.info_ctx rfl (by omega) (.slice A n' cp) n' (cxs l) (by rfl) ((H5.out.sl.alloc _).drew) ⟨w5.heap.size, 0, none⟩ 1 1 [.int .i64 (m : Int), .bool free, .pointer pc, .int .i64 err, .int .i64 cause, .int .i64 when', .bool has, .bool own, .int .i64 (-1)] (by rfl) (by rfl) (news_lit _ [.int .i64 (m : Int), .bool free, .pointer pc, .int .i64 err, .int .i64 cause, .int .i64 when', .bool has, .bool own, .int .i64 (-1)] 120 (0, 0) _ (heap_alloc_new w5 _)) (by rfl) (by omega) (by omega) ?_; intro v6 w6 hs6 hf6; obtain ⟨X6, c6, rfl⟩ := hs6.slice; have hb6 := hf6.blk (fun q => (H5.out.subL _ q).2.1 rfl) (show ((w5.alloc (.cells #[.int .i64 (m : Int), .bool free, .pointer pc, .int .i64 err, .int .i64 cause, .int .i64 when', .bool has, .bool own, .int .i64 (-1)] 120)).drew).heap[b]? = _ from (blk_alloc_ne _ lb5).trans H5.out.blk); have d2 := blk_cell hb6 2 rfl; have g2 := blk_froz hb6 2; have Hs6 := Lib.hid hs6; have Hf6 := Lib.hid hf6; have Hb6 := Lib.hid hb6; clear hs6 hf6 hb6))
  all_goals
    have hpc := Hpc.out
    subst hpc
    have hq := CxP.grown H5.out ⟨m, free, cb, err, cause, when', has, own⟩ ((Fr.refl Nob w5).alloc _).drew Hf6.out Hs6.out
    obtain ⟨w7, hw7⟩ : ∃ w7, w7 = w6.setCell ⟨b, 2, none⟩ (.slice X6 (n' + 1) c6) := ⟨_, rfl⟩
    rw [← hw7] at hq ⊢
    obtain ⟨hq7, hf7⟩ := hq
    have k2 := blk_cell hq7.blk 2 rfl
    have hw1 : IntKind.i64.wrap ((n' : Int) + 1 - 1) = (n' : Int) := by rw [show (n' : Int) + 1 - 1 = n' by omega]; simp [IntKind.wrap, IntKind.bits, IntKind.signed]; omega
    have Hq7 := Lib.hid hq7; have Hf7 := Lib.hid hf7
    clear hq7 hf7 hw7 d2 g2 c2 f2 x0 x1 x2 x3 x4 x5 x6 x7 x8
    go_wp2_with fail
    go_ret
    have hz1 := Hzw1.out; have hz2 := Hf2.out.size; have hz3 := Hf23.out.size; have hz4 := Hf34.out.size; have hz5 := Hf45.out.size
    have hxw : w.heap.size ≤ xb := by omega
    have e1 : Fr S w w2 := Hfw1.out.none.trans Hf2.out fun k _ q => (H.out.subT k q).1
    have e2 : Fr S w w5 := ((e1.trans Hf23.out fun k hk q => by omega).trans Hf34.out fun k hk q => by omega).trans Hf45.out fun k _ q => by rw [q]; exact H.out.ownM
    refine ⟨by first | rfl | simp, e2.trans Hf7.out fun k hk q => ?_, _, ⟨trb, mb, _, _, _, _, Hq7.out⟩, fun k q => ?_⟩
    · rcases q with q | q
      · exact q
      · have q1 : w1.heap.size ≤ k := q.1; omega
    · rcases q with q | q
      · rcases q with q | q
        · exact .inl q
        · have q1 : w1.heap.size ≤ k := q.1; exact .inr (by omega)
      · exact .inr (by have := q.1; omega)
theorem cx_new (w : World) (tmb : Nat) : Calls Tryz.prog 24 #[.pointer (some ⟨tmb, 0, none⟩)] w fun e w' => ∃ (b : Nat) (S : Nat → Prop), e = .returned (.pointer (some ⟨b, 0, none⟩)) ∧ Fr Nob w w' ∧ CxAt w' S b tmb [⟨0, true, none, 0, 0, 0, false, false⟩] [(-1, false)] 1 ∧ ∀ k, S k → w.heap.size ≤ k := by
  have hmm := @run_makeMap Tryz.prog
  have Ht := Lib.hid (tree_new w)
  go_enter Tryz.func24, Tryz.ntmps24
  go_wp2_with fail
  refine Ht.out.mono ?_
  rintro e w1 ⟨trb, rfl, hf1, ht1⟩
  have Hf1 := Lib.hid hf1; have Ht1 := Lib.hid ht1
  clear hf1 ht1
  go_wp2_with fail
  obtain ⟨w2, hw2⟩ : ∃ w2, w2 = (w1.alloc (.map #[] 0)).alloc (.cells #[.pointer (some ⟨tmb, 0, none⟩), .pointer (some ⟨trb, 0, none⟩), .slice none 0 0, .slice none 0 0, .map (some w1.heap.size)] 117) := ⟨_, rfl⟩
  rw [← hw2]
  have hf12 : Fr Nob w1 w2 := by rw [hw2]; exact ((Fr.refl Nob w1).alloc _).alloc _
  have hz := Hf1.out.size
  have hz2 : w2.heap.size = w1.heap.size + 2 := by rw [hw2]; simp
  have h2 : CxAt w2 (fun k => w.heap.size ≤ k ∧ k < w2.heap.size) (w1.heap.size + 1) tmb [] [] 0 := by
    refine ⟨trb, w1.heap.size, fun k => w.heap.size ≤ k ∧ k < w1.heap.size, Nob, .slice none 0 0, 0, ⟨by omega, by omega⟩, ⟨by omega, by omega⟩, by omega, fun k q => q.2, fun k q => ⟨⟨q.1, by omega⟩, by omega, by omega⟩, fun k q => q.elim, ?_, rfl, Sl.nil _ _ _ _, Ht1.out.fr0 hf12, ⟨fun _ => none, ?_⟩⟩
    · rw [hw2]; exact blk_alloc_eq _ (by simp)
    · rw [hw2]; exact (MapAt.made w1).fr0 ((Fr.refl Nob _).alloc _)
  obtain ⟨bb, hbb⟩ : ∃ bb, bb = w1.heap.size + 1 := ⟨_, rfl⟩
  rw [← hbb] at h2 ⊢
  have Hf2 := Lib.hid (Hf1.out.trans0 hf12)
  clear hw2 hf12 hbb
  refine (cx_add h2 0 rfl (by omega) (by simp) (by omega) true none 0 0 0 false false (-1) false rfl (ns' := [(-1, false)]) fun W ST trb ht => tree_add_lone W ST trb [] (-1) false 0 rfl ht (by omega) (by omega) (by omega) (.inl rfl)).mono ?_
  rintro e w3 ⟨S3, rfl, hf3, ha3, hs3⟩
  have Hf3 := Lib.hid hf3; have Ha3 := Lib.hid ha3; have Hs3 := Lib.hid hs3
  clear hf3 ha3 hs3
  go_wp2_with fail
  go_ret
  refine ⟨bb, S3, rfl, Hf2.out.trans Hf3.out fun k hk q => by omega, Ha3.out, fun k q => ?_⟩
  rcases Hs3.out k q with q | q
  · exact q.1
  · have := Hf2.out.size; omega
section
variable {w : World} {S : Nat → Prop} {b : Nat} {ts : List Tk} {line : List Int} (h : TableAt w S b ts line)
include h
theorem task_pick (k : Int) (n : Nat) (hn : line.length = n) (h0 : 0 < n) : Calls Tryz.prog 55 #[.pointer (some ⟨b, 0, none⟩), .int .i64 k] w fun e w' => e = .returned (.tuple #[.int .i64 (line.getD (k % n).toNat 0), .bool true]) ∧ Fr Nob w w' := by
  obtain ⟨ab, lb, SA, SL, h⟩ := h
  have c1 := blk_cell h.blk 1 rfl
  have ha := ready_pick w SL lb line k n hn h.ready h0
  have Ha := Lib.hid ha
  generalize line.getD (k % n).toNat 0 = v at *
  clear h ha hn
  go_enter Tryz.func55, Tryz.ntmps55
  go_wp2_with fail
  refine Ha.out.mono ?_
  rintro e w1 ⟨rfl, hf⟩
  have Hf := Lib.hid hf
  clear hf
  go_wp2_with fail
  go_ret2
  exact ⟨rfl, Hf.out⟩
end
theorem task_pick_none {w : World} {S : Nat → Prop} {b : Nat} {ts : List Tk} (h : TableAt w S b ts []) (k : Int) : Calls Tryz.prog 55 #[.pointer (some ⟨b, 0, none⟩), .int .i64 k] w fun e w' => e = .returned (.tuple #[.int .i64 0, .bool false]) ∧ Fr Nob w w' := by
  obtain ⟨ab, lb, SA, SL, h⟩ := h
  have c1 := blk_cell h.blk 1 rfl
  have ha := ready_pick_none w SL lb k h.ready
  have Ha := Lib.hid ha
  clear h ha
  go_enter Tryz.func55, Tryz.ntmps55
  go_wp2_with fail
  refine Ha.out.mono ?_
  rintro e w1 ⟨rfl, hf⟩
  have Hf := Lib.hid hf
  clear hf
  go_wp2_with fail
  go_ret2
  exact ⟨rfl, Hf.out⟩
abbrev inV (n : Int) : Value := .int .i64 n
abbrev ptV (b : Nat) : Value := .pointer (some ⟨b, 0, none⟩)
/-- The programs, and where the channels lie. -/
abbrev Pg := List (List Ins) × (Nat → Nat)
/-- What the world's words are in memory. -/
structure Cfg where
  wb : Nat
  cb : Nat
  tb : Nat
  mb : Nat
  xb : Nat
  db : Nat
  vp : Value
  vc : Value
  vl : Value
  ve : Value
  B : Nat → Nat
  tsv : List Tk
  tmr : List Tr
  cxr : List CxR
def worldO (c : Cfg) (st : WS) : Obj := .cells #[c.vp, ptV c.cb, ptV c.tb, c.vc, inV (st.made : Int), ptV c.mb, ptV c.xb, ptV c.db, c.vl, inV (st.steps : Int), c.ve] 69 (0, 0)
def chPtrs (B : Nat → Nat) (n : Nat) : List Value := (List.range n).map fun i => ptV (B i)
def DealAt (w : World) (S : Nat → Prop) (b nd : Nat) : Prop := ∃ (SL : Nat → Prop) (v : Value) (n : Nat) (cs : List Value), S b ∧ (∀ k, SL k → S k ∧ k ≠ b) ∧ w.heap[b]? = some (.cells #[v] 110 (0, 0)) ∧ Sl w SL 222 5 v n cs ∧ n ≤ nd
def LookAt (w : World) (S : Nat → Prop) (v : Value) (m : Nat) : Prop := ∃ (n : Nat) (cs : List Value), Sl w S 134 2 v n cs ∧ n ≤ m
/-- Programs in memory. -/
def ProgsAt (w : World) (S : Nat → Prop) (v : Value) (P : List (List Ins)) : Prop := ∃ rows : List Value, Sl w S 28 1 v P.length rows ∧ ∀ (i : Nat) (p : List Ins), P[i]? = some p → ∃ r, rows[i]? = some r ∧ Sl w S 25 6 r p.length (p.flatMap insEn) ∧ ∀ y ∈ p, Sl w S 27 3 y.2.1 y.2.2.1.length (y.2.2.1.flatMap icsEn) ∧ (y.2.2.1 = [] → y.2.1 = .slice none 0 0)
/-- The tasks in memory, and the cases of those that wait by some. -/
def CasesAt (w : World) (S : Nat → Prop) (tsv : List Tk) (ts : List TkS) : Prop := tsv.length = ts.length ∧ ∀ (i : Nat) (t : Nat → Int) (d : Bool) (cs : List ICs), ts[i]? = some (t, d, cs) → ∃ cv, tsv[i]? = some (t, d, cv) ∧ Sl w S 27 3 cv cs.length (cs.flatMap icsEn) ∧ (cs = [] → cv = .slice none 0 0)
/-- The timers in memory. -/
def TmOk (B : Nat → Nat) (nch : Nat) (tmr : List Tr) (tm : List TmS) : Prop := tmr = tm.map (fun x => (x.1, x.2.1, B x.2.2.1, x.2.2.2)) ∧ ∀ x ∈ tm, x.2.2.1 < nch
def toR (B : Nat → Nat) (x : CxS) : CxR := ⟨x.node, x.free, x.ch.map B, x.err, x.cause, x.when', x.has, x.own⟩
def CxOk (B : Nat → Nat) (nch : Nat) (cxr : List CxR) (cx : List CxS) : Prop := cxr = cx.map (toR B) ∧ ∀ x ∈ cx, ∀ i, x.ch = some i → i < nch
theorem DealAt.fr {w w' : World} {S F : Nat → Prop} {b nd : Nat} (h : DealAt w S b nd) (hf : Fr F w w') (hd : ∀ k, S k → F k → False) : DealAt w' S b nd := by
  obtain ⟨SL, v, n, cs, h1, h2, h3, h4, h5⟩ := h
  exact ⟨SL, v, n, cs, h1, h2, hf.blk (hd _ h1) h3, h4.fr hf fun k q => hd k (h2 k q).1, h5⟩
theorem DealAt.mono {w : World} {S : Nat → Prop} {b nd m : Nat} (h : DealAt w S b nd) (hm : nd ≤ m) : DealAt w S b m := by
  obtain ⟨SL, v, n, cs, h1, h2, h3, h4, h5⟩ := h
  exact ⟨SL, v, n, cs, h1, h2, h3, h4, by omega⟩
theorem LookAt.mono {w : World} {S : Nat → Prop} {v : Value} {m n : Nat} (h : LookAt w S v m) (hm : m ≤ n) : LookAt w S v n := by
  obtain ⟨k, cs, h1, h2⟩ := h; exact ⟨k, cs, h1, by omega⟩
theorem LookAt.fr {w w' : World} {S F : Nat → Prop} {v : Value} {m : Nat} (h : LookAt w S v m) (hf : Fr F w w') (hd : ∀ k, S k → F k → False) : LookAt w' S v m := by
  obtain ⟨n, cs, h1, h2⟩ := h; exact ⟨n, cs, h1.fr hf hd, h2⟩
theorem ProgsAt.fr {w w' : World} {S F : Nat → Prop} {v : Value} {P : List (List Ins)} (h : ProgsAt w S v P) (hf : Fr F w w') (hd : ∀ k, S k → F k → False) : ProgsAt w' S v P := by
  obtain ⟨rows, h1, h2⟩ := h
  refine ⟨rows, h1.fr hf hd, fun i p hp => ?_⟩
  obtain ⟨r, a, b, c⟩ := h2 i p hp
  exact ⟨r, a, b.fr hf hd, fun y hy => ⟨(c y hy).1.fr hf hd, (c y hy).2⟩⟩
theorem CasesAt.fr {w w' : World} {S F : Nat → Prop} {tsv : List Tk} {ts : List TkS} (h : CasesAt w S tsv ts) (hf : Fr F w w') (hd : ∀ k, S k → F k → False) : CasesAt w' S tsv ts := by
  refine ⟨h.1, fun i t d cs hi => ?_⟩
  obtain ⟨cv, a, b, c⟩ := h.2 i t d cs hi
  exact ⟨cv, a, b.fr hf hd, c⟩
/-- The world as it lies, but for the parts H. -/
structure WP (H : Nat → Prop) (w : World) (F : Nat → Nat → Prop) (c : Cfg) (P : Pg) (st : WS) (nd nm : Nat) : Prop where
  lt : ∀ p k, F p k → k < w.heap.size
  dis : ∀ p q k, F p k → F q k → p = q
  own0 : F 0 c.wb
  own1 : F 1 c.cb
  blk : ¬ H 0 → w.heap[c.wb]? = some (worldO c st)
  clk : ¬ H 1 → w.heap[c.cb]? = some (.cells #[inV st.now] 93 (0, 0))
  tab : ¬ H 2 → TableAt w (F 2) c.tb c.tsv st.line
  chs : ¬ H 3 → Sl w (F 3) 48 1 c.vc st.nch (chPtrs c.B st.nch)
  tim : ¬ H 4 → TmAt w (F 4) c.mb c.tmr st.named st.hp st.seq st.per nm
  ctx : ¬ H 5 → CxAt w (F 5) c.xb c.mb c.cxr st.tr nm
  dls : ¬ H 6 → DealAt w (F 6) c.db nd
  lks : ¬ H 7 → LookAt w (F 7) c.vl nd
  prg : ¬ H 8 → ProgsAt w (F 8) c.vp P.1
  evs : ¬ H 9 → Sl w (F 9) 43 6 c.ve st.ev.length (Go.Proofs.YtcffplgimbbflaaGreat.evs st.ev)
  cas : ¬ H 10 → CasesAt w (F 10) c.tsv st.ts
  pool : ¬ H 11 → Pool w (F 11) c.B st.ch
  chn : ∀ i, (st.ch i).isSome = decide (i < st.nch)
  tml : TmOk c.B st.nch c.tmr st.tm
  cxl : CxOk c.B st.nch c.cxr st.cx
  pad : st.steps ≤ 10000 ∧ st.nch ≤ 100000 ∧ ∀ i, i < st.nch → c.B i = P.2 i
theorem TabAt.fr' {w w' : World} {S F : Nat → Prop} {b : Nat} {ts : List Tk} {line : List Int} (h : TableAt w S b ts line) (hf : Fr F w w') (hd : ∀ k, S k → F k → False) : TableAt w' S b ts line := by
  obtain ⟨ab, lb, SA, SL, h⟩ := h; exact ⟨ab, lb, SA, SL, h.fr hf hd⟩
/-- What has turned lies in the parts H'. -/
theorem WP.frame {H H' : Nat → Prop} {w w' : World} {F : Nat → Nat → Prop} {c : Cfg} {P : Pg} {st : WS} {nd nm : Nat} (h : WP H w F c P st nd nm) {T : Nat → Prop} (hf : Fr T w w') (hH : ∀ p, H p → H' p) (hT : ∀ p k, ¬ H' p → F p k → T k → False) : WP H' w' F c P st nd nm :=
  ⟨fun p k q => by have := h.lt p k q; have := hf.size; omega, h.dis, h.own0, h.own1,
   fun n => hf.blk (hT 0 _ n h.own0) (h.blk fun q => n (hH _ q)), fun n => hf.blk (hT 1 _ n h.own1) (h.clk fun q => n (hH _ q)),
   fun n => TabAt.fr' (h.tab fun q => n (hH _ q)) hf fun k q => hT 2 k n q, fun n => (h.chs fun q => n (hH _ q)).fr hf fun k q => hT 3 k n q,
   fun n => (h.tim fun q => n (hH _ q)).fr hf fun k q => hT 4 k n q, fun n => (h.ctx fun q => n (hH _ q)).fr hf fun k q => hT 5 k n q,
   fun n => (h.dls fun q => n (hH _ q)).fr hf fun k q => hT 6 k n q, fun n => (h.lks fun q => n (hH _ q)).fr hf fun k q => hT 7 k n q,
   fun n => (h.prg fun q => n (hH _ q)).fr hf fun k q => hT 8 k n q, fun n => (h.evs fun q => n (hH _ q)).fr hf fun k q => hT 9 k n q,
   fun n => (h.cas fun q => n (hH _ q)).fr hf fun k q => hT 10 k n q, fun n => (h.pool fun q => n (hH _ q)).fr hf fun k q => hT 11 k n q,
   h.chn, h.tml, h.cxl, h.pad⟩
abbrev H0 : Nat → Prop := fun _ => False
theorem WP.fr0 {H : Nat → Prop} {w w' : World} {F : Nat → Nat → Prop} {c : Cfg} {P : Pg} {st : WS} {nd nm : Nat} (h : WP H w F c P st nd nm) (hf : Fr Nob w w') : WP H w' F c P st nd nm := h.frame hf (fun _ q => q) fun _ _ _ _ q => q
/-- A part has turned. -/
theorem WP.part {w w' : World} {F : Nat → Nat → Prop} {c : Cfg} {P : Pg} {st : WS} {nd nm : Nat} (h : WP H0 w F c P st nd nm) (p : Nat) (hf : Fr (F p) w w') : WP (fun q => q = p) w' F c P st nd nm :=
  h.frame hf (fun _ q => q.elim) fun q k n a b => n (h.dis q p k a b)
theorem WP.part2 {w w' : World} {F : Nat → Nat → Prop} {c : Cfg} {P : Pg} {st : WS} {nd nm : Nat} (h : WP H0 w F c P st nd nm) (p r : Nat) (hf : Fr (fun k => F p k ∨ F r k) w w') : WP (fun q => q = p ∨ q = r) w' F c P st nd nm :=
  h.frame hf (fun _ q => q.elim) fun q k n a b => by
    rcases b with b | b
    · exact n (.inl (h.dis q p k a b))
    · exact n (.inr (h.dis q r k a b))
/-- The world's blocks. -/
abbrev Un (F : Nat → Nat → Prop) : Nat → Prop := fun k => ∃ p, F p k
/-- A family of sets, one of which has grown. -/
theorem fam_lt {w w' : World} {F : Nat → Nat → Prop} (h : ∀ p k, F p k → k < w.heap.size) (hz : w.heap.size ≤ w'.heap.size) {q : Nat} {T : Nat → Prop} (hT : ∀ k, T k → k < w'.heap.size) : ∀ p k, Go.Proofs.YtcffplgimbbflaaGreat.upd F q T p k → k < w'.heap.size := fun p k a => by
  by_cases e : p = q
  · subst e; rw [upd_same] at a; exact hT k a
  · rw [upd_ne _ _ e] at a; have := h p k a; omega
theorem fam_dis {w : World} {F : Nat → Nat → Prop} (h : ∀ p k, F p k → k < w.heap.size) (hd : ∀ p q k, F p k → F q k → p = q) {q : Nat} {T : Nat → Prop} (hT : ∀ k, T k → F q k ∨ w.heap.size ≤ k) : ∀ p r k, Go.Proofs.YtcffplgimbbflaaGreat.upd F q T p k → Go.Proofs.YtcffplgimbbflaaGreat.upd F q T r k → p = r := fun p r k a b => by
  by_cases e : p = q
  · subst e
    rw [upd_same] at a
    by_cases e2 : r = p
    · exact e2.symm
    · rw [upd_ne _ _ e2] at b
      rcases hT k a with a | a
      · exact hd _ _ _ a b
      · have := h r k b; omega
  · rw [upd_ne _ _ e] at a
    by_cases e2 : r = q
    · subst e2
      rw [upd_same] at b
      rcases hT k b with b | b
      · exact hd _ _ _ a b
      · have := h p k a; omega
    · rw [upd_ne _ _ e2] at b
      exact hd _ _ _ a b
theorem fam_un {w : World} {F : Nat → Nat → Prop} {S : Nat → Prop} (h : ∀ p k, F p k → S k) {q : Nat} {T : Nat → Prop} (hT : ∀ k, T k → F q k ∨ w.heap.size ≤ k) : ∀ k, Un (Go.Proofs.YtcffplgimbbflaaGreat.upd F q T) k → S k ∨ w.heap.size ≤ k := fun k ⟨p, a⟩ => by
  by_cases e : p = q
  · subst e; rw [upd_same] at a
    rcases hT k a with a | a
    · exact .inl (h _ _ a)
    · exact .inr a
  · rw [upd_ne _ _ e] at a; exact .inl (h _ _ a)
/-- The world, in blocks S. -/
def WAt (w : World) (S : Nat → Prop) (wb : Nat) (P : Pg) (st : WS) (nd nm : Nat) : Prop := ∃ (F : Nat → Nat → Prop) (c : Cfg), WP H0 w F c P st nd nm ∧ c.wb = wb ∧ ∀ k, S k ↔ Un F k
/-- What is of the world behind a call. -/
def Nx (w : World) (S : Nat → Prop) (wb : Nat) (P : Pg) (st : WS) (nd nm : Nat) (w' : World) : Prop := ∃ S' : Nat → Prop, Fr S w w' ∧ WAt w' S' wb P st nd nm ∧ ∀ k, S' k → S k ∨ w.heap.size ≤ k
theorem WAt.lt {w : World} {S : Nat → Prop} {wb : Nat} {P : Pg} {st : WS} {nd nm : Nat} (h : WAt w S wb P st nd nm) : ∀ k, S k → k < w.heap.size := fun k q => by
  obtain ⟨F, c, h1, h2, h3⟩ := h
  obtain ⟨p, a⟩ := (h3 k).1 q
  exact h1.lt p k a
theorem WAt.fr {w w' : World} {S T : Nat → Prop} {wb : Nat} {P : Pg} {st : WS} {nd nm : Nat} (h : WAt w S wb P st nd nm) (hf : Fr T w w') (hd : ∀ k, S k → T k → False) : WAt w' S wb P st nd nm := by
  obtain ⟨F, c, h1, h2, h3⟩ := h
  exact ⟨F, c, h1.frame hf (fun _ q => q) fun p k _ a b => hd k ((h3 k).2 ⟨p, a⟩) b, h2, h3⟩
theorem WAt.fr0 {w w' : World} {S : Nat → Prop} {wb : Nat} {P : Pg} {st : WS} {nd nm : Nat} (h : WAt w S wb P st nd nm) (hf : Fr Nob w w') : WAt w' S wb P st nd nm := h.fr hf fun _ _ q => q
theorem Nx.refl {w : World} {S : Nat → Prop} {wb : Nat} {P : Pg} {st : WS} {nd nm : Nat} (h : WAt w S wb P st nd nm) : Nx w S wb P st nd nm w := ⟨S, Fr.refl _ _, h, fun k q => .inl q⟩
theorem Nx.ofFr {w w' : World} {S : Nat → Prop} {wb : Nat} {P : Pg} {st : WS} {nd nm : Nat} (h : WAt w S wb P st nd nm) (hf : Fr Nob w w') : Nx w S wb P st nd nm w' := ⟨S, hf.none, h.fr0 hf, fun k q => .inl q⟩
theorem Nx.step {w w1 w2 : World} {S S1 : Nat → Prop} {wb : Nat} {P : Pg} {st : WS} {nd nm : Nat} (hf : Fr S w w1) (hs : ∀ k, S1 k → S k ∨ w.heap.size ≤ k) (h : Nx w1 S1 wb P st nd nm w2) : Nx w S wb P st nd nm w2 := by
  obtain ⟨S2, f2, a2, s2⟩ := h
  refine ⟨S2, hf.trans f2 fun k hk q => ?_, a2, fun k q => ?_⟩
  · rcases hs k q with q | q
    · exact q
    · omega
  · rcases s2 k q with q | q
    · exact hs k q
    · exact .inr (by have := hf.size; omega)
theorem Nx.after {w w1 w2 : World} {S : Nat → Prop} {wb : Nat} {P : Pg} {st st' : WS} {nd nm nd' nm' : Nat} (h1 : Nx w S wb P st nd nm w1) (h2 : ∀ S1, WAt w1 S1 wb P st nd nm → Nx w1 S1 wb P st' nd' nm' w2) : Nx w S wb P st' nd' nm' w2 := by
  obtain ⟨S1, f1, a1, s1⟩ := h1
  exact Nx.step f1 s1 (h2 S1 a1)
theorem Nx.fr0 {w w1 w2 : World} {S : Nat → Prop} {wb : Nat} {P : Pg} {st : WS} {nd nm : Nat} (h : Nx w S wb P st nd nm w1) (hf : Fr Nob w1 w2) : Nx w S wb P st nd nm w2 := h.after fun S1 a => Nx.ofFr a hf
theorem Nx.from0 {w w1 w2 : World} {S : Nat → Prop} {wb : Nat} {P : Pg} {st : WS} {nd nm : Nat} (hf : Fr Nob w w1) (h : Nx w1 S wb P st nd nm w2) : Nx w S wb P st nd nm w2 := Nx.step hf.none (fun k q => .inl q) h
/-- A slice that lies beside the world stays. -/
theorem Nx.beside {w w1 : World} {S T : Nat → Prop} {wb : Nat} {P : Pg} {st : WS} {nd nm : Nat} (h : Nx w S wb P st nd nm w1) {E : TypeId} {sz : Nat} {v : Value} {n : Nat} {cs : List Value} (hs : Sl w T E sz v n cs) (hd : ∀ k, S k → T k → False) : Sl w1 T E sz v n cs := by
  obtain ⟨S1, f1, a1, s1⟩ := h
  exact hs.fr f1 fun k a b => hd k b a
/-- Behind a turn of a part the world is whole again. -/
theorem WAt.of {w w' : World} {S : Nat → Prop} {F F' : Nat → Nat → Prop} {c' : Cfg} {wb : Nat} {P : Pg} {st : WS} {nd nm : Nat} (hS : ∀ k, S k ↔ Un F k) (hf : Fr (Un F) w w') (hn : WP H0 w' F' c' P st nd nm) (hwb : c'.wb = wb) (hU : ∀ k, Un F' k → Un F k ∨ w.heap.size ≤ k) : Nx w S wb P st nd nm w' :=
  ⟨Un F', hf.mono fun k _ q => (hS k).2 q, ⟨F', c', hn, hwb, fun k => Iff.rfl⟩, fun k q => by
    rcases hU k q with q | q
    · exact .inl ((hS k).2 q)
    · exact .inr q⟩
theorem WAt.mono {w : World} {S : Nat → Prop} {wb : Nat} {P : Pg} {st : WS} {nd nm nd' nm' : Nat} (h : WAt w S wb P st nd nm) (h1 : nd ≤ nd') (h2 : nm ≤ nm') : WAt w S wb P st nd' nm' := by
  obtain ⟨F, c, h, hw, hS⟩ := h
  exact ⟨F, c, ⟨h.lt, h.dis, h.own0, h.own1, h.blk, h.clk, h.tab, h.chs, fun n => (h.tim n).mono h2, fun n => (h.ctx n).mono h2, fun n => (h.dls n).mono h1, fun n => (h.lks n).mono h1, h.prg, h.evs, h.cas, h.pool, h.chn, h.tml, h.cxl, h.pad⟩, hw, hS⟩
theorem Nx.mono {w w' : World} {S : Nat → Prop} {wb : Nat} {P : Pg} {st : WS} {nd nm nd' nm' : Nat} (h : Nx w S wb P st nd nm w') (h1 : nd ≤ nd') (h2 : nm ≤ nm') : Nx w S wb P st nd' nm' w' := by
  obtain ⟨S', a, b, c⟩ := h; exact ⟨S', a, b.mono h1 h2, c⟩
theorem Tryz.info_event : (Tryz.prog.info? 43).map (fun i => (i.zero, i.size, i.bytes)) = some (some (.agg #[.int .i64 0, .int .i64 0, .int .i64 0, .int .i64 0, .int .i64 0, .int .i64 0]), 6, 48) := by kernel_rfl
theorem Tryz.info_deal : (Tryz.prog.info? 222).map (fun i => (i.zero, i.size, i.bytes)) = some (some (.agg #[.int .i64 0, .int .i64 0, .int .i64 0, .bool false, .int .i64 0]), 5, 40) := by kernel_rfl
theorem clock_now (w : World) (b : Nat) (now : Int) (h : w.heap[b]? = some (.cells #[inV now] 93 (0, 0))) : Calls Tryz.prog 73 #[ptV b] w fun e w' => e = .returned (inV now) ∧ w = w' := by
  have c0 := blk_cell h 0 rfl
  clear h
  go_enter Tryz.func73, Tryz.ntmps73
  go_wp2_with fail
  go_ret
  exact ⟨rfl, rfl⟩
section
variable {w : World} {S : Nat → Prop} {wb : Nat} {P : Pg} {st : WS} {nd nm : Nat} (h : WAt w S wb P st nd nm)
include h
theorem world_now : Calls Tryz.prog 52 #[ptV wb] w fun e w' => e = .returned (inV st.now) ∧ w = w' := by
  obtain ⟨F, c, h, rfl, hS⟩ := h
  have hb := h.blk id
  have hn := Lib.hid (clock_now w c.cb st.now (h.clk id))
  have c1 := blk_cell hb 1 rfl
  clear h hb
  go_enter Tryz.func52, Tryz.ntmps52
  go_wp2_with fail
  refine hn.out.mono ?_
  rintro e _ ⟨rfl, rfl⟩
  go_wp2_with fail
  go_ret
  exact ⟨rfl, rfl⟩
set_option maxHeartbeats 1000000 in
theorem world_tell (kind who a b d : Int) (hev : st.ev.length < 1000000) : Calls Tryz.prog 28 #[ptV wb, inV kind, inV who, inV a, inV b, inV d] w fun e w' => e = .returned (.tuple #[]) ∧ Nx w S wb P (st.tell kind who a b d) nd nm w' := by
  obtain ⟨F, c, h, rfl, hS⟩ := h
  have hb := h.blk id
  have hs := h.evs id
  obtain ⟨A, cp, hve⟩ := hs.slice
  have c9 := blk_cell hb 9 rfl
  have c10 := blk_cell hb 10 rfl
  have f10 := blk_froz hb 10
  rw [hve] at c10 hs
  generalize hn : st.ev.length = n at *
  have Hn := Lib.hid hn
  have lb := lt_of_block hb
  have H := Lib.hid h; have Hs := Lib.hid hs; have HS := Lib.hid hS; have Hb := Lib.hid hb
  have h90 : ¬ F 9 c.wb := fun q => absurd (h.dis _ _ _ q h.own0) (by decide)
  clear h hs hS hn hb hve
  go_enter Tryz.func28, Tryz.ntmps28
  go_wp2_with fail
  go_region_law ((refine step_append_sl _ (by rfl) _ _ _ (by rfl) (F 9) 43 _ 6 48 Tryz.underlying34 Tryz.info_event rfl (by omega) (.slice A n cp) n (evs st.ev) (by rfl) ((Hs.out.alloc _).drew) ⟨w.heap.size, 0, none⟩ 1 1 [inV (st.steps : Int), inV kind, inV who, inV a, inV b, inV d] (by rfl) (by rfl) (news_lit _ [inV (st.steps : Int), inV kind, inV who, inV a, inV b, inV d] 43 (0, 0) _ (heap_alloc_new w _)) (by rfl) (by omega) (by omega) ?_; intro v3 w3 hs3 hf3; obtain ⟨X3, c3, rfl⟩ := hs3.slice; have hb3 := hf3.blk h90 (show ((w.alloc (.cells #[inV (st.steps : Int), inV kind, inV who, inV a, inV b, inV d] 43)).drew).heap[c.wb]? = _ from (blk_alloc_ne _ lb).trans Hb.out); have d10 := blk_cell hb3 10 rfl; have g10 := blk_froz hb3 10; have Hb3 := Lib.hid hb3; have Hs3 := Lib.hid hs3; have Hf3 := Lib.hid hf3; clear hb3 hs3 hf3))
  all_goals
    go_wp2_with fail
    go_end0
    obtain ⟨W3, hW3⟩ : ∃ W3, W3 = w3.setCell ⟨c.wb, 10, none⟩ (.slice X3 (n + 1) c3) := ⟨_, rfl⟩
    rw [← hW3]
    have hf34 : Fr (fun k => k = c.wb) w3 W3 := by rw [hW3]; exact (Fr.refl _ w3).setB 10 _
    have hb4 := blk_set Hb3.out 10 (.slice X3 (n + 1) c3)
    rw [← hW3] at hb4
    have hz1 : (w.alloc (.cells #[inV (st.steps : Int), inV kind, inV who, inV a, inV b, inV d] 43)).drew.heap.size = w.heap.size + 1 := by simp
    have hz2 := Hf3.out.size; have hz3 := hf34.size
    have hfr : Fr (fun k => F 0 k ∨ F 9 k) w W3 := (((((Fr.refl Nob w).alloc _).drew).none.trans Hf3.out fun k _ q => q).mono fun k _ q => .inr q).trans hf34 fun k _ q => .inl (by rw [q]; exact H.out.own0)
    have h' := H.out.part2 0 9 hfr
    have hsub : ∀ k, (F 9 k ∨ (w.heap.size ≤ k ∧ k < W3.heap.size)) → F 9 k ∨ w.heap.size ≤ k := fun k q => q.imp id fun q => q.1
    have hs4 : Sl W3 (fun k => F 9 k ∨ (w.heap.size ≤ k ∧ k < W3.heap.size)) 43 6 (.slice X3 (n + 1) c3) (n + 1) (evs (st.tell kind who a b d).ev) := by
      have e1 : evs (st.tell kind who a b d).ev = evs st.ev ++ [inV (st.steps : Int), inV kind, inV who, inV a, inV b, inV d] := by simp [WS.tell, evs]
      rw [e1]
      refine (Hs3.out.fr hf34 fun k q e => ?_).mono fun k hk q => ?_
      · rcases q with q | q
        · exact h90 (by rw [← e]; exact q)
        · omega
      · rcases q with q | q
        · exact .inl q
        · exact .inr ⟨by omega, hk⟩
    have hlen : (st.tell kind who a b d).ev.length = n + 1 := by simp [WS.tell, Hn.out]
    refine ⟨rfl, WAt.of HS.out (hfr.mono fun k _ q => by rcases q with q | q; exact ⟨0, q⟩; exact ⟨9, q⟩) (c' := { c with ve := .slice X3 (n + 1) c3 }) (F' := Go.Proofs.YtcffplgimbbflaaGreat.upd F 9 (fun k => F 9 k ∨ (w.heap.size ≤ k ∧ k < W3.heap.size))) ⟨fam_lt H.out.lt hfr.size fun k q => by rcases q with q | q; have := H.out.lt _ _ q; omega; exact q.2, fam_dis H.out.lt H.out.dis hsub, h'.own0, h'.own1, fun _ => hb4, fun _ => h'.clk (by decide), fun _ => h'.tab (by decide), fun _ => h'.chs (by decide), fun _ => h'.tim (by decide), fun _ => h'.ctx (by decide), fun _ => h'.dls (by decide), fun _ => h'.lks (by decide), fun _ => h'.prg (by decide), fun _ => by rw [hlen]; exact hs4, fun _ => h'.cas (by decide), fun _ => h'.pool (by decide), h'.chn, h'.tml, h'.cxl, h'.pad⟩ rfl (fam_un (fun p k q => ⟨p, q⟩) hsub)⟩
end
end Go.Proofs.YtcffplgimbbflaaGreat
