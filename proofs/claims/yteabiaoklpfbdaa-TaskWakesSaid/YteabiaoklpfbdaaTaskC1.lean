/- A task that waits by cases, alone in its table: arena Get at any row, Clone of cases, Get and is of a table. -/
import Derived.Test.YteabiaoklpfbdaaTaskPut
set_option linter.unusedVariables false
set_option linter.unusedSimpArgs false
namespace Go.Proofs.Yteabiaoklpfbdaa
open Go.RowKit
set_option maxRecDepth 100000
/-- The cells of a task that waits by cases c. -/
def tkC (c : Value) (t : Nat → Int) (d : Bool) : List Value := [.int .i64 (t 0), .int .i64 (t 1), .int .i64 (t 2), .int .i64 (t 3), .int .i64 (t 4), .int .i64 (t 5), .int .i64 (t 6), .int .i64 (t 7), .int .i64 (t 8), .int .i64 (t 9), .int .i64 (t 10), .int .i64 (t 11), .int .i64 (t 12), .int .i64 (t 13), .int .i64 (t 14), .int .i64 (t 15), c, .bool d]
theorem tkC_nil (t : Nat → Int) (d : Bool) : tkC (.slice none 0 0) t d = tkD t d := rfl
theorem tkC_len (c : Value) (t : Nat → Int) (d : Bool) : (tkC c t d).length = 18 := rfl
theorem tkC_one (A : Option Addr) (n cp : Nat) (t : Nat → Int) (d : Bool) : ∀ v ∈ tkC (.slice A n cp) t d, v.oneCell' = true := by
  intro v hv
  simp only [tkC, List.mem_cons, List.not_mem_nil, or_false] at hv
  rcases hv with rfl | rfl | rfl | rfl | rfl | rfl | rfl | rfl | rfl | rfl | rfl | rfl | rfl | rfl | rfl | rfl | rfl | rfl <;> rfl
theorem tkC_all (A : Option Addr) (n cp : Nat) (t : Nat → Int) (d : Bool) : (tkC (.slice A n cp) t d).toArray.all (·.oneCell') = true := all_oneCell_toArray (tkC_one A n cp t d)
theorem infoC (c : Value) (t : Nat → Int) (d : Bool) : (Try.prog.info? 44).map (fun i => i.size) = some (tkC c t d).toArray.size := by show _ = some 18; exact info_task18
/-- A table with one task, whose cells are L. -/
structure TabL (w : World) (S : Nat → Prop) (b ab lb : Nat) (SA SL : Nat → Prop) (L : List Value) (line : List Int) : Prop where
  own : S b
  lt : ∀ k, S k → k < w.heap.size
  subA : ∀ k, SA k → S k ∧ k ≠ b
  subL : ∀ k, SL k → S k ∧ k ≠ b ∧ ¬ SA k
  blk : w.heap[b]? = some (tabObj ab lb)
  arena : ArT w SA ab 1 L
  ready : ReadyAt w SL lb line
def TableC (w : World) (S : Nat → Prop) (b : Nat) (c : Value) (t : Nat → Int) (d : Bool) (line : List Int) : Prop := ∃ (ab lb : Nat) (SA SL : Nat → Prop), TabL w S b ab lb SA SL (tkC c t d) line
section
variable {w w' : World} {S : Nat → Prop} {b ab lb : Nat} {SA SL : Nat → Prop} {L : List Value} {line : List Int}
theorem TabL.fr (h : TabL w S b ab lb SA SL L line) {F : Nat → Prop} (hf : Fr F w w') (hd : ∀ k, S k → F k → False) : TabL w' S b ab lb SA SL L line :=
  ⟨h.own, fun k q => by have := h.lt k q; have := hf.size; omega, h.subA, h.subL, hf.blk (hd _ h.own) h.blk, h.arena.fr hf fun k q => hd k (h.subA k q).1, h.ready.fr hf fun k q => hd k (h.subL k q).1⟩
theorem TabL.fr0 (h : TabL w S b ab lb SA SL L line) (hf : Fr Nob w w') : TabL w' S b ab lb SA SL L line := h.fr hf fun _ _ q => q
theorem TabL.setA (h : TabL w S b ab lb SA SL L line) (hf : Fr SA w w') {L' : List Value} (ha : ArT w' SA ab 1 L') : TabL w' S b ab lb SA SL L' line :=
  ⟨h.own, fun k q => by have := h.lt k q; have := hf.size; omega, h.subA, h.subL, hf.blk (fun q => (h.subA _ q).2 rfl) h.blk, ha, h.ready.fr hf fun k q q' => (h.subL k q).2.2 q'⟩
theorem TabL.setL (h : TabL w S b ab lb SA SL L line) (hf : Fr SL w w') {line' : List Int} (hr : ReadyAt w' SL lb line') : TabL w' S b ab lb SA SL L line' :=
  ⟨h.own, fun k q => by have := h.lt k q; have := hf.size; omega, h.subA, h.subL, hf.blk (fun q => (h.subL _ q).2.1 rfl) h.blk, h.arena.fr hf fun k q q' => (h.subL k q').2.2 q, hr⟩
theorem TabL.growL (h : TabL w S b ab lb SA SL L line) (hf : Fr SL w w') {line' : List Int} (hr : ReadyAt w' (And' SL w w') lb line') : TabL w' (And' S w w') b ab lb SA (And' SL w w') L line' := by
  refine ⟨.inl h.own, fun k q => ?_, fun k q => ⟨.inl (h.subA k q).1, (h.subA k q).2⟩, fun k q => ?_, hf.blk (fun q => (h.subL _ q).2.1 rfl) h.blk, h.arena.fr hf fun k q q' => (h.subL k q').2.2 q, hr⟩
  · rcases q with q | q
    · have := h.lt k q; have := hf.size; omega
    · exact q.2
  · rcases q with q | q
    · exact ⟨.inl (h.subL k q).1, (h.subL k q).2⟩
    · exact ⟨.inr q, fun e => by have := h.lt b h.own; omega, fun e => by have := h.lt k (h.subA k e).1; omega⟩
/-- Set of a table's only task. -/
theorem TabL.set (h : TabL w S b ab lb SA SL L line) (L' : List Value) (hl : L'.length = 18) (ho : ∀ v ∈ L', v.oneCell' = true) (hL : L.length = 18) :
    Calls Try.prog 30 #[.pointer (some ⟨ab, 0, none⟩), .int .i64 0, .agg L'.toArray] w fun e w' => e = .returned (.bool true) ∧ Fr SA w w' ∧ TabL w' S b ab lb SA SL L' line := by
  refine (arena_set w SA ab 64 1 L 0 L' hl ho h.arena (by omega)).mono ?_
  rintro e w' ⟨rfl, hf, ha⟩
  refine ⟨rfl, hf, h.setA hf ?_⟩
  have e1 : rowSet L 0 L' = L' := by unfold rowSet; rw [List.drop_of_length_le (by omega)]; simp
  rw [e1] at ha
  exact ha
end
theorem TabAt.toL {w : World} {S : Nat → Prop} {b ab lb : Nat} {SA SL : Nat → Prop} {t : Nat → Int} {d : Bool} {line : List Int} (h : TabAt w S b ab lb SA SL [(t, d)] line) : TabL w S b ab lb SA SL (tkD t d) line :=
  ⟨h.own, h.lt, h.subA, h.subL, h.blk, by have := h.arena; simpa [rowsT] using this, h.ready⟩
theorem TabL.toAt {w : World} {S : Nat → Prop} {b ab lb : Nat} {SA SL : Nat → Prop} {t : Nat → Int} {d : Bool} {line : List Int} (h : TabL w S b ab lb SA SL (tkD t d) line) : TabAt w S b ab lb SA SL [(t, d)] line :=
  ⟨h.own, h.lt, h.subA, h.subL, h.blk, by have := h.arena; simpa [rowsT] using this, h.ready⟩
theorem Try.info_case : (Try.prog.info? 53).map (fun i => (i.zero, i.size, i.bytes)) = some (some (.agg #[.bool false, .int .i64 0, .int .i64 0]), 3, 24) := by kernel_rfl
theorem cs_one (cs : List Cs) : ∀ u ∈ cs.flatMap csEn, u.oneCell' = true := by
  intro u hu
  obtain ⟨x, _, hx⟩ := List.mem_flatMap.1 hu
  simp only [csEn, List.mem_cons, List.not_mem_nil, or_false] at hx
  rcases hx with rfl | rfl | rfl <;> rfl
set_option maxHeartbeats 800000 in
theorem clone_cases (w : World) (v : Value) (cs : List Cs) (n : Nat) (hn : cs.length = n) (hn0 : 0 < n) (hb : n ≤ 1000) (h : Rd w 3 v n (cs.flatMap csEn)) :
    Calls Try.prog 29 #[v] w fun e w' => ∃ A' c', e = .returned (.slice A' n c') ∧ Fr Nob w w' ∧ Sl w' (From w.heap.size) 53 3 (.slice A' n c') n (cs.flatMap csEn) := by
  obtain ⟨hl, _, A, c, rfl, hc1, hc2, hA⟩ := h
  obtain ⟨g, o, rfl, hg, hcell⟩ := hA hn0
  have hk := fun w : World => Lib.run_eql_slice_nil (P := Try.prog) w 32 53 (some ⟨g, o, none⟩) n c 0 0 Try.underlying32
  have hnews : ∀ j u, (cs.flatMap csEn)[j]? = some u → (w.alloc (.cells #[] 53)).cell? ((⟨g, o, none⟩ : Addr).add j) = some u := fun j u hj => by
    rw [Addr.add_lit]
    exact ((Fr.refl Nob w).alloc _).cell (p := ⟨g, o + j, none⟩) id (hcell j u hj)
  have h0 : Sl (w.alloc (.cells #[] 53)) (From w.heap.size) 53 3 (.slice (some ⟨w.heap.size, 0, none⟩) 0 0) 0 [] :=
    Sl.lit w 53 3 #[] 0 (From w.heap.size) (by simp [From]) (by simp [maxLen]) rfl
  have Hnews := Lib.hid hnews; have H0 := Lib.hid h0; have Hl := Lib.hid hl
  clear hnews h0 hl hA hcell
  go_enter Try.func29, Try.ntmps29
  go_wp2_with (at_builtin; refine wpList_append_sl _ rfl _ _ _ rfl (From w.heap.size) 53 _ 3 24 Try.underlying32 Try.info_case rfl (by omega) (.slice (some ⟨w.heap.size, 0, none⟩) 0 0) 0 [] rfl H0.out ⟨g, o, none⟩ n c (cs.flatMap csEn) rfl Hl.out Hnews.out (cs_one cs) (by unfold maxLen; omega) (by omega) ?_; intro v1 w1 hs1 hf1)
  obtain ⟨A1, c1, rfl⟩ := hs1.slice
  go_ret
  have hz := hf1.size
  simp at hz
  refine ⟨A1, c1, by simp, (((Fr.refl Nob w).alloc (.cells #[] 53)).none.trans0 hf1).mono fun k hk q => by unfold From at q; omega, ?_⟩
  rw [Nat.zero_add] at hs1
  exact hs1.mono fun k hk q => by rcases q with q | q; exact q; simp at q; unfold From; omega
section
variable {w : World} {b : Nat} {t : Nat → Int} {d : Bool} {A : Option Addr} {n cp : Nat} (h : w.heap[b]? = some (.cells (tkC (.slice A n cp) t d).toArray 44 (0, 0)))
include h
theorem kp0 (x : Int) : (w.setCell ⟨b, 0, none⟩ (.int .i64 x)).heap[b]? = some (.cells (tkC (.slice A n cp) (updT t 0 x) d).toArray 44 (0, 0)) := blk_set h 0 _
theorem kc0 : w.cell? ⟨b, 0, none⟩ = some (.int .i64 (t 0)) := blk_cell h 0 rfl
theorem kp1 (x : Int) : (w.setCell ⟨b, 1, none⟩ (.int .i64 x)).heap[b]? = some (.cells (tkC (.slice A n cp) (updT t 1 x) d).toArray 44 (0, 0)) := blk_set h 1 _
theorem kc1 : w.cell? ⟨b, 1, none⟩ = some (.int .i64 (t 1)) := blk_cell h 1 rfl
theorem kp2 (x : Int) : (w.setCell ⟨b, 2, none⟩ (.int .i64 x)).heap[b]? = some (.cells (tkC (.slice A n cp) (updT t 2 x) d).toArray 44 (0, 0)) := blk_set h 2 _
theorem kc2 : w.cell? ⟨b, 2, none⟩ = some (.int .i64 (t 2)) := blk_cell h 2 rfl
theorem kp3 (x : Int) : (w.setCell ⟨b, 3, none⟩ (.int .i64 x)).heap[b]? = some (.cells (tkC (.slice A n cp) (updT t 3 x) d).toArray 44 (0, 0)) := blk_set h 3 _
theorem kc3 : w.cell? ⟨b, 3, none⟩ = some (.int .i64 (t 3)) := blk_cell h 3 rfl
theorem kp4 (x : Int) : (w.setCell ⟨b, 4, none⟩ (.int .i64 x)).heap[b]? = some (.cells (tkC (.slice A n cp) (updT t 4 x) d).toArray 44 (0, 0)) := blk_set h 4 _
theorem kc4 : w.cell? ⟨b, 4, none⟩ = some (.int .i64 (t 4)) := blk_cell h 4 rfl
theorem kp5 (x : Int) : (w.setCell ⟨b, 5, none⟩ (.int .i64 x)).heap[b]? = some (.cells (tkC (.slice A n cp) (updT t 5 x) d).toArray 44 (0, 0)) := blk_set h 5 _
theorem kc5 : w.cell? ⟨b, 5, none⟩ = some (.int .i64 (t 5)) := blk_cell h 5 rfl
theorem kp6 (x : Int) : (w.setCell ⟨b, 6, none⟩ (.int .i64 x)).heap[b]? = some (.cells (tkC (.slice A n cp) (updT t 6 x) d).toArray 44 (0, 0)) := blk_set h 6 _
theorem kc6 : w.cell? ⟨b, 6, none⟩ = some (.int .i64 (t 6)) := blk_cell h 6 rfl
theorem kp7 (x : Int) : (w.setCell ⟨b, 7, none⟩ (.int .i64 x)).heap[b]? = some (.cells (tkC (.slice A n cp) (updT t 7 x) d).toArray 44 (0, 0)) := blk_set h 7 _
theorem kc7 : w.cell? ⟨b, 7, none⟩ = some (.int .i64 (t 7)) := blk_cell h 7 rfl
theorem kp8 (x : Int) : (w.setCell ⟨b, 8, none⟩ (.int .i64 x)).heap[b]? = some (.cells (tkC (.slice A n cp) (updT t 8 x) d).toArray 44 (0, 0)) := blk_set h 8 _
theorem kc8 : w.cell? ⟨b, 8, none⟩ = some (.int .i64 (t 8)) := blk_cell h 8 rfl
theorem kp9 (x : Int) : (w.setCell ⟨b, 9, none⟩ (.int .i64 x)).heap[b]? = some (.cells (tkC (.slice A n cp) (updT t 9 x) d).toArray 44 (0, 0)) := blk_set h 9 _
theorem kc9 : w.cell? ⟨b, 9, none⟩ = some (.int .i64 (t 9)) := blk_cell h 9 rfl
theorem kp10 (x : Int) : (w.setCell ⟨b, 10, none⟩ (.int .i64 x)).heap[b]? = some (.cells (tkC (.slice A n cp) (updT t 10 x) d).toArray 44 (0, 0)) := blk_set h 10 _
theorem kc10 : w.cell? ⟨b, 10, none⟩ = some (.int .i64 (t 10)) := blk_cell h 10 rfl
theorem kp11 (x : Int) : (w.setCell ⟨b, 11, none⟩ (.int .i64 x)).heap[b]? = some (.cells (tkC (.slice A n cp) (updT t 11 x) d).toArray 44 (0, 0)) := blk_set h 11 _
theorem kc11 : w.cell? ⟨b, 11, none⟩ = some (.int .i64 (t 11)) := blk_cell h 11 rfl
theorem kp12 (x : Int) : (w.setCell ⟨b, 12, none⟩ (.int .i64 x)).heap[b]? = some (.cells (tkC (.slice A n cp) (updT t 12 x) d).toArray 44 (0, 0)) := blk_set h 12 _
theorem kc12 : w.cell? ⟨b, 12, none⟩ = some (.int .i64 (t 12)) := blk_cell h 12 rfl
theorem kp13 (x : Int) : (w.setCell ⟨b, 13, none⟩ (.int .i64 x)).heap[b]? = some (.cells (tkC (.slice A n cp) (updT t 13 x) d).toArray 44 (0, 0)) := blk_set h 13 _
theorem kc13 : w.cell? ⟨b, 13, none⟩ = some (.int .i64 (t 13)) := blk_cell h 13 rfl
theorem kp14 (x : Int) : (w.setCell ⟨b, 14, none⟩ (.int .i64 x)).heap[b]? = some (.cells (tkC (.slice A n cp) (updT t 14 x) d).toArray 44 (0, 0)) := blk_set h 14 _
theorem kc14 : w.cell? ⟨b, 14, none⟩ = some (.int .i64 (t 14)) := blk_cell h 14 rfl
theorem kp15 (x : Int) : (w.setCell ⟨b, 15, none⟩ (.int .i64 x)).heap[b]? = some (.cells (tkC (.slice A n cp) (updT t 15 x) d).toArray 44 (0, 0)) := blk_set h 15 _
theorem kc15 : w.cell? ⟨b, 15, none⟩ = some (.int .i64 (t 15)) := blk_cell h 15 rfl
theorem kp16 (A' : Option Addr) (n' cp' : Nat) : (w.setCell ⟨b, 16, none⟩ (.slice A' n' cp')).heap[b]? = some (.cells (tkC (.slice A' n' cp') t d).toArray 44 (0, 0)) := blk_set h 16 _
theorem kp17 (x : Bool) : (w.setCell ⟨b, 17, none⟩ (.bool x)).heap[b]? = some (.cells (tkC (.slice A n cp) t x).toArray 44 (0, 0)) := blk_set h 17 _
theorem kc16 : w.cell? ⟨b, 16, none⟩ = some (.slice A n cp) := blk_cell h 16 rfl
theorem kc17 : w.cell? ⟨b, 17, none⟩ = some (.bool d) := blk_cell h 17 rfl
theorem kf (o : Nat) : w.frozen? ⟨b, o, none⟩ = false := blk_froz h o
theorem kcR (y : Nat) (hy : y < 8) : w.cell? ⟨b, 4 + y, none⟩ = some (.int .i64 (t (4 + y))) := by
  have : y = 0 ∨ y = 1 ∨ y = 2 ∨ y = 3 ∨ y = 4 ∨ y = 5 ∨ y = 6 ∨ y = 7 := by omega
  rcases this with rfl | rfl | rfl | rfl | rfl | rfl | rfl | rfl
  · exact kc4 h
  · exact kc5 h
  · exact kc6 h
  · exact kc7 h
  · exact kc8 h
  · exact kc9 h
  · exact kc10 h
  · exact kc11 h
theorem kpR (y : Nat) (hy : y < 8) (x : Int) : (w.setCell ⟨b, 4 + y, none⟩ (.int .i64 x)).heap[b]? = some (.cells (tkC (.slice A n cp) (updT t (4 + y) x) d).toArray 44 (0, 0)) := by
  have : y = 0 ∨ y = 1 ∨ y = 2 ∨ y = 3 ∨ y = 4 ∨ y = 5 ∨ y = 6 ∨ y = 7 := by omega
  rcases this with rfl | rfl | rfl | rfl | rfl | rfl | rfl | rfl
  · exact kp4 h x
  · exact kp5 h x
  · exact kp6 h x
  · exact kp7 h x
  · exact kp8 h x
  · exact kp9 h x
  · exact kp10 h x
  · exact kp11 h x
end
set_option maxHeartbeats 1000000 in
theorem arena_getL (w : World) (S : Nat → Prop) (b most n : Nat) (cs : List Value) (i : Nat) (L : List Value) (hLl : L.length = 18) (hLo : ∀ v ∈ L, v.oneCell' = true) (h : ArenaAt 76 44 18 w S b most n cs) (hi : i < n) (hx : ∀ j, j < 18 → cs[i * 18 + j]? = L[j]?) :
    Calls Try.prog 36 #[.pointer (some ⟨b, 0, none⟩), .int .i64 (i : Int)] w fun e w' => e = .returned (.tuple #[.agg L.toArray, .bool true]) ∧ Fr Nob w w' := by
  have hl := fun w' (hf : Fr Nob w w') => arena_len w' S b most n cs (h.fr hf fun _ _ q => q)
  have Hl := Lib.hid hl
  obtain ⟨v, hS, hb, hs, hn, hm⟩ := h
  obtain ⟨g, off, c, rfl, _, hg, hc1, hc2, hc, _⟩ := hs.form (by omega)
  have hr : ∀ W, Fr Nob w W → W.rangeAt g (off + i * 18) L := fun W hW j u hj => by
    have hj18 : j < 18 := by have := (List.getElem?_eq_some_iff.1 hj).1; rwa [hLl] at this
    rw [Nat.add_assoc]
    exact hW.cell (p := ⟨g, off + (i * 18 + j), none⟩) id (hc _ _ ((hx j hj18).trans hj))
  unfold maxLen at hc2
  have h0 : ¬ (i : Int) < 0 := by omega
  have h1 : ¬ (n : Int) ≤ i := by omega
  have Hb := Lib.hid hb; have Hr := Lib.hid hr
  have Hone := Lib.hid (all_oneCell_toArray hLo)
  have Hlen := Lib.hid hLl
  clear hl hb hs hc hx hr hLl hLo
  go_enter Try.func36, Try.ntmps36
  go_wp2_with fail
  obtain ⟨w1, hw1⟩ : ∃ w1, w1 = w.alloc (.cells tkZ.toArray 44) := ⟨_, rfl⟩
  have hw1' := hw1
  unfold tkZ at hw1'
  dsimp only [tkL] at hw1'
  rw [← hw1']
  clear hw1'
  obtain ⟨rb, hrb⟩ : ∃ rb, rb = w.heap.size := ⟨_, rfl⟩
  rw [← hrb]
  have hf1 : Fr Nob w w1 := by rw [hw1]; exact (Fr.refl Nob w).alloc _
  have hb1 : w1.heap[rb]? = some (.cells tkZ.toArray 44 (0, 0)) := by rw [hw1, hrb]; exact heap_alloc_new _ _
  have Hz1 : Hid (w.heap.size = rb) := hrb.symm
  clear hw1 hrb
  refine (Hl.out _ hf1).mono ?_
  rintro e wx ⟨rfl, hwx⟩
  obtain rfl : w1 = wx := hwx
  have c0 := blk_cell (hf1.blk id Hb.out) 0 rfl
  have Hf1 := Lib.hid hf1; have Hb1 := Lib.hid hb1
  clear hf1 hb1
  go_wp2_with (first | (refine wpList_load_mid rfl 44 (.tmp 21) rfl g (off + i * 18) rfl L _ (Hr.out w1 Hf1.out) Try.underlying44 rfl (by rw [info_task18, Hlen.out]) ?_) | (refine wpList_store_mid rfl 44 (.tmp 4) (.tmp 22) rfl rb 0 L.toArray rfl rfl (thereRow Hb1.out _ (by rw [List.size_toArray, Hlen.out]; exact Nat.le_refl _)) (by rw [info_task18, List.size_toArray, Hlen.out]) Hone.out ?_))
  have hb2 := setRow w1 rb L.toArray tkZ.toArray 44 Hb1.out (by rw [List.size_toArray, List.size_toArray, Hlen.out]; rfl)
  have hf2 : Fr (fun k => k = rb) w1 (w1.setCells rb 0 L) := setCells_fr rb L 0 w1
  refine bodyPost_ret (res_row2 Try.results36 _ _ rb 44 L.toArray (0, 0) _ (.bool true) rfl rfl hb2 Try.underlying44 rfl (by rw [info_task18, List.size_toArray, Hlen.out])) rfl ⟨rfl, Hf1.out.trans hf2 fun k hk e => by have := Hz1.out; omega⟩
set_option maxHeartbeats 2000000 in
theorem task_getC {w : World} {S : Nat → Prop} {b : Nat} {t : Nat → Int} {d : Bool} {line : List Int} {c : Value} (h : TableC w S b c t d line) (cs : List Cs) (n : Nat) (hn : cs.length = n) (hn0 : 0 < n) (hnb : n ≤ 1000) (hr : Rd w 3 c n (cs.flatMap csEn)) :
    Calls Try.prog 18 #[.pointer (some ⟨b, 0, none⟩), .int .i64 0] w fun e w' => ∃ c', e = .returned (.tuple #[.agg (tkC c' t d).toArray, .bool true]) ∧ Fr Nob w w' ∧ Sl w' (From w.heap.size) 53 3 c' n (cs.flatMap csEn) := by
  obtain ⟨ab, lb, SA, SL, h⟩ := h
  obtain ⟨A0, cp0, rfl⟩ : ∃ A0 cp0, c = .slice A0 n cp0 := by obtain ⟨_, _, A, cp, e, _⟩ := id hr; exact ⟨A, cp, e⟩
  have hg := fun W (hW : Fr Nob w W) => arena_getL W SA ab 64 1 (tkC (.slice A0 n cp0) t d) 0 (tkC (.slice A0 n cp0) t d) (tkC_len _ t d) (tkC_one _ _ _ t d) (h.fr0 hW).arena (by omega) (fun j hj => by rw [Nat.zero_mul, Nat.zero_add])
  have hb := h.blk
  have Hg := Lib.hid hg; have Hb := Lib.hid hb; have Hcl := Lib.hid (fun W (hW : Fr Nob w W) => clone_cases W (.slice A0 n cp0) cs n hn hn0 hnb (hr.fr hW))
  clear hg h hb hr hn hn0 hnb
  go_enter Try.func18, Try.ntmps18
  have c00 := ((Fr.refl Nob w).alloc (.cells tkZ.toArray 44)).cell id (blk_cell Hb.out 0 rfl)
  unfold tkZ at c00
  dsimp only [tkL] at c00
  go_wp2_with fail
  obtain ⟨w1, hw1⟩ : ∃ w1, w1 = w.alloc (.cells tkZ.toArray 44) := ⟨_, rfl⟩
  have hw1' := hw1
  unfold tkZ at hw1'
  dsimp only [tkL] at hw1'
  rw [← hw1']
  clear hw1' c00
  obtain ⟨rb, hrb⟩ : ∃ rb, rb = w.heap.size := ⟨_, rfl⟩
  rw [← hrb]
  have hf1 : Fr Nob w w1 := by rw [hw1]; exact (Fr.refl Nob w).alloc _
  have hb1 : w1.heap[rb]? = some (.cells tkZ.toArray 44 (0, 0)) := by rw [hw1, hrb]; exact heap_alloc_new _ _
  have Hz1 : Hid (w.heap.size = rb ∧ rb < w1.heap.size) := ⟨hrb.symm, lt_of_block hb1⟩
  have Hf1 := Lib.hid hf1; have Hb1 := Lib.hid hb1
  clear hw1 hrb hf1 hb1
  have H0 := Lib.hid (Fr.refl Nob w)
  refine (Hg.out w1 Hf1.out).mono ?_
  rintro e w2 ⟨rfl, hf2⟩
  have Hb2 := Lib.hid (hf2.blk id Hb1.out); have Hf2 := Lib.hid (Hf1.out.trans0 hf2); have Hz2 := Lib.hid hf2.size
  clear hf2
  have hzn : (w2.alloc (.cells tkZ.toArray 44)).heap[w2.heap.size]? = some (.cells tkZ.toArray 44 (0, 0)) := heap_alloc_new _ _
  unfold tkZ at hzn
  dsimp only [tkL] at hzn
  go_wp2_with (refine wpList_store_row _ rfl 44 (.tmp 6) (.tmp 18) rfl w2.heap.size (tkC (.slice A0 n cp0) t d).toArray _ 44 rfl rfl hzn rfl (infoC _ t d) (tkC_all _ _ _ t d) ?_; intro w3 hb3 hf3; have c16 : w3.cell? ⟨w2.heap.size, 16, none⟩ = some (.slice A0 n cp0) := blk_cell hb3 16 rfl; have f16 := blk_froz hb3 16; have Hb3 := Lib.hid hb3; have Hf3 := Lib.hid hf3; clear hb3 hf3)
  obtain ⟨tb, htb⟩ : ∃ tb, tb = w2.heap.size := ⟨_, rfl⟩
  rw [← htb] at Hb3 Hf3 c16 f16 ⊢
  have Htb : Hid (w2.heap.size = tb) := htb.symm
  have hf23 : Fr Nob w2 w3 := ((Fr.refl Nob w2).alloc _).trans Hf3.out fun k hk e => by have := Htb.out; omega
  refine (Hcl.out w3 (Hf2.out.trans0 hf23)).mono ?_
  rintro e w4 ⟨A1, c1, rfl, hf4, hs4⟩
  have Hs4 := Lib.hid hs4; have Hf4 := Lib.hid hf4
  have c16' : w4.cell? ⟨tb, 16, none⟩ = some (.slice A0 n cp0) := hf4.cell id c16
  have f16' : w4.frozen? ⟨tb, 16, none⟩ = false := blk_froz (hf4.blk id Hb3.out) 16
  clear hs4 c16 f16 hf4
  have hrt : rb ≠ tb := by have := Htb.out; have := Hz1.out; have := Hz2.out; omega
  have hb4 : (w4.setCell ⟨tb, 16, none⟩ (.slice A1 n c1)).heap[tb]? = some (.cells (tkC (.slice A1 n c1) t d).toArray 44 (0, 0)) := blk_set (Hf4.out.blk id Hb3.out) 16 _
  have hr4 : (w4.setCell ⟨tb, 16, none⟩ (.slice A1 n c1)).heap[rb]? = some (.cells tkZ.toArray 44 (0, 0)) := (blk_set_ne 16 _ hrt).trans ((hf23.trans0 Hf4.out).blk id Hb2.out)
  have Hb4 := Lib.hid hb4; have Hr4 := Lib.hid hr4; have Hf23 := Lib.hid hf23; have Hrt := Lib.hid hrt
  clear hb4 hr4 hf23 hrt htb
  go_wp2_with (first | (refine wpList_load_row rfl 44 (.tmp 6) rfl tb rfl 44 (tkC (.slice A1 n c1) t d).toArray (0, 0) _ Hb4.out Try.underlying44 rfl (infoC _ t d) ?_) | (refine wpList_store_row _ rfl 44 (.tmp 4) (.tmp 26) rfl rb (tkC (.slice A1 n c1) t d).toArray _ 44 rfl rfl Hr4.out rfl (infoC _ t d) (tkC_all _ _ _ t d) ?_; intro w5 hb5 hf5; have Hb5 := Lib.hid hb5; have Hf5 := Lib.hid hf5; clear hb5 hf5))
  refine bodyPost_ret (res_row2 Try.results18 _ _ rb 44 (tkC (.slice A1 n c1) t d).toArray (0, 0) _ (.bool true) rfl rfl Hb5.out Try.underlying44 rfl (infoC _ t d)) rfl ⟨_, rfl, ?_, ?_⟩
  · have e1 : Fr Nob w2 (w4.setCell ⟨tb, 16, none⟩ (.slice A1 n c1)) := (Hf23.out.trans0 Hf4.out).trans (((Fr.refl (fun k => k = tb) w4)).setT 16 _) fun k hk e => by have := Htb.out; omega
    exact (Hf2.out.trans0 e1).trans Hf5.out fun k hk e => by have := Hz1.out; omega
  · have hs5 := Hs4.out.fr (((Fr.refl (fun k => k = tb) w4)).setT 16 (.slice A1 n c1)) fun k q e => by have := Htb.out; have := Hf23.out.size; have := q; unfold From at this; have := lt_of_block Hb3.out; omega
    exact (hs5.fr Hf5.out fun k q e => by have := Hz1.out; have := Hz2.out; have := Htb.out; have := lt_of_block Hb3.out; unfold From at q; omega).mono fun k hk q => by have := Hf2.out.size; have := Hf23.out.size; unfold From at q ⊢; omega
set_option maxHeartbeats 2000000 in
theorem is_wakesC {w : World} {S : Nat → Prop} {b : Nat} {t : Nat → Int} {d : Bool} {line : List Int} {c : Value} (h : TableC w S b c t d line) (cs : List Cs) (n : Nat) (hn : cs.length = n) (hn0 : 0 < n) (hnb : n ≤ 1000) (hr : Rd w 3 c n (cs.flatMap csEn)) (p : Bool) (hF : ∀ W, Calls Try.prog 32 #[.int .i64 (t 2)] W fun e w' => e = .returned (.bool p) ∧ W = w') (er : Int) (her : er = if p then 0 else 8) :
    Calls Try.prog 26 #[.pointer (some ⟨b, 0, none⟩), .int .i64 0, .func (.func 32) #[] #[]] w fun e w' => ∃ A' cp', e = .returned (.tuple #[.agg (tkC (.slice A' n cp') t d).toArray, .int .i64 er]) ∧ Fr Nob w w' ∧ Sl w' (From w.heap.size) 53 3 (.slice A' n cp') n (cs.flatMap csEn) := by
  have hg := fun W (hW : Fr Nob w W) => task_getC (w := W) (S := S) (b := b) (line := line) (by obtain ⟨ab, lb, SA, SL, h⟩ := h; exact ⟨ab, lb, SA, SL, h.fr0 hW⟩) cs n hn hn0 hnb (hr.fr hW)
  have Hg := Lib.hid hg; have HF := Lib.hid hF
  clear hg h hF hr hn hn0 hnb
  go_enter Try.func26, Try.ntmps26
  go_wp2_with fail
  obtain ⟨w1, hw1⟩ : ∃ w1, w1 = w.alloc (.cells tkZ.toArray 44) := ⟨_, rfl⟩
  have hw1' := hw1
  unfold tkZ at hw1'
  dsimp only [tkL] at hw1'
  rw [← hw1']
  clear hw1'
  obtain ⟨rb, hrb⟩ : ∃ rb, rb = w.heap.size := ⟨_, rfl⟩
  rw [← hrb]
  have hf1 : Fr Nob w w1 := by rw [hw1]; exact (Fr.refl Nob w).alloc _
  have hb1 : w1.heap[rb]? = some (.cells tkZ.toArray 44 (0, 0)) := by rw [hw1, hrb]; exact heap_alloc_new _ _
  have Hz1 : Hid (w.heap.size = rb ∧ rb < w1.heap.size) := ⟨hrb.symm, lt_of_block hb1⟩
  have Hf1 := Lib.hid hf1; have Hb1 := Lib.hid hb1
  clear hw1 hrb hf1 hb1
  refine (Hg.out w1 Hf1.out).mono ?_
  rintro e w2 ⟨c', rfl, hf2, hr2⟩
  obtain ⟨A1, c1, rfl⟩ : ∃ A0 cp0, c' = .slice A0 n cp0 := by exact hr2.slice
  have Hr2 := Lib.hid hr2
  clear hr2
  have Hb2 := Lib.hid (hf2.blk id Hb1.out); have Hf2 := Lib.hid (Hf1.out.trans0 hf2); have Hz2 := Lib.hid hf2.size
  clear hf2
  have hzn : (w2.alloc (.cells tkZ.toArray 44)).heap[w2.heap.size]? = some (.cells tkZ.toArray 44 (0, 0)) := heap_alloc_new _ _
  unfold tkZ at hzn
  dsimp only [tkL] at hzn
  go_wp2_with (refine wpList_store_row _ rfl 44 (.tmp 8) (.tmp 14) rfl w2.heap.size (tkC (.slice A1 n c1) t d).toArray _ 44 rfl rfl hzn rfl (infoC _ t d) (tkC_all _ _ _ t d) ?_; intro w3 hb3 hf3; have c2 : w3.cell? ⟨w2.heap.size, 2, none⟩ = some (.int .i64 (t 2)) := blk_cell hb3 2 rfl; have Hb3 := Lib.hid hb3; have Hf3 := Lib.hid hf3; clear hb3 hf3)
  clear hzn
  obtain ⟨tb, htb⟩ : ∃ tb, tb = w2.heap.size := ⟨_, rfl⟩
  rw [← htb] at Hb3 Hf3 c2 ⊢
  have Htb : Hid (w2.heap.size = tb) := htb.symm
  have hf23 : Fr Nob w2 w3 := ((Fr.refl Nob w2).alloc _).trans Hf3.out fun k hk e => by have := Htb.out; omega
  have Hr3 := Lib.hid (hf23.blk id Hb2.out)
  have Hf23 := Lib.hid hf23
  clear hf23 htb
  refine (HF.out w3).mono ?_
  rintro e _ ⟨rfl, rfl⟩
  clear c2
  cases p with
  | true =>
    obtain rfl : er = 0 := by rw [her]; rfl
    clear her
    go_wp2_with (first | (refine wpList_load_row rfl 44 (.tmp 8) rfl tb rfl 44 (tkC (.slice A1 n c1) t d).toArray (0, 0) _ Hb3.out Try.underlying44 rfl (infoC _ t d) ?_) | (refine wpList_store_row _ rfl 44 (.tmp 6) (.tmp 27) rfl rb (tkC (.slice A1 n c1) t d).toArray _ 44 rfl rfl Hr3.out rfl (infoC _ t d) (tkC_all _ _ _ t d) ?_; intro w5 hb5 hf5; have Hb5 := Lib.hid hb5; have Hf5 := Lib.hid hf5; clear hb5 hf5))
    refine bodyPost_ret (res_row2 Try.results26 _ _ rb 44 (tkC (.slice A1 n c1) t d).toArray (0, 0) _ (.int .i64 0) rfl rfl Hb5.out Try.underlying44 rfl (infoC _ t d)) rfl ⟨_, _, rfl, ?_, ?_⟩
    · exact (Hf2.out.trans0 Hf23.out).trans Hf5.out fun k hk e => by have := Hz1.out; omega
    · exact ((Hr2.out.fr Hf23.out fun _ _ q => q).fr Hf5.out fun k q e => by have := Hz1.out; unfold From at q; omega).mono fun k hk q => by have := Hf1.out.size; unfold From at q ⊢; omega
  | false =>
    obtain rfl : er = 8 := by rw [her]; rfl
    clear her
    go_wp2_with (first | (refine wpList_load_row rfl 44 (.tmp 8) rfl tb rfl 44 (tkC (.slice A1 n c1) t d).toArray (0, 0) _ Hb3.out Try.underlying44 rfl (infoC _ t d) ?_) | (refine wpList_store_row _ rfl 44 (.tmp 6) (.tmp 26) rfl rb (tkC (.slice A1 n c1) t d).toArray _ 44 rfl rfl Hr3.out rfl (infoC _ t d) (tkC_all _ _ _ t d) ?_; intro w5 hb5 hf5; have Hb5 := Lib.hid hb5; have Hf5 := Lib.hid hf5; clear hb5 hf5))
    refine bodyPost_ret (res_row2 Try.results26 _ _ rb 44 (tkC (.slice A1 n c1) t d).toArray (0, 0) _ (.int .i64 8) rfl rfl Hb5.out Try.underlying44 rfl (infoC _ t d)) rfl ⟨_, _, rfl, ?_, ?_⟩
    · exact (Hf2.out.trans0 Hf23.out).trans Hf5.out fun k hk e => by have := Hz1.out; omega
    · exact ((Hr2.out.fr Hf23.out fun _ _ q => q).fr Hf5.out fun k q e => by have := Hz1.out; unfold From at q; omega).mono fun k hk q => by have := Hf1.out.size; unfold From at q ⊢; omega
end Go.Proofs.Yteabiaoklpfbdaa
