/- Plain words for FairPlayed: who is picked how often, and what is laid so far. -/
import Derived.Test.YtaghnlmfhfbhhaaOpen
import Derived.Test.YtaghnlmfhfbhhaaFairRef
import Derived.Test.YtaghnlmfhfbhhaaFairLaw
import Derived.Test.YtaghnlmfhfbhhaaFairAwake
import Derived.Test.YtaghnlmfhfbhhaaAlike
import Derived.IntWalk
import Derived.Laws.OwnMore
set_option linter.unusedVariables false
set_option linter.unusedSimpArgs false
namespace Go.Proofs.Ytaghnlmfhfbhhaa
open Go.RowKit
set_option maxRecDepth 100000

theorem Sl.made (w : World) (T : TypeId) (z : Value) (n : Nat) (S : Nat → Prop) (hS : S w.heap.size) (hn : n ≤ maxLen) :
    Sl (w.alloc (.cells (madeCells #[z] n) T)) S T 1 (.slice (some ⟨w.heap.size, 0, none⟩) n n) n (List.replicate n z) := by
  have := Sl.lit w T 1 (madeCells #[z] n) n S hS hn (by rw [size_madeCells]; omega)
  rwa [toList_madeCells_one] at this
def lefts (N k : Nat) : List Int := (List.range N).map fun j => if j < k then 2 + (j : Int) else 0
theorem lefts_len (N k : Nat) : (lefts N k).length = N := by simp [lefts]
theorem lefts_set (N k : Nat) (h : k < N) : (lefts N k).set k (2 + (k : Int)) = lefts N (k + 1) := by
  apply List.ext_getElem
  · simp [lefts]
  · intro i h1 h2
    simp only [lefts, List.getElem_set, List.getElem_map, List.getElem_range]
    by_cases hk : k = i
    · subst hk; simp
    · rw [if_neg hk]
      by_cases hi : i < k
      · rw [if_pos hi, if_pos (by omega)]
      · rw [if_neg hi, if_neg (by omega)]
theorem lefts_zero (N : Nat) : ints (lefts N 0) = List.replicate N (Value.int .i64 0) := by
  apply List.ext_getElem
  · simp [lefts]
  · intro i h1 h2; simp [lefts]
theorem lefts_get (N j : Nat) (h : j < N) : (lefts N N).getD j 0 = 2 + (j : Int) := by simp [lefts, List.getD, h]
def onL (l : List Int) (k : Nat) : List Int := ((List.range k).filter fun t => decide (0 < l.getD t 0)).map fun (t : Nat) => (t : Int)
theorem onL_snoc (l : List Int) (k : Nat) : onL l (k + 1) = if 0 < l.getD k 0 then onL l k ++ [(k : Int)] else onL l k := by
  unfold onL
  rw [List.range_succ, List.filter_append, List.map_append]
  split
  · next h => rw [List.filter_cons_of_pos (by simpa using h)]; simp
  · next h => rw [List.filter_cons_of_neg (by simpa using h)]; simp
theorem onL_mem (l : List Int) (k : Nat) (x : Int) (h : x ∈ onL l k) : ∃ t : Nat, t < k ∧ x = t ∧ 0 < l.getD t 0 := by
  obtain ⟨t, ht, rfl⟩ := List.mem_map.1 h
  rw [List.mem_filter] at ht
  exact ⟨t, List.mem_range.1 ht.1, rfl, by simpa using ht.2⟩
theorem onL_len (l : List Int) (k : Nat) : (onL l k).length ≤ k := by
  unfold onL
  rw [List.length_map]
  exact Nat.le_trans (List.length_filter_le _ _) (by simp)
theorem picked_snoc (L : List Lk) (x : Lk) (t : Int) : pickedN (L ++ [x]) t = pickedN L t + if x.2 = t then 1 else 0 := by
  unfold pickedN; rw [List.filter_append, List.length_append]; split
  · next h => simp [h]
  · next h => simp [h]
theorem picked_ready (L : List Lk) (t : Int) (ht : 0 ≤ t) (h : ∀ x ∈ L, x.2 = -1 ∨ x.2 ∈ x.1) : pickedN L t ≤ readyN L t := by
  unfold pickedN readyN
  induction L with
  | nil => exact Nat.le_refl _
  | cons x L ih =>
    have ih := ih fun y hy => h y (List.mem_cons_of_mem _ hy)
    have hx := h x (List.mem_cons_self ..)
    rw [List.filter_cons, List.filter_cons]
    by_cases h1 : x.2 = t
    · have h2 : t ∈ x.1 := by rcases hx with h | h; omega; rw [← h1]; exact h
      simp only [h1, h2, decide_true, if_true, List.length_cons]; omega
    · simp only [h1, decide_false, Bool.false_eq_true, if_false]
      split
      · simp only [List.length_cons]; omega
      · exact ih
def cntN (L : List Lk) (k : Nat) : Nat := (L.filter fun x => decide (0 ≤ x.2 ∧ x.2 < (k : Int))).length
theorem cntN_zero (L : List Lk) : cntN L 0 = 0 := by
  unfold cntN; rw [List.length_eq_zero_iff, List.filter_eq_nil_iff]; intro x _; simp
theorem cntN_le (L : List Lk) (k : Nat) : cntN L k ≤ L.length := List.length_filter_le _ _
theorem cntN_succ (L : List Lk) (k : Nat) : cntN L (k + 1) = cntN L k + pickedN L k := by
  unfold cntN pickedN
  induction L with
  | nil => rfl
  | cons x L ih =>
    rw [List.filter_cons, List.filter_cons, List.filter_cons]
    by_cases h1 : x.2 = (k : Int)
    · rw [if_pos (by simp; omega), if_neg (by simp; omega), if_pos (by simp [h1])]; simp only [List.length_cons]; omega
    · by_cases h2 : 0 ≤ x.2 ∧ x.2 < (k : Int)
      · rw [if_pos (by simp; omega), if_pos (by simp; omega), if_neg (by simp [h1])]; simp only [List.length_cons]; omega
      · rw [if_neg (by simp; omega), if_neg (by simp; omega), if_neg (by simp [h1])]; exact ih
theorem info_look : (Try.prog.info? 74).map (fun i => (i.zero, i.size, i.bytes)) = some (some (.agg #[.slice none 0 0, .int .i64 0]), 2, 32) := by kernel_rfl
theorem info_int3 : (Try.prog.info? 3).map (fun i => (i.zero, i.size, i.bytes)) = some (some (.int .i64 0), 1, 8) := by kernel_rfl

set_option maxHeartbeats 1000000 in
theorem fairPlayed_bad (n : Int) (v : Value) (l : List Int) (k : Int) (w : World) (h : IsInts w v l) (hb : n < 0 ∨ 5 < n ∨ 40 < l.length ∨ k < 1 ∨ 60 < k) :
    Calls Try.prog 12 #[.int .i64 n, v, .int .i64 k] w fun e w' => e = .returned (.bool true) ∧ Below w.heap.size w w' := by
  obtain ⟨⟨_, hl, A, c, rfl, hc1, hc2, hA⟩, hwf⟩ := h
  unfold maxLen at hl
  clear hA hwf
  have hb2 : n < 0 ∨ 5 < n ∨ (40 : Int) < (l.length : Int) ∨ k < 1 ∨ 60 < k := by omega
  generalize l.length = m at *
  clear hb
  go_enter Try.func12, Try.ntmps12
  go_wp2_with fail
  all_goals
    refine (fair_awake w).mono ?_
    rintro e w' ⟨rfl, hf⟩
    go_wp2_with fail
    go_ret
    exact ⟨rfl, hf.below (Nat.le_refl _) fun _ q => q.elim⟩

/-- What is laid so far: the numbers that are left, the looks, and in which blocks they lie. -/
structure Played (w0 w : World) (sb N q : Nat) (l : List Int) (M : List (Value × Lk)) (Al : Option Addr) (cl : Nat) (T U : Nat → Prop) : Prop where
  fr : Fr (From w0.heap.size) w0 w
  sbB : w0.heap.size ≤ sb ∧ sb < w.heap.size
  tB : ∀ k, T k → w0.heap.size ≤ k ∧ k < w.heap.size ∧ k ≠ sb
  uB : ∀ k, U k → w0.heap.size ≤ k ∧ k < w.heap.size ∧ k ≠ sb ∧ ¬ T k
  left : Sl w (fun k => k = sb) 3 1 (.slice (some ⟨sb, 0, none⟩) N N) N (ints l)
  looks : Sl w T 74 2 (.slice Al q cl) q (M.flatMap lookEn)
  each : ∀ m ∈ M, Sl w U 3 1 m.1 m.2.1.length (ints m.2.1)
theorem Played.fr0 {w0 w w' : World} {sb N q : Nat} {l : List Int} {M : List (Value × Lk)} {Al : Option Addr} {cl : Nat} {T U : Nat → Prop} (h : Played w0 w sb N q l M Al cl T U) (hf : Fr Nob w w') : Played w0 w' sb N q l M Al cl T U :=
  ⟨h.fr.trans0 hf.none, ⟨h.sbB.1, by have := hf.size; have := h.sbB; omega⟩, fun k q => by have := h.tB k q; have := hf.size; omega, fun k q => by have h1 := h.uB k q; have h2 := hf.size; exact ⟨h1.1, by omega, h1.2.2⟩, h.left.fr hf fun _ _ q => q, h.looks.fr hf fun _ _ q => q, fun m hm => (h.each m hm).fr hf fun _ _ q => q⟩
theorem Played.isLooks {w0 w : World} {sb N q : Nat} {l : List Int} {M : List (Value × Lk)} {Al : Option Addr} {cl : Nat} {T U : Nat → Prop} (h : Played w0 w sb N q l M Al cl T U) (hq : M.length = q) : Looks w (.slice Al q cl) M :=
  ⟨by rw [hq]; exact h.looks.rd, fun m hm => (h.each m hm).rd⟩
/-- One more look: of who can run there is a slice in blocks from wB on; the numbers that are left are lf2. -/
theorem played_add (w0 wB wx w3 : World) (sb N q : Nat) (lf lf2 : List Int) (M : List (Value × Lk)) (von : Value) (on : List Int) (y : Int) (Al A3 : Option Addr) (cl c3 : Nat) (T U : Nat → Prop)
    (hx : Played w0 wx sb N q lf2 M Al cl T U)
    (hs3 : Sl w3 (fun k => T k ∨ wx.heap.size ≤ k) 74 2 (.slice A3 (q + 1) c3) (q + 1) (M.flatMap lookEn ++ [von, .int .i64 y])) (hf3 : Fr T wx w3)
    (hzB : wB.heap.size ≤ wx.heap.size) (hon : Sl wx (From wB.heap.size) 3 1 von on.length (ints on))
    (hB : Played w0 wB sb N q lf M Al cl T U) :
    Played w0 w3 sb N (q + 1) lf2 (M ++ [(von, (on, y))]) A3 c3 (And' T wx w3) (fun k => U k ∨ (wB.heap.size ≤ k ∧ k < wx.heap.size)) := by
  have hz3 := hf3.size
  refine ⟨hx.fr.trans0 (hf3.mono fun k _ q => (hB.tB k q).1), ⟨hx.sbB.1, by have := hx.sbB; omega⟩, fun k q => ?_, fun k q => ?_, hx.left.fr hf3 (fun k e q => by subst e; exact (hB.tB _ q).2.2 rfl), ?_, fun m hm => ?_⟩
  · rcases q with q | q
    · have := hB.tB k q; omega
    · have := hx.sbB; have := hx.fr.size; omega
  · rcases q with q | q
    · have h1 := hB.uB k q
      refine ⟨h1.1, by omega, h1.2.2.1, fun r => ?_⟩
      rcases r with r | r
      · exact h1.2.2.2 r
      · omega
    · have h2 := hB.sbB
      have h3 := hB.fr.size
      refine ⟨by omega, by omega, by omega, fun r => ?_⟩
      rcases r with r | r
      · have := hB.tB k r; omega
      · omega
  · rw [List.flatMap_append]
    exact hs3.mono fun k hk q => there k hk q
  · rcases List.mem_append.1 hm with hm | hm
    · have h1 := (hx.each m hm).fr hf3 (fun k a b => (hB.uB k a).2.2.2 b)
      exact h1.mono fun k _ q => .inl q
    · simp at hm; subst hm
      have h2 : Sl wx (fun k => wB.heap.size ≤ k ∧ k < wx.heap.size) 3 1 von on.length (ints on) := hon.mono fun k hk q => ⟨q, hk⟩
      exact (h2.fr hf3 (fun k a b => by have := hB.tB k b; omega)).mono fun k _ q => .inr q
theorem played_set (w0 wr wx : World) (sb N q : Nat) (lf : List Int) (M : List (Value × Lk)) (Al : Option Addr) (cl : Nat) (T U : Nat → Prop) (hr : Played w0 wr sb N q lf M Al cl T U) (hfx : Fr Nob wr wx) (xb : Nat) (hxb : wr.heap.size ≤ xb)
    (t : Nat) (ht : t < N) (a : Value) (y : Int) : Played w0 ((wx.setCell ⟨xb, 1, none⟩ a).setCell ⟨sb, t, none⟩ (.int .i64 y)) sb N q (lf.set t y) M Al cl T U ∧ Fr (fun k => k = xb ∨ k = sb) wx ((wx.setCell ⟨xb, 1, none⟩ a).setCell ⟨sb, t, none⟩ (.int .i64 y)) := by
  have hf1 : Fr (fun k => k = xb) wx (wx.setCell ⟨xb, 1, none⟩ a) := (Fr.refl (fun k => k = xb) wx).setCell (p := ⟨xb, 1, none⟩) (.inl rfl) a
  have hf2 : Fr (fun k => k = sb) (wx.setCell ⟨xb, 1, none⟩ a) ((wx.setCell ⟨xb, 1, none⟩ a).setCell ⟨sb, t, none⟩ (.int .i64 y)) := (Fr.refl (fun k => k = sb) _).setCell (p := ⟨sb, t, none⟩) (.inl rfl) _
  have hf3 : Fr (fun k => k = xb ∨ k = sb) wx ((wx.setCell ⟨xb, 1, none⟩ a).setCell ⟨sb, t, none⟩ (.int .i64 y)) := (hf1.mono fun k _ e => .inl e).trans0 (hf2.mono fun k _ e => .inr e)
  have hx := hr.fr0 hfx
  have hsz : ((wx.setCell ⟨xb, 1, none⟩ a).setCell ⟨sb, t, none⟩ (.int .i64 y)).heap.size = wx.heap.size := by simp
  have hsb := hr.sbB
  have h0 := hr.fr.size
  refine ⟨⟨hx.fr.trans0 (hf3.mono fun k _ q => by unfold From; rcases q with q | q <;> omega), by rw [hsz]; exact hx.sbB, fun k q => by rw [hsz]; exact hx.tB k q, fun k q => by rw [hsz]; exact hx.uB k q, ?_, ?_, fun m hm => ?_⟩, hf3⟩
  · have h1 := hx.left.fr hf1 (fun k e f => by subst e; omega)
    have := h1.set t (by omega) (.int .i64 y)
    rw [Nat.zero_add] at this
    simpa [ints, List.map_set] using this
  · refine hx.looks.fr hf3 fun k a b => ?_
    have := hr.tB k a
    rcases b with b | b <;> omega
  · refine (hx.each m hm).fr hf3 fun k a b => ?_
    have := hr.uB k a
    rcases b with b | b
    · omega
    · exact this.2.2.1 b
end Go.Proofs.Ytaghnlmfhfbhhaa
