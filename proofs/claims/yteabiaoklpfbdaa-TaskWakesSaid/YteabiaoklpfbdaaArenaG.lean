/- Tasks in an arena, each as one row: Add, Get and Set. -/
import Derived.Test.YteabiaoklpfbdaaArenaT
import Derived.Laws.Rows
import Derived.Deep.MidRow
set_option linter.unusedVariables false
set_option linter.unusedSimpArgs false
namespace Go.Proofs.Yteabiaoklpfbdaa
open Go.RowKit
set_option maxRecDepth 100000
/-- The cells of a task, as one. -/
def tkD (t : Nat → Int) (d : Bool) : List Value := tkL t d
theorem tkD_len (t : Nat → Int) (d : Bool) : (tkD t d).length = 18 := rfl
theorem tkD_one (t : Nat → Int) (d : Bool) : ∀ v ∈ tkD t d, v.oneCell' = true := by
  intro v hv
  simp only [tkD, tkL, List.mem_cons, List.not_mem_nil, or_false] at hv
  rcases hv with rfl | rfl | rfl | rfl | rfl | rfl | rfl | rfl | rfl | rfl | rfl | rfl | rfl | rfl | rfl | rfl | rfl | rfl <;> rfl
theorem tkD_all (t : Nat → Int) (d : Bool) : (tkD t d).toArray.all (·.oneCell') = true := all_oneCell_toArray (tkD_one t d)
def tkZ : List Value := tkL (fun _ => 0) false
theorem info_task18 : (Try.prog.info? 44).map (·.size) = some 18 := by kernel_rfl
theorem arena_addD (w : World) (S : Nat → Prop) (b most n : Nat) (cs : List Value) (t : Nat → Int) (d : Bool) (h : ArenaAt 76 44 18 w S b most n cs) (hlt : n < most) :
    Calls Try.prog 24 #[.pointer (some ⟨b, 0, none⟩), .agg (tkD t d).toArray] w fun e w' => e = .returned (.tuple #[.int .i64 (n : Int), .int .i64 0]) ∧ Fr S w w' ∧ ArenaAt 76 44 18 w' (And' S w w') b most (n + 1) (cs ++ tkD t d) :=
  arena_add w S b most n cs t d h hlt
theorem setRow (w : World) (b : Nat) (cells old : Array Value) (T : TypeId) (hb : w.heap[b]? = some (.cells old T (0, 0))) (hsz : old.size = cells.size) : (w.setCells b 0 cells.toList).heap[b]? = some (.cells cells T (0, 0)) := by
  obtain ⟨blk', q1, q2, q3, q4⟩ := setCells_blk b T (0, 0) cells.toList 0 w old hb (by simp; omega)
  have e : blk' = cells := by
    apply Array.ext_getElem?
    intro i
    by_cases hi : i < cells.size
    · have := q4 i cells[i] (by simp [hi])
      rw [Nat.zero_add] at this
      rw [this]; simp [hi]
    · rw [Array.getElem?_eq_none (by omega), Array.getElem?_eq_none (by omega)]
  rw [e] at q1; exact q1
theorem thereRow {w : World} {b : Nat} {old : Array Value} {T : TypeId} (hb : w.heap[b]? = some (.cells old T (0, 0))) (n : Nat) (hn : n ≤ old.size) : w.there b 0 n := fun j hj => by
  rw [Nat.zero_add]
  have hj' : j < old.size := by omega
  exact ⟨by rw [blk_cell hb j (Array.getElem?_eq_getElem hj')]; rfl, blk_froz hb j⟩
theorem rangeRow {w : World} {b : Nat} {cs : List Value} {T : TypeId} (hb : w.heap[b]? = some (.cells cs.toArray T (0, 0))) : w.rangeAt b 0 cs := fun j v hv => by
  rw [Nat.zero_add]; exact blk_cell hb j (by simpa using hv)
/-- Two results, the first of them a row in its block. -/
theorem res_row2 {P : Program} {fn : Func} {p q : Tmp} {ty : TypeId} (h : fn.results = #[.cell p ty, .tmp q]) (tmps : Array Value) (w : World) (g : Nat) (t : TypeId) (cs : Array Value) (fr : Nat × Nat) (d : TypeDesc) (v : Value)
    (hp : tmps.getD p undef = .pointer (some ⟨g, 0, none⟩)) (hq : tmps.getD q undef = v) (hg : w.heap[g]? = some (.cells cs t fr))
    (hu : P.underlying ty = some d) (hd : (match d with | .struct _ | .array _ _ => true | _ => false) = true) (hi : (P.info? ty).map (·.size) = some cs.size) :
    (results fn tmps).run P w = .ok (.tuple #[.agg cs, v]) w := by
  have hp' : tmps[p]?.getD undef = .pointer (some ⟨g, 0, none⟩) := by simpa using hp
  have hq' : tmps[q]?.getD undef = v := by simpa using hq
  simp [results, h, hp', hq', asAddr, run_loadVar_row w g t ty cs fr d hg hu hd hi]
set_option maxHeartbeats 1000000 in
theorem arena_get (w : World) (S : Nat → Prop) (b most n : Nat) (cs : List Value) (i : Nat) (t : Nat → Int) (d : Bool) (h : ArenaAt 76 44 18 w S b most n cs) (hi : i < n) (hx : ∀ j, j < 18 → cs[i * 18 + j]? = (tkD t d)[j]?) :
    Calls Try.prog 36 #[.pointer (some ⟨b, 0, none⟩), .int .i64 (i : Int)] w fun e w' => e = .returned (.tuple #[.agg (tkD t d).toArray, .bool true]) ∧ Fr Nob w w' := by
  have hl := fun w' (hf : Fr Nob w w') => arena_len w' S b most n cs (h.fr hf fun _ _ q => q)
  have Hl := Lib.hid hl
  obtain ⟨v, hS, hb, hs, hn, hm⟩ := h
  obtain ⟨g, off, c, rfl, _, hg, hc1, hc2, hc, _⟩ := hs.form (by omega)
  have hr : ∀ W, Fr Nob w W → W.rangeAt g (off + i * 18) (tkD t d) := fun W hW j u hj => by
    have hj18 : j < 18 := by have := (List.getElem?_eq_some_iff.1 hj).1; rwa [tkD_len] at this
    rw [Nat.add_assoc]
    exact hW.cell (p := ⟨g, off + (i * 18 + j), none⟩) id (hc _ _ ((hx j hj18).trans hj))
  unfold maxLen at hc2
  have h0 : ¬ (i : Int) < 0 := by omega
  have h1 : ¬ (n : Int) ≤ i := by omega
  have Hb := Lib.hid hb; have Hr := Lib.hid hr
  have Hone := Lib.hid (tkD_all t d)
  have Hlen := Lib.hid (tkD_len t d)
  clear hl hb hs hc hx hr
  generalize tkD t d = L at *
  go_enter Try.func36, Try.ntmps36
  go_wp2_with fail
  obtain ⟨w1, hw1⟩ : ∃ w1, w1 = w.alloc (.cells tkZ.toArray 44) := ⟨_, rfl⟩
  have hw1' := hw1
  unfold tkZ at hw1'
  dsimp only [tkL] at hw1'
  rw [← hw1']
  clear hw1'
  obtain ⟨rb, hrb⟩ : ∃ rb, rb = w.heap.size := ⟨_, rfl⟩
  rw [← hrb]
  have hf1 : Fr Nob w w1 := by rw [hw1]; exact (Fr.refl Nob w).alloc _
  have hb1 : w1.heap[rb]? = some (.cells tkZ.toArray 44 (0, 0)) := by rw [hw1, hrb]; exact heap_alloc_new _ _
  have Hz1 : Hid (w.heap.size = rb) := hrb.symm
  clear hw1 hrb
  refine (Hl.out _ hf1).mono ?_
  rintro e wx ⟨rfl, hwx⟩
  obtain rfl : w1 = wx := hwx
  have c0 := blk_cell (hf1.blk id Hb.out) 0 rfl
  have Hf1 := Lib.hid hf1; have Hb1 := Lib.hid hb1
  clear hf1 hb1
  go_wp2_with (first | (refine wpList_load_mid rfl 44 (.tmp 21) rfl g (off + i * 18) rfl L _ (Hr.out w1 Hf1.out) Try.underlying44 rfl (by rw [info_task18, Hlen.out]) ?_) | (refine wpList_store_mid rfl 44 (.tmp 4) (.tmp 22) rfl rb 0 L.toArray rfl rfl (thereRow Hb1.out _ (by rw [List.size_toArray, Hlen.out]; exact Nat.le_refl _)) (by rw [info_task18, List.size_toArray, Hlen.out]) Hone.out ?_))
  have hb2 := setRow w1 rb L.toArray tkZ.toArray 44 Hb1.out (by rw [List.size_toArray, List.size_toArray, Hlen.out]; rfl)
  have hf2 : Fr (fun k => k = rb) w1 (w1.setCells rb 0 L) := setCells_fr rb L 0 w1
  refine bodyPost_ret (res_row2 Try.results36 _ _ rb 44 L.toArray (0, 0) _ (.bool true) rfl rfl hb2 Try.underlying44 rfl (by rw [info_task18, List.size_toArray, Hlen.out])) rfl ⟨rfl, Hf1.out.trans hf2 fun k hk e => by have := Hz1.out; omega⟩
end Go.Proofs.Yteabiaoklpfbdaa
