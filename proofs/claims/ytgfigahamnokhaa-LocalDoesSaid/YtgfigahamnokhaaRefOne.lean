/- What one of the reference does: when an instruction may be. -/
import Derived.Test.YtgfigahamnokhaaRefForm
import Derived.Deep.RegionHeld3
import Derived.Deep.DeepCutAuto
import Derived.Deep.CutBlock
set_option linter.unusedVariables false
set_option linter.unusedSimpArgs false
namespace Go.Proofs.Ytgfigahamnokhaa
open Go.RowKit
set_option maxRecDepth 100000

theorem three_far {w : World} {k b : Nat} {o : Obj} (h : w.heap[k]? = some o) (hne : k ≠ b) (u0 u1 u2 : Value) : (((w.setCell ⟨b, 0, none⟩ u0).setCell ⟨b, 1, none⟩ u1).setCell ⟨b, 2, none⟩ u2).heap[k]? = some o := by
  rw [blk_set_ne _ _ hne, blk_set_ne _ _ hne, blk_set_ne _ _ hne, h]
theorem three_put {w : World} {b : Nat} {x y z : Value} {T : TypeId} (h : w.heap[b]? = some (.cells #[x, y, z] T (0, 0))) (u0 u1 u2 : Value) : (((w.setCell ⟨b, 0, none⟩ u0).setCell ⟨b, 1, none⟩ u1).setCell ⟨b, 2, none⟩ u2).heap[b]? = some (.cells #[u0, u1, u2] T (0, 0)) := by
  rw [blk_set (blk_set (blk_set h 0 u0) 1 u1) 2 u2]; rfl
/-- The two blocks that one makes: the form, and the numbers. -/
def TwoA (w0 wr : World) (F0 F1 F2 a b c : Int) (b5 b6 : Nat) : Prop := Fr Nob w0 wr ∧ wr.heap[b5]? = some (.cells #[.int .i64 F0, .int .i64 F1, .int .i64 F2] 43 (0, 0)) ∧ wr.heap[b6]? = some (.cells #[.int .i64 a, .int .i64 b, .int .i64 c] 43 (0, 0))
/-- How a number stands against its form. -/
def formOk (f x n : Int) : Bool := if f = 0 then x == 0 else if f = 3 then decide (0 ≤ x) && decide (x ≤ n) else if f = 4 then decide (0 ≤ x) && decide (x < 16) else if f = 5 then true else regB x
theorem form_kind (op : Int) (h1 : 1 ≤ op) (h2 : op ≤ 32) (k : Nat) (hk : k < 3) (x n : Int) : formOk (formB op k) x n = mayB (kindB op k) x n := by
  have key : ∀ o : Fin 32, ∀ j : Fin 3, (formB (o.1 + 1 : Nat) j.1 = 0 ∧ kindB (o.1 + 1 : Nat) j.1 = 45) ∨ (formB (o.1 + 1 : Nat) j.1 = 3 ∧ kindB (o.1 + 1 : Nat) j.1 = 112) ∨ (formB (o.1 + 1 : Nat) j.1 = 4 ∧ kindB (o.1 + 1 : Nat) j.1 = 103) ∨ (formB (o.1 + 1 : Nat) j.1 = 5 ∧ kindB (o.1 + 1 : Nat) j.1 = 110) ∨ ((formB (o.1 + 1 : Nat) j.1 = 1 ∨ formB (o.1 + 1 : Nat) j.1 = 2 ∨ formB (o.1 + 1 : Nat) j.1 = 6) ∧ kindB (o.1 + 1 : Nat) j.1 = 114) := by decide +kernel
  obtain ⟨o, rfl⟩ : ∃ o : Nat, op = (o + 1 : Nat) := ⟨(op - 1).toNat, by omega⟩
  rcases key ⟨o, by omega⟩ ⟨k, hk⟩ with ⟨e, e'⟩ | ⟨e, e'⟩ | ⟨e, e'⟩ | ⟨e, e'⟩ | ⟨e | e | e, e'⟩ <;> (dsimp only at e e'; rw [e, e']; rfl)
theorem form_range (op : Int) (h1 : 1 ≤ op) (h2 : op ≤ 32) (k : Nat) (hk : k < 3) : 0 ≤ formB op k ∧ formB op k ≤ 6 := by
  have key : ∀ o : Fin 32, ∀ j : Fin 3, 0 ≤ formB (o.1 + 1 : Nat) j.1 ∧ formB (o.1 + 1 : Nat) j.1 ≤ 6 := by decide +kernel
  obtain ⟨o, rfl⟩ : ∃ o : Nat, op = (o + 1 : Nat) := ⟨(op - 1).toNat, by omega⟩
  exact key ⟨o, by omega⟩ ⟨k, hk⟩

abbrev fv (x y z : Int) (k : Nat) : Int := if k = 0 then x else if k = 1 then y else z
theorem fv_get (x y z : Int) (k : Nat) (hk : k < 3) : (#[Value.int .i64 x, Value.int .i64 y, Value.int .i64 z] : Array Value)[k]? = some (.int .i64 (fv x y z k)) := by
  rcases (by omega : k = 0 ∨ k = 1 ∨ k = 2) with rfl | rfl | rfl <;> rfl
theorem formOk_reg (f x n : Int) (h0 : f ≠ 0) (h3 : f ≠ 3) (h4 : f ≠ 4) (h5 : f ≠ 5) : formOk f x n = regB x := by
  unfold formOk; rw [if_neg h0, if_neg h3, if_neg h4, if_neg h5]
set_option maxHeartbeats 8000000 in
theorem one_mid (w : World) (places : Int) (op a b c : Int) (A : Option Addr) (m cp : Nat) (d : Bool) (cs : List Cs) (hm : cs.length = m) (hA : Rd w 3 (.slice A m cp) m (cs.flatMap csEn)) (h1 : 1 ≤ op) (h2 : op ≤ 32) :
    Calls Try.prog 23 #[.agg #[.int .i64 op, .int .i64 a, .int .i64 b, .int .i64 c, .slice A m cp, .bool d], .int .i64 places] w fun e w' => e = .returned (.bool (formOk (formB op 0) a places && formOk (formB op 1) b places && formOk (formB op 2) c places && (if op = 15 then cs.all csB && decide (m ≤ 16) else decide (m = 0) && !d))) ∧ Fr Nob w w' := by
  have e1 : decide (op < 1) = false := by simp; omega
  have e2 : decide ((32 : Int) < op) = false := by simp; omega
  have hform := fun W => form_any W op h1 h2
  have hR0 := form_range op h1 h2 0 (by omega); have hR1 := form_range op h1 h2 1 (by omega); have hR2 := form_range op h1 h2 2 (by omega)
  generalize formB op 0 = F0 at *
  generalize formB op 1 = F1 at *
  generalize formB op 2 = F2 at *
  obtain ⟨rt, hrt⟩ : ∃ rt, rt = (if op = 15 then cs.all csB && decide (m ≤ 16) else decide (m = 0) && !d) := ⟨_, rfl⟩
  rw [← hrt]
  have hres : ∀ k, k < 3 → formOk (fv F0 F1 F2 k) (fv a b c k) places = false → (formOk F0 a places && formOk F1 b places && formOk F2 c places && rt) = false := fun k hk h => by
    rcases (by omega : k = 0 ∨ k = 1 ∨ k = 2) with rfl | rfl | rfl <;> (dsimp only [fv] at h; simp at h; rw [h]; simp)
  have hall : (∀ j, j < 3 → formOk (fv F0 F1 F2 j) (fv a b c j) places = true) → (formOk F0 a places && formOk F1 b places && formOk F2 c places && rt) = rt := fun h => by
    have q0 := h 0 (by omega); have q1 := h 1 (by omega); have q2 := h 2 (by omega)
    dsimp only [fv] at q0 q1 q2
    simp at q0 q1 q2
    rw [q0, q1, q2]; rfl
  obtain ⟨res, hres0⟩ : ∃ res, res = (formOk F0 a places && formOk F1 b places && formOk F2 c places && rt) := ⟨_, rfl⟩
  rw [← hres0] at hres hall ⊢
  have Hres := Lib.hid hres; have Hall := Lib.hid hall; have Hrt := Lib.hid hrt; have HA := Lib.hid hA
  have Hform := Lib.hid hform
  have hb := heap_alloc_new w (.cells #[.int .i64 op, .int .i64 a, .int .i64 b, .int .i64 c, .slice A m cp, .bool d] 39)
  have HB := Lib.hid hb
  have key : ∀ W, Fr Nob (w.alloc (.cells #[.int .i64 op, .int .i64 a, .int .i64 b, .int .i64 c, .slice A m cp, .bool d] 39)) W → W.cell? ⟨w.heap.size, 0, none⟩ = some (.int .i64 op) ∧ W.cell? ⟨w.heap.size, 1, none⟩ = some (.int .i64 a) ∧ W.cell? ⟨w.heap.size, 2, none⟩ = some (.int .i64 b) ∧ W.cell? ⟨w.heap.size, 3, none⟩ = some (.int .i64 c) := fun W hf => ⟨blk_cell (hf.blk id hb) 0 rfl, blk_cell (hf.blk id hb) 1 rfl, blk_cell (hf.blk id hb) 2 rfl, blk_cell (hf.blk id hb) 3 rfl⟩
  have Key := Lib.hid key
  clear key
  have Hsz := Lib.hid (show (w.alloc (.cells #[.int .i64 op, .int .i64 a, .int .i64 b, .int .i64 c, .slice A m cp, .bool d] 39)).heap.size = w.heap.size + 1 by simp)
  clear hform hb hres hall hrt hres0 hA hR0 hR1 hR2
  go_enter Try.func23, Try.ntmps23
  go_upto_region 3 with fail
  go_cut [5, 6] (fun v5 v6 wx => ∃ b5 b6 : Nat, v5 = .pointer (some ⟨b5, 0, none⟩) ∧ v6 = .pointer (some ⟨b6, 0, none⟩) ∧ Hid (TwoA (w.alloc (.cells #[.int .i64 op, .int .i64 a, .int .i64 b, .int .i64 c, .slice A m cp, .bool d] 39)) wx F0 F1 F2 a b c b5 b6))
  case first =>
    go_region_held3 (fun W => W.cell? ⟨w.heap.size, 0, none⟩ = some (.int .i64 op) ∧ W.cell? ⟨w.heap.size, 1, none⟩ = some (.int .i64 a) ∧ W.cell? ⟨w.heap.size, 2, none⟩ = some (.int .i64 b) ∧ W.cell? ⟨w.heap.size, 3, none⟩ = some (.int .i64 c))
      ((refine Key.out _ ?_; repeat (first | with_reducible exact hf1 | with_reducible exact Fr.refl _ _ | with_reducible refine Fr.drew ?_ | with_reducible refine Fr.alloc ?_ _ | with_reducible refine Fr.setCell ?_ (.inr ?_) _ | exact Nat.le_of_eq Hsz.out | exact Nat.le_trans (Nat.le_of_eq Hsz.out) (Nat.le_succ _) | exact hf1.size | exact Nat.le_trans hf1.size (Nat.le_succ _))))
      ((go_at_call 29; first | (refine (Hform.out (w.alloc (.cells #[.int .i64 op, .int .i64 a, .int .i64 b, .int .i64 c, .slice A m cp, .bool d] 39)).drew).mono ?_; rintro e w1 ⟨rfl, hf0⟩; have hf1 := (((Fr.refl Nob (w.alloc (.cells #[.int .i64 op, .int .i64 a, .int .i64 b, .int .i64 c, .slice A m cp, .bool d] 39))).drew).trans0 hf0); have hlt1 : w.heap.size + 1 ≤ w1.heap.size := (Hsz.out ▸ hf1.size); clear hf0) | (refine (Hform.out ((w.alloc (.cells #[.int .i64 op, .int .i64 a, .int .i64 b, .int .i64 c, .slice A m cp, .bool d] 39)).alloc (.cells #[.int .i64 0, .int .i64 0, .int .i64 0] 43)).drew).mono ?_; rintro e w1 ⟨rfl, hf0⟩; have hf1 := ((((Fr.refl Nob (w.alloc (.cells #[.int .i64 op, .int .i64 a, .int .i64 b, .int .i64 c, .slice A m cp, .bool d] 39))).alloc _).drew).trans0 hf0); have hlt1 : w.heap.size + 1 ≤ w1.heap.size := (Hsz.out ▸ hf1.size); have z : w1.heap[w.heap.size + 1]? = some (.cells #[.int .i64 0, .int .i64 0, .int .i64 0] 43 (0, 0)) := hf0.blk id (by rw [blk_drew]; exact blk_alloc_eq _ (by simp)); clear hf0; have HZ := Lib.hid z; have zn : w.heap.size + 1 ≠ w1.heap.size := Nat.ne_of_lt (lt_of_block z); have zn2 : w1.heap.size ≠ w.heap.size + 1 := Ne.symm zn; have q := ((Fr.refl Nob w1).alloc (.cells #[.int .i64 0, .int .i64 0, .int .i64 0] 43)).blk id z; have p := ((Fr.refl Nob w1).alloc (.cells #[.int .i64 F0, .int .i64 F1, .int .i64 F2] 43)).blk id z; have g := three_far (heap_alloc_new w1 (.cells #[.int .i64 0, .int .i64 0, .int .i64 0] 43)) zn2 (.int .i64 F0) (.int .i64 F1) (.int .i64 F2); have q0 := blk_cell q 0 rfl; have qf0 := blk_froz q 0; have q1 := blk_cell q 1 rfl; have qf1 := blk_froz q 1; have q2 := blk_cell q 2 rfl; have qf2 := blk_froz q 2; clear q; have p0 := blk_cell p 0 rfl; have pf0 := blk_froz p 0; have p1 := blk_cell p 1 rfl; have pf1 := blk_froz p 1; have p2 := blk_cell p 2 rfl; have pf2 := blk_froz p 2; clear p; have g0 := blk_cell g 0 rfl; have gf0 := blk_froz g 0; have g1 := blk_cell g 1 rfl; have gf1 := blk_froz g 1; have g2 := blk_cell g 2 rfl; have gf2 := blk_froz g 2; clear g; clear z) | (refine (Hform.out (((w.alloc (.cells #[.int .i64 op, .int .i64 a, .int .i64 b, .int .i64 c, .slice A m cp, .bool d] 39)).alloc (.cells #[.int .i64 0, .int .i64 0, .int .i64 0] 43)).alloc (.cells #[.int .i64 0, .int .i64 0, .int .i64 0] 43)).drew).mono ?_; rintro e w1 ⟨rfl, hf0⟩; have hf1 := (((((Fr.refl Nob (w.alloc (.cells #[.int .i64 op, .int .i64 a, .int .i64 b, .int .i64 c, .slice A m cp, .bool d] 39))).alloc _).alloc _).drew).trans0 hf0); have hlt1 : w.heap.size + 1 ≤ w1.heap.size := (Hsz.out ▸ hf1.size); have z : w1.heap[w.heap.size + 1]? = some (.cells #[.int .i64 0, .int .i64 0, .int .i64 0] 43 (0, 0)) := hf0.blk id (by rw [blk_drew]; exact ((Fr.refl Nob _).alloc _).blk id (blk_alloc_eq _ (by simp))); have y : w1.heap[w.heap.size + 2]? = some (.cells #[.int .i64 0, .int .i64 0, .int .i64 0] 43 (0, 0)) := hf0.blk id (by rw [blk_drew]; exact blk_alloc_eq _ (by simp)); clear hf0; have HZ := Lib.hid z; have HY := Lib.hid y; have q := three_far y (b := w.heap.size + 1) (by omega) (.int .i64 F0) (.int .i64 F1) (.int .i64 F2); have p := three_far z (b := w.heap.size + 2) (by omega) (.int .i64 F0) (.int .i64 F1) (.int .i64 F2); have z0 := blk_cell z 0 rfl; have zf0 := blk_froz z 0; have z1 := blk_cell z 1 rfl; have zf1 := blk_froz z 1; have z2 := blk_cell z 2 rfl; have zf2 := blk_froz z 2; clear z; have y0 := blk_cell y 0 rfl; have yf0 := blk_froz y 0; have y1 := blk_cell y 1 rfl; have yf1 := blk_froz y 1; have y2 := blk_cell y 2 rfl; have yf2 := blk_froz y 2; clear y; have q0 := blk_cell q 0 rfl; have qf0 := blk_froz q 0; have q1 := blk_cell q 1 rfl; have qf1 := blk_froz q 1; have q2 := blk_cell q 2 rfl; have qf2 := blk_froz q 2; clear q; have p0 := blk_cell p 0 rfl; have pf0 := blk_froz p 0; have p1 := blk_cell p 1 rfl; have pf1 := blk_froz p 1; have p2 := blk_cell p 2 rfl; have pf2 := blk_froz p 2; clear p)))
    all_goals (try go_wp2)
    all_goals (try go_meet)
    all_goals refine ⟨_, _, rfl, rfl, Lib.hid ⟨?_, ?_, ?_⟩⟩
    · repeat (first | with_reducible exact hf1 | with_reducible exact Fr.refl _ _ | with_reducible refine Fr.drew ?_ | with_reducible refine Fr.alloc ?_ _ | with_reducible refine Fr.setCell ?_ (.inr ?_) _ | exact Nat.le_of_eq Hsz.out | exact Nat.le_trans (Nat.le_of_eq Hsz.out) (Nat.le_succ _) | exact hf1.size | exact Nat.le_trans hf1.size (Nat.le_succ _))
    · exact ((Fr.refl Nob _).alloc _).blk id (heap_alloc_new _ _)
    · exact blk_alloc_eq _ (by simp)
    · repeat (first | with_reducible exact hf1 | with_reducible exact Fr.refl _ _ | with_reducible refine Fr.drew ?_ | with_reducible refine Fr.alloc ?_ _ | with_reducible refine Fr.setCell ?_ (.inr ?_) _ | exact Nat.le_of_eq Hsz.out | exact Nat.le_trans (Nat.le_of_eq Hsz.out) (Nat.le_succ _) | exact hf1.size | exact Nat.le_trans hf1.size (Nat.le_succ _))
    · exact blk_alloc_eq _ (by simp)
    · exact ((Fr.refl Nob _).alloc _).blk id (heap_alloc_new _ _)
    · repeat (first | with_reducible exact hf1 | with_reducible exact Fr.refl _ _ | with_reducible refine Fr.drew ?_ | with_reducible refine Fr.alloc ?_ _ | with_reducible refine Fr.setCell ?_ (.inr ?_) _ | exact Nat.le_of_eq Hsz.out | exact Nat.le_trans (Nat.le_of_eq Hsz.out) (Nat.le_succ _) | exact hf1.size | exact Nat.le_trans hf1.size (Nat.le_succ _))
    · exact three_far (three_put (((Fr.refl Nob _).alloc _).blk id HZ.out) _ _ _) (by omega) _ _ _
    · exact three_put (three_far (heap_alloc_new _ _) (by omega) _ _ _) _ _ _
    · repeat (first | with_reducible exact hf1 | with_reducible exact Fr.refl _ _ | with_reducible refine Fr.drew ?_ | with_reducible refine Fr.alloc ?_ _ | with_reducible refine Fr.setCell ?_ (.inr ?_) _ | exact Nat.le_of_eq Hsz.out | exact Nat.le_trans (Nat.le_of_eq Hsz.out) (Nat.le_succ _) | exact hf1.size | exact Nat.le_trans hf1.size (Nat.le_succ _))
    · exact three_far (three_put HZ.out _ _ _) (by omega) _ _ _
    · exact three_put (three_far HY.out (by omega) _ _ _) _ _ _
    · repeat (first | with_reducible exact hf1 | with_reducible exact Fr.refl _ _ | with_reducible refine Fr.drew ?_ | with_reducible refine Fr.alloc ?_ _ | with_reducible refine Fr.setCell ?_ (.inr ?_) _ | exact Nat.le_of_eq Hsz.out | exact Nat.le_trans (Nat.le_of_eq Hsz.out) (Nat.le_succ _) | exact hf1.size | exact Nat.le_trans hf1.size (Nat.le_succ _))
    · exact three_far (heap_alloc_new _ _) (by omega) _ _ _
    · exact three_put (((Fr.refl Nob _).alloc _).blk id HZ.out) _ _ _
    · repeat (first | with_reducible exact hf1 | with_reducible exact Fr.refl _ _ | with_reducible refine Fr.drew ?_ | with_reducible refine Fr.alloc ?_ _ | with_reducible refine Fr.setCell ?_ (.inr ?_) _ | exact Nat.le_of_eq Hsz.out | exact Nat.le_trans (Nat.le_of_eq Hsz.out) (Nat.le_succ _) | exact hf1.size | exact Nat.le_trans hf1.size (Nat.le_succ _))
    · exact three_far (three_put HY.out _ _ _) (by omega) _ _ _
    · exact three_put (three_far HZ.out (by omega) _ _ _) _ _ _
  case rest =>
    obtain ⟨b5, b6, rfl, rfl, HT⟩ := hcut
    have Hfr0 := Lib.hid HT.out.1
    have Hfr1 := Lib.hid (((Fr.refl Nob w).alloc _).trans0 HT.out.1)
    have c5 : ∀ k, k < 3 → wc.cell? ⟨b5, k, none⟩ = some (.int .i64 (fv F0 F1 F2 k)) := fun k hk => blk_cell HT.out.2.1 k (fv_get _ _ _ k hk)
    have c6 : ∀ k, k < 3 → wc.cell? ⟨b6, k, none⟩ = some (.int .i64 (fv a b c k)) := fun k hk => blk_cell HT.out.2.2 k (fv_get _ _ _ k hk)
    have C5 := Lib.hid c5; have C6 := Lib.hid c6
    clear c5 c6 HT Key Hform
    generalize fv F0 F1 F2 = FV at *
    generalize fv a b c = XV at *
    go_wp2_with fail
    go_loopw [7] (fun vi wr => ∃ k : Nat, k ≤ 3 ∧ vi = .int .i64 k ∧ Hid (∀ j, j < k → formOk (FV j) (XV j) places = true) ∧ wc = wr) (fun vi _ => 3 - (intOf vi).toNat)
    case atStart => exact ⟨0, by omega, rfl, Lib.hid (fun j hj => by omega), rfl⟩
    case round =>
      obtain ⟨k, hk, rfl, Hpre, rfl⟩ := hrel
      by_cases hlt : k < 3
      · have y5 := C5.out k hlt
        have y6 := C6.out k hlt
        have hstep : formOk (FV k) (XV k) places = true → ∀ j, j < k + 1 → formOk (FV j) (XV j) places = true := fun h j hj => by
          by_cases hjk : j = k
          · rw [hjk]; exact h
          · exact Hpre.out j (by omega)
        have hbad := Hres.out k hlt
        generalize FV k = f at *
        generalize XV k = x at *
        obtain ⟨r, hr⟩ : ∃ r, r = formOk f x places := ⟨_, rfl⟩
        rw [← hr] at hstep hbad
        have Hstep := Lib.hid hstep; have Hbad := Lib.hid hbad
        have i0 : (0 : Int) ≤ k := by omega
        have i3 : (k : Int) < 3 := by omega
        clear hstep hbad
        by_cases f0 : f = 0
        · subst f0
          have hv : r = (x == 0) := hr
          subst hv
          clear hr
          by_cases hx : x = 0
          · subst hx
            have Hnx := Lib.hid (Hstep.out rfl)
            go_wp2_with fail
            go_roundw
            case rel => exact ⟨k + 1, by omega, by go_num, Hnx, by first | rfl | trivial⟩
            case measure => simp [intOf]; omega
          · have n0 : (x == 0) = false := beq_eq_false_iff_ne.2 hx
            have n1 : (x != 0) = true := bne_iff_ne.2 hx
            have Hno := Lib.hid (Hbad.out n0)
            clear hx
            go_wp2_with fail
            go_ret
            exact ⟨by rw [Hno.out]; rfl, Hfr1.out⟩
        · have g0 : (f == 0) = false := beq_eq_false_iff_ne.2 f0
          by_cases f3 : f = 3
          · subst f3
            have hv : r = (decide (0 ≤ x) && decide (x ≤ places)) := hr
            subst hv
            clear hr
            by_cases hx : x < 0
            · have n0 : decide (x < 0) = true := decide_eq_true hx
              have Hno := Lib.hid (Hbad.out (by rw [decide_eq_false (by omega : ¬ 0 ≤ x)]; rfl))
              clear hx
              go_wp2_with fail
              go_ret
              exact ⟨by rw [Hno.out]; rfl, Hfr1.out⟩
            · have n0 : decide (x < 0) = false := decide_eq_false hx
              by_cases hp : places < x
              · have n1 : decide (places < x) = true := decide_eq_true hp
                have Hno := Lib.hid (Hbad.out (by rw [decide_eq_false (by omega : ¬ x ≤ places)]; simp))
                clear hx hp
                go_wp2_with fail
                go_ret
                exact ⟨by rw [Hno.out]; rfl, Hfr1.out⟩
              · have n1 : decide (places < x) = false := decide_eq_false hp
                have Hnx := Lib.hid (Hstep.out (by rw [decide_eq_true (by omega : x ≤ places), decide_eq_true (by omega : 0 ≤ x)]; rfl))
                clear hx hp
                go_wp2_with fail
                go_roundw
                case rel => exact ⟨k + 1, by omega, by go_num, Hnx, by first | rfl | trivial⟩
                case measure => simp [intOf]; omega
          · have g3 : (f == 3) = false := beq_eq_false_iff_ne.2 f3
            by_cases f4 : f = 4
            · subst f4
              have hv : r = (decide (0 ≤ x) && decide (x < 16)) := hr
              subst hv
              clear hr
              by_cases hx : x < 0
              · have n0 : decide (x < 0) = true := decide_eq_true hx
                have Hno := Lib.hid (Hbad.out (by rw [decide_eq_false (by omega : ¬ 0 ≤ x)]; rfl))
                clear hx
                go_wp2_with fail
                go_ret
                exact ⟨by rw [Hno.out]; rfl, Hfr1.out⟩
              · have n0 : decide (x < 0) = false := decide_eq_false hx
                by_cases hp : 16 ≤ x
                · have n1 : decide (16 ≤ x) = true := decide_eq_true hp
                  have Hno := Lib.hid (Hbad.out (by rw [decide_eq_false (by omega : ¬ x < 16)]; simp))
                  clear hx hp
                  go_wp2_with fail
                  go_ret
                  exact ⟨by rw [Hno.out]; rfl, Hfr1.out⟩
                · have n1 : decide (16 ≤ x) = false := decide_eq_false hp
                  have Hnx := Lib.hid (Hstep.out (by rw [decide_eq_true (by omega : x < 16), decide_eq_true (by omega : 0 ≤ x)]; rfl))
                  clear hx hp
                  go_wp2_with fail
                  go_roundw
                  case rel => exact ⟨k + 1, by omega, by go_num, Hnx, by first | rfl | trivial⟩
                  case measure => simp [intOf]; omega
            · have g4 : (f == 4) = false := beq_eq_false_iff_ne.2 f4
              by_cases f5 : f = 5
              · subst f5
                have hv : r = true := hr
                subst hv
                clear hr
                have Hnx := Lib.hid (Hstep.out rfl)
                go_wp2_with fail
                go_roundw
                case rel => exact ⟨k + 1, by omega, by go_num, Hnx, by first | rfl | trivial⟩
                case measure => simp [intOf]; omega
              · have g5 : (f == 5) = false := beq_eq_false_iff_ne.2 f5
                have hv : r = regB x := hr.trans (formOk_reg f x places f0 f3 f4 f5)
                have hreg := fun W => ref_reg W x
                rw [← hv] at hreg
                have Hreg := Lib.hid hreg
                clear hr hv hreg f0 f3 f4 f5
                cases r with
                | true =>
                  have Hnx := Lib.hid (Hstep.out rfl)
                  go_wp2_with fail
                  refine (Hreg.out _).mono ?_
                  rintro e _ ⟨rfl, rfl⟩
                  go_wp2_with fail
                  go_roundw
                  case rel => exact ⟨k + 1, by omega, by go_num, Hnx, by first | rfl | trivial⟩
                  case measure => simp [intOf]; omega
                | false =>
                  have Hno := Lib.hid (Hbad.out rfl)
                  go_wp2_with fail
                  refine (Hreg.out _).mono ?_
                  rintro e _ ⟨rfl, rfl⟩
                  go_wp2_with fail
                  go_ret
                  exact ⟨by rw [Hno.out]; rfl, Hfr1.out⟩
      · obtain rfl : k = 3 := by omega
        have Hal := Lib.hid (Hall.out Hpre.out)
        clear Hpre
        have hb4 := Hfr0.out.blk id HB.out
        have z0 := blk_cell hb4 0 rfl
        have z4 := blk_cell hb4 4 rfl
        have z5 := blk_cell hb4 5 rfl
        clear hb4
        by_cases h15 : op = 15
        · subst h15
          have Hr2 : Hid (res = (cs.all csB && decide (m ≤ 16))) := Lib.hid (by rw [Hal.out, Hrt.out, if_pos rfl])
          clear Hal Hrt Hall Hres
          have hyes : ∀ (j : Nat) (y : Cs), cs[j]? = some y → csB y = false → res = false := fun j y hj e => by
            rw [Hr2.out, List.all_eq_false.2 ⟨y, List.mem_of_getElem? hj, by simp [e]⟩]; rfl
          have hno : (∀ (j : Nat) (y : Cs), j < m → cs[j]? = some y → csB y = true) → res = decide (m ≤ 16) := fun h => by
            have : cs.all csB = true := List.all_eq_true.2 fun y hy => by
              obtain ⟨j, hj, e⟩ := List.mem_iff_getElem.1 hy
              exact h j y (by omega) (by rw [List.getElem?_eq_getElem hj, e])
            rw [Hr2.out, this]; rfl
          have Hyes := Lib.hid hyes; have Hno := Lib.hid hno
          clear hyes hno z5 Hr2
          go_wp2_with fail
          go_loopw [8] (fun vi wr => ∃ k : Nat, k ≤ m ∧ vi = .int .i64 k ∧ Hid (∀ (j : Nat) (y : Cs), j < k → cs[j]? = some y → csB y = true) ∧ Hid (Fr Nob wc wr)) (fun vi _ => m - (intOf vi).toNat)
          case atStart => exact ⟨0, by omega, rfl, Lib.hid (fun j y hj => by omega), Lib.hid (Fr.refl _ _)⟩
          case round =>
            obtain ⟨k, hk, rfl, Hpre, Hwr⟩ := hrel
            clear z4
            have z4 := Hwr.out.cell (p := ⟨w.heap.size, 4, none⟩) id (blk_cell (Hfr0.out.blk id HB.out) 4 rfl)
            have Hfr2 := Lib.hid (Hfr1.out.trans0 Hwr.out)
            by_cases hlt : k < m
            · have hx : cs[k]? = some (cs[k]'(by omega)) := List.getElem?_eq_getElem _
              generalize cs[k]'(by omega) = y at hx
              obtain ⟨_, hl, A', c', hv, hc1, hc2, hA⟩ := HA.out
              cases hv
              obtain ⟨g, o, hgo, hgl, hc⟩ := hA (by omega)
              subst hgo
              unfold maxLen at hl
              have x0 := Hfr2.out.cell (p := ⟨g, o + (k * 3 + 0), none⟩) id (hc _ _ ((csGet cs k 0 y hx (by omega)).trans rfl))
              have x1 := Hfr2.out.cell (p := ⟨g, o + (k * 3 + 1), none⟩) id (hc _ _ ((csGet cs k 1 y hx (by omega)).trans rfl))
              have x2 := Hfr2.out.cell (p := ⟨g, o + (k * 3 + 2), none⟩) id (hc _ _ ((csGet cs k 2 y hx (by omega)).trans rfl))
              rw [← Nat.add_assoc] at x1 x2
              rw [Nat.add_zero] at x0
              have i0 : (0 : Int) ≤ k := by omega
              have i3 : (k : Int) < m := by omega
              have hstep : csB y = true → ∀ (j : Nat) (z : Cs), j < k + 1 → cs[j]? = some z → csB z = true := fun hb j z hj hz => by
                by_cases hjk : j = k
                · subst hjk; rw [hx] at hz; cases hz; exact hb
                · exact Hpre.out j z (by omega) hz
              have hbad := Hyes.out k y hx
              obtain ⟨s, xc, v⟩ := y
              dsimp only at x0 x1 x2
              have hcs : csB (s, xc, v) = (regB xc && regB v && (s || v == 0)) := rfl
              rw [hcs] at hstep hbad
              have hr1 := fun W => ref_reg W xc
              have hr2 := fun W => ref_reg W v
              have hv0 : v = 0 → regB v = true := fun e => by rw [e]; rfl
              generalize regB xc = r1 at *
              generalize regB v = r2 at *
              have Hr1 := Lib.hid hr1; have Hr2 := Lib.hid hr2; have Hstep := Lib.hid hstep; have Hbad := Lib.hid hbad
              clear hstep hbad hr1 hr2 hcs hc hA hx
              cases r1 with
              | false =>
                have Hz := Lib.hid (Hbad.out rfl)
                clear hv0
                go_wp2_with fail
                refine (Hr1.out _).mono ?_
                rintro e _ ⟨rfl, rfl⟩
                go_wp2_with fail
                go_ret
                exact ⟨by rw [Hz.out]; rfl, Hfr2.out.alloc _⟩
              | true =>
                cases s with
                | true =>
                  clear hv0
                  cases r2 with
                  | true =>
                    have Hnx := Lib.hid (Hstep.out rfl)
                    go_wp2_with fail
                    refine (Hr1.out _).mono ?_
                    rintro e _ ⟨rfl, rfl⟩
                    go_wp2_with fail
                    refine (Hr2.out _).mono ?_
                    rintro e _ ⟨rfl, rfl⟩
                    go_wp2_with fail
                    refine ⟨?_, ?measure⟩
                    (repeat apply Exists.intro)
                    refine ⟨?rel, rfl⟩
                    case rel => exact ⟨k + 1, by omega, by go_num, Hnx, Lib.hid (Hwr.out.alloc _)⟩
                    case measure => simp [intOf]; omega
                  | false =>
                    have Hz := Lib.hid (Hbad.out rfl)
                    go_wp2_with fail
                    refine (Hr1.out _).mono ?_
                    rintro e _ ⟨rfl, rfl⟩
                    go_wp2_with fail
                    refine (Hr2.out _).mono ?_
                    rintro e _ ⟨rfl, rfl⟩
                    go_wp2_with fail
                    go_ret
                    exact ⟨by rw [Hz.out]; rfl, Hfr2.out.alloc _⟩
                | false =>
                  by_cases hv : v = 0
                  · obtain rfl := hv0 hv
                    subst hv
                    have Hnx := Lib.hid (Hstep.out rfl)
                    clear hv0
                    go_wp2_with fail
                    refine (Hr1.out _).mono ?_
                    rintro e _ ⟨rfl, rfl⟩
                    go_wp2_with fail
                    refine ⟨?_, ?measure⟩
                    (repeat apply Exists.intro)
                    refine ⟨?rel, rfl⟩
                    case rel => exact ⟨k + 1, by omega, by go_num, Hnx, Lib.hid (Hwr.out.alloc _)⟩
                    case measure => simp [intOf]; omega
                  · have n0 : (v == 0) = false := beq_eq_false_iff_ne.2 hv
                    have n1 : (v != 0) = true := bne_iff_ne.2 hv
                    have Hz := Lib.hid (Hbad.out (by rw [n0]; simp))
                    clear hv hv0
                    go_wp2_with fail
                    refine (Hr1.out _).mono ?_
                    rintro e _ ⟨rfl, rfl⟩
                    go_wp2_with fail
                    go_ret
                    exact ⟨by rw [Hz.out]; rfl, Hfr2.out.alloc _⟩
            · obtain rfl : k = m := by omega
              have Hz := Lib.hid (Hno.out Hpre.out)
              clear Hpre
              by_cases hm16 : k ≤ 16
              · have n0 : decide (k ≤ 16) = true := decide_eq_true hm16
                have n1 : decide ((k : Int) ≤ 16) = true := decide_eq_true (by omega)
                clear hm16
                go_wp2_with fail
                go_ret
                exact ⟨by rw [Hz.out, n0]; rfl, Hfr2.out⟩
              · have n0 : decide (k ≤ 16) = false := decide_eq_false hm16
                have n1 : decide ((k : Int) ≤ 16) = false := decide_eq_false (by omega)
                clear hm16
                go_wp2_with fail
                go_ret
                exact ⟨by rw [Hz.out, n0]; rfl, Hfr2.out⟩
        · have n15 : (op != 15) = true := bne_iff_ne.2 h15
          have Hr2 : Hid (res = (decide (m = 0) && !d)) := Lib.hid (by rw [Hal.out, Hrt.out, if_neg h15])
          clear h15
          by_cases hm0 : m = 0
          · have n0 : ((m : Int) == 0) = true := beq_iff_eq.2 (by omega)
            have n0' : (m == 0) = true := beq_iff_eq.2 hm0
            have Hr3 : Hid (res = !d) := Lib.hid (by rw [Hr2.out, decide_eq_true hm0]; rfl)
            clear hm0
            go_wp2_with fail
            go_ret
            exact ⟨by rw [Hr3.out]; rfl, Hfr1.out⟩
          · have n0 : ((m : Int) == 0) = false := beq_eq_false_iff_ne.2 (by omega)
            have n0' : (m == 0) = false := beq_eq_false_iff_ne.2 hm0
            have Hr3 : Hid (res = false) := Lib.hid (by rw [Hr2.out, decide_eq_false hm0]; rfl)
            clear hm0
            go_wp2_with fail
            go_ret
            exact ⟨by rw [Hr3.out]; rfl, Hfr1.out⟩

theorem one_low (w : World) (op a b c : Int) (A : Option Addr) (m cp : Nat) (d : Bool) (places : Int) (h : op < 1) :
    Calls Try.prog 23 #[.agg #[.int .i64 op, .int .i64 a, .int .i64 b, .int .i64 c, .slice A m cp, .bool d], .int .i64 places] w fun e w' => e = .returned (.bool false) ∧ Fr Nob w w' := by
  have h1 : decide (op < 1) = true := by simp; omega
  go_enter Try.func23, Try.ntmps23
  go_wp2_with fail
  go_ret
  exact ⟨rfl, (Fr.refl _ _).alloc _⟩
theorem one_high (w : World) (op a b c : Int) (A : Option Addr) (m cp : Nat) (d : Bool) (places : Int) (h : 32 < op) :
    Calls Try.prog 23 #[.agg #[.int .i64 op, .int .i64 a, .int .i64 b, .int .i64 c, .slice A m cp, .bool d], .int .i64 places] w fun e w' => e = .returned (.bool false) ∧ Fr Nob w w' := by
  have h00 : decide (op < 1) = false := by simp; omega
  have h1 : decide ((32 : Int) < op) = true := by simp; omega
  go_enter Try.func23, Try.ntmps23
  go_wp2_with fail
  go_ret
  exact ⟨rfl, (Fr.refl _ _).alloc _⟩
theorem one_any (w : World) (i : Ins) (places : Int) (h : InsOk w i) :
    Calls Try.prog 23 #[insV i, .int .i64 places] w fun e w' => e = .returned (.bool (goodB i places)) ∧ Fr Nob w w' := by
  obtain ⟨⟨op, a, b, c⟩, v, cs, d⟩ := i
  unfold InsOk at h
  dsimp only at h
  obtain ⟨q1, q2, A, cp, rfl, q3, q4, q5⟩ := id h
  show Calls Try.prog 23 #[.agg #[.int .i64 op, .int .i64 a, .int .i64 b, .int .i64 c, .slice A cs.length cp, .bool d], .int .i64 places] w _
  unfold goodB
  dsimp only
  by_cases h1 : op < 1
  · have : headB op cs d = false := by unfold headB; simp; omega
    rw [this]; simpa using one_low w op a b c A cs.length cp d places h1
  · by_cases h2 : 32 < op
    · have : headB op cs d = false := by unfold headB; simp; omega
      rw [this]; simpa using one_high w op a b c A cs.length cp d places h2
    · have key := one_mid w places op a b c A cs.length cp d cs rfl h (by omega) (by omega)
      have hf : ∀ k, k < 3 → ∀ x, formOk (formB op k) x places = mayB (kindB op k) x places := fun k hk x => form_kind op (by omega) (by omega) k hk x places
      rw [hf 0 (by omega), hf 1 (by omega), hf 2 (by omega)] at key
      have hh : (mayB (kindB op 0) a places && mayB (kindB op 1) b places && mayB (kindB op 2) c places && (if op = 15 then cs.all csB && decide (cs.length ≤ 16) else decide (cs.length = 0) && !d)) = (headB op cs d && mayB (kindB op 0) a places && mayB (kindB op 1) b places && mayB (kindB op 2) c places && cs.all csB) := by
        generalize mayB (kindB op 0) a places = r0
        generalize mayB (kindB op 1) b places = r1
        generalize mayB (kindB op 2) c places = r2
        have g1 : decide ((1 : Int) ≤ op) = true := decide_eq_true (by omega)
        have g2 : decide (op ≤ (32 : Int)) = true := decide_eq_true (by omega)
        unfold headB
        rw [g1, g2]
        by_cases h3 : op = 15
        · rw [if_pos h3, beq_iff_eq.2 h3]
          generalize cs.all csB = r3
          generalize decide (cs.length ≤ 16) = r4
          cases r0 <;> cases r1 <;> cases r2 <;> cases r3 <;> cases r4 <;> rfl
        · rw [if_neg h3, beq_eq_false_iff_ne.2 h3]
          cases cs with
          | nil =>
            cases r0 <;> cases r1 <;> cases r2 <;> cases d <;> rfl
          | cons x l =>
            have g3 : decide ((x :: l).length = 0) = false := decide_eq_false (by simp)
            have g4 : ((x :: l).length == 0) = false := beq_eq_false_iff_ne.2 (by simp)
            rw [g3, g4]
            cases r0 <;> cases r1 <;> cases r2 <;> rfl
      rw [hh] at key
      exact key
end Go.Proofs.Ytgfigahamnokhaa
