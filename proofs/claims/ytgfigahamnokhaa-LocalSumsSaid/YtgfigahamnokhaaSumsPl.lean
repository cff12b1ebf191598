/- Sets, moves and sums: what they are as a program and what they do to the registers. -/
import Derived.Test.YtgfigahamnokhaaLocalAwake
import Derived.Test.YtgfigahamnokhaaOpenTriples
set_option linter.unusedVariables false
set_option linter.unusedSimpArgs false
namespace Go.Proofs.Ytgfigahamnokhaa
open Go.RowKit
set_option maxRecDepth 100000
def insT (p : Tri) : Ins := if p.1.tmod 3 = 0 then plainI 1 (p.1 % 8) (p.2.2 % 1000 - 500) 0 else if p.1.tmod 3 = 1 then plainI 2 (p.1 % 8) (p.2.1 % 8) 0 else plainI 3 (p.1 % 8) (p.2.2 % 1000 - 500) 0
def wT (r : Nat → Int) (p : Tri) : Nat → Int :=
  if p.1.tmod 3 = 0 then upd r (p.1 % 8).toNat (p.2.2 % 1000 - 500) else if p.1.tmod 3 = 1 then upd r (p.1 % 8).toNat (r (p.2.1 % 8).toNat) else upd r (p.1 % 8).toNat (addT (r (p.1 % 8).toNat) (p.2.2 % 1000 - 500))
theorem regB_mod (x : Int) : regB (x % 8) = true := by
  have h1 := Int.emod_nonneg x (show (8 : Int) ≠ 0 by omega)
  have h2 := Int.emod_lt_of_pos x (show (0 : Int) < 8 by omega)
  simp [regB, h1, h2]
theorem good_set (x c n : Int) : goodB (plainI 1 (x % 8) c 0) n = true := by
  show (true && regB (x % 8) && true && true && true) = true
  rw [regB_mod]; rfl
theorem good_move (x y n : Int) : goodB (plainI 2 (x % 8) (y % 8) 0) n = true := by
  show (true && regB (x % 8) && regB (y % 8) && true && true) = true
  rw [regB_mod, regB_mod]; rfl
theorem good_inc (x c n : Int) : goodB (plainI 3 (x % 8) c 0) n = true := by
  show (true && regB (x % 8) && true && true && true) = true
  rw [regB_mod]; rfl
theorem good_insT (p : Tri) (n : Int) : goodB (insT p) n = true := by
  unfold insT
  split
  · exact good_set _ _ _
  · split
    · exact good_move _ _ _
    · exact good_inc _ _ _
theorem prog_insT (L : List Tri) (h : L.length ≤ 40) : progB (L.map insT) = true := by
  unfold progB
  simp only [List.length_map, Bool.and_eq_true, decide_eq_true_eq, List.all_eq_true]
  refine ⟨by omega, fun i hi => ?_⟩
  obtain ⟨p, _, rfl⟩ := List.mem_map.1 hi
  exact good_insT p _
theorem ok_insT (w : World) (L : List Tri) : ∀ i ∈ L.map insT, InsOk w i := fun i hi => by
  obtain ⟨p, _, rfl⟩ := List.mem_map.1 hi
  unfold insT
  split
  · exact plain_ok _ _ _ _ _
  · split <;> exact plain_ok _ _ _ _ _
theorem step_insT (p : Tri) (k : Nat) (r : Nat → Int) (now : Int) : mineB (insT p).1.1 = true ∧ stepR (insT p).1.1 (insT p).1.2.1 (insT p).1.2.2.1 k r now = ((k : Int) + 1, wT r p, false, (0 : Int), false) := by
  unfold insT wT
  split
  · exact ⟨rfl, rfl⟩
  · split <;> exact ⟨rfl, rfl⟩
theorem do_insT (L : List Tri) (h : L.length ≤ 40) (k : Nat) (p : Tri) (hk : L[k]? = some p) (r : Nat → Int) (now : Int) : doR (L.map insT) k r now = (((k : Int) + 1, wT r p, false, 0, false), 0) := by
  have hlt := (List.getElem?_eq_some_iff.1 hk).1
  have hg : (L.map insT)[k]? = some (insT p) := by rw [List.getElem?_map, hk]; rfl
  unfold doR
  rw [prog_insT L h, if_neg (by simp; omega), if_neg (by simp; omega), Int.toNat_natCast, hg]
  obtain ⟨h1, h2⟩ := step_insT p k r now
  dsimp only
  rw [h1, h2]; rfl
theorem end_insT (L : List Tri) (h : L.length ≤ 40) (r : Nat → Int) (now : Int) : doR (L.map insT) L.length r now = (((L.length : Int), r, false, 0, true), 0) := by
  unfold doR
  rw [prog_insT L h, if_neg (by simp), if_pos (by simp)]
end Go.Proofs.Ytgfigahamnokhaa
