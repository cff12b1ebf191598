/- Tasks in an arena: Set. -/
import Derived.Test.YteabiaoklpfbdaaArenaG
set_option linter.unusedVariables false
set_option linter.unusedSimpArgs false
namespace Go.Proofs.Yteabiaoklpfbdaa
open Go.RowKit
set_option maxRecDepth 100000
/-- A row of such things with number i another one. -/
def rowSet (cs : List Value) (i : Nat) (L : List Value) : List Value := cs.take (i * 18) ++ L ++ cs.drop (i * 18 + 18)
theorem rowSet_len {cs : List Value} {i n : Nat} {L : List Value} (hn : cs.length = n * 18) (hi : i < n) (hL : L.length = 18) : (rowSet cs i L).length = n * 18 := by
  have : i * 18 + 18 ≤ n * 18 := by omega
  unfold rowSet; simp; omega
theorem rowSet_get {cs : List Value} {i n : Nat} {L : List Value} (hn : cs.length = n * 18) (hi : i < n) (hL : L.length = 18) (j : Nat) : (rowSet cs i L)[j]? = if i * 18 ≤ j ∧ j < i * 18 + 18 then L[j - i * 18]? else cs[j]? := by
  have h0 : i * 18 + 18 ≤ n * 18 := by omega
  have h1 : (cs.take (i * 18)).length = i * 18 := by rw [List.length_take]; omega
  unfold rowSet
  rw [List.append_assoc, List.getElem?_append]
  split
  · next h =>
    rw [h1] at h
    rw [List.getElem?_take, if_pos h, if_neg (by omega)]
  · next h =>
    rw [h1] at h ⊢
    rw [List.getElem?_append]
    split
    · next h2 => rw [hL] at h2; rw [if_pos (by omega)]
    · next h2 =>
      rw [hL] at h2 ⊢
      rw [if_neg (by omega), List.getElem?_drop]
      congr 1; omega
theorem setCells_behind (b : Nat) (T : TypeId) (fr : Nat × Nat) : ∀ (vs : List Value) (o : Nat) (w : World) (blk blk' : Array Value), w.heap[b]? = some (.cells blk T fr) → (w.setCells b o vs).heap[b]? = some (.cells blk' T fr) → o + vs.length ≤ blk.size → ∀ j, o + vs.length ≤ j → blk'[j]? = blk[j]?
  | [], o, w, blk, blk', h, h', _, j, _ => by
    have : some (Obj.cells blk T fr) = some (Obj.cells blk' T fr) := h.symm.trans h'
    injection this with this; injection this with this; rw [this]
  | v :: r, o, w, blk, blk', h, h', hs, j, hj => by
    simp only [List.length_cons] at hs hj
    have := setCells_behind b T fr r (o + 1) (w.setCell ⟨b, o, none⟩ v) (blk.setIfInBounds o v) blk' (blk_set h o v) h' (by simp; omega) j (by omega)
    rw [this, Array.getElem?_setIfInBounds, if_neg (by omega)]
theorem Sl.setRows {w : World} {S : Nat → Prop} {T : TypeId} {n cap g off i : Nat} {cs L : List Value} (h : Sl w S T 18 (.slice (some ⟨g, off, none⟩) n cap) n cs) (hi : i < n) (hL : L.length = 18) : Sl (w.setCells g (off + i * 18) L) S T 18 (.slice (some ⟨g, off, none⟩) n cap) n (rowSet cs i L) := by
  have hlen := h.1
  refine ⟨rowSet_len hlen hi hL, ?_⟩
  rcases h.2 with ⟨h', _⟩ | ⟨g', off', cap', blk, hv, hg, hb, h1, h2, h3, h4⟩
  · cases h'
  · cases hv
    have hle : (i + 1) * 18 ≤ n * 18 := Nat.mul_le_mul_right _ hi
    have hle2 : n * 18 ≤ cap * 18 := Nat.mul_le_mul_right _ h1
    obtain ⟨blk', q1, q2, q3, q4⟩ := setCells_blk g T (0, 0) L (off + i * 18) w blk hb (by omega)
    refine .inr ⟨g, off, cap, blk', rfl, hg, q1, h1, h2, by omega, fun j u hj => ?_⟩
    rw [rowSet_get hlen hi hL] at hj
    split at hj
    · next hin =>
      have := q4 (j - i * 18) u hj
      rwa [show off + i * 18 + (j - i * 18) = off + j by omega] at this
    · next hout =>
      have hjc := h4 j u hj
      by_cases hlo : j < i * 18
      · rw [q3 (off + j) (by omega)]; exact hjc
      · -- behind the row
        have hj18 : i * 18 + 18 ≤ j := by omega
        have : blk'[off + j]? = blk[off + j]? := setCells_behind g T (0, 0) L (off + i * 18) w blk blk' hb q1 (by omega) (off + j) (by omega)
        rw [this]; exact hjc
/-- The last operation of a region that draws: the store of a row. -/
theorem last_store {P : Program} {md : Region.Mode} {ops : Array Oper} {Q : Exit → Act → World → Prop} {S : World → Prop} {fuel : Nat} {listed : Array Bool} {a : Act} {w : World} (i : Nat) (o : Oper) (hr : Region.ready md ops listed = [i]) (ho : ops[i]? = some o) (hgd : o.guard = none)
    (ty : TypeId) (x y : Operand) (hop : o.op = .store ty x y) (b off : Nat) (cells : Array Value) (hx : a.eval x = .pointer (some ⟨b, off, none⟩)) (hy : a.eval y = .agg cells) (ht : w.there b off cells.size) (hi : (P.info? ty).map (·.size) = some cells.size) (h1 : cells.all (·.oneCell') = true)
    (hS : S (w.setCells b off cells.toList)) (hd : Region.ready md ops (listed.setIfInBounds i true) = []) (h : Q .normal (a.put o.dst undef) (w.setCells b off cells.toList)) : wpAnyH P md ops Q S (fuel + 1) listed a w := by
  refine wpAnyH_ready hr (by simp) ?_
  refine AllReadyH.cons ho (fun K hK => ?_) AllReadyH.nil
  have hw : Region.wanted o (yielded ops a.tmps) = true := by simp [Region.wanted, hgd]
  rw [if_pos hw]
  exact wp_store_mid ty x y hop b off cells hx hy ht hi h1 (hK.out _ _ hS fun _ => wpAnyH_done hd h _)
end Go.Proofs.Yteabiaoklpfbdaa
