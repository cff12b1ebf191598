/- Further words: append of any slice that is read. -/
import Derived.Test.YtdemeghhjnehbaaProg
import Derived.Test.YtdemeghhjnehbaaBase
import Derived.Laws.OwnMore
set_option linter.unusedVariables false
set_option linter.unusedSimpArgs false
namespace Go.Proofs.Ytdemeghhjnehbaa
open Go.RowKit
set_option maxRecDepth 100000
theorem info_int2 : (Try.prog.info? 3).map (fun i => (i.zero, i.size, i.bytes)) = some (some (.int .i64 0), 1, 8) := by kernel_rfl

theorem run_append_empty {P : Program} (w : World) (t ty e : TypeId) (i : TypeInfo) (ht : P.underlying t = some (.slice e)) (hi : P.info? e = some i) (B : Option Addr) (n cap : Nat) (A : Option Addr) (c : Nat) (hA : A = none) (hn : n ≤ cap) :
    (Builtin.append_ #[t, t] ty #[.slice B n cap, .slice A 0 c]).run P w = .ok (.slice B n cap) w := by
  subst hA
  cases B with
  | none => simp [Builtin.append_, run_underlying ht, sizeOf, typeInfo, hi, Builtin.lenOf, hn, run_firstCells_none]
  | some b => simp [Builtin.append_, run_underlying ht, sizeOf, typeInfo, hi, Builtin.lenOf, hn, run_firstCells_none, storeCells]
theorem run_append_rd {P : Program} (w : World) (S : Nat → Prop) (t ty e : TypeId) (z : Value) (size bytes : Nat) (ht : P.underlying t = some (.slice e)) (hinfo : (P.info? e).map (fun i => (i.zero, i.size, i.bytes)) = some (some z, size, bytes)) (hzs : z.cells.size = size) (hsz : 0 < size)
    (v : Value) (n : Nat) (xs : List Value) (hown : Sl w S e size v n xs) (v2 : Value) (m : Nat) (news : List Value) (hrd : Rd w size v2 m news) (h1 : ∀ u ∈ news, u.oneCell' = true) (hb0 : 0 < bytes) (hbytes : (n + m) * bytes ≤ 140737488355328) :
    ∃ v' w', (Builtin.append_ #[t, t] ty #[v, v2]).run P w = .ok v' w' ∧ Sl w' (fun k => S k ∨ w.heap.size ≤ k) e size v' (n + m) (xs ++ news) ∧ Fr S w w' := by
  obtain ⟨i, hi, hz, hs1, hb1⟩ := info_parts hinfo
  have hlen : n + m ≤ 140737488355328 := Nat.le_trans (Nat.le_mul_of_pos_right _ hb0) hbytes
  obtain ⟨hl, hm, A, c, rfl, hc1, hc2, hA⟩ := hrd
  cases A with
  | some ad =>
    refine run_append_sl w S t ty e i z size bytes ht hi hz hs1 hb1 hzs hsz v n xs hown ad m c news hl (fun j u hj => ?_) h1 (by simp only [maxLen]; omega) hbytes
    have hjl := (List.getElem?_eq_some_iff.1 hj).1
    have hm0 : 0 < m := by rcases Nat.eq_zero_or_pos m with h | h; subst h; simp at hl; subst hl; simp at hjl; exact h
    obtain ⟨g, o, ha, _, hc⟩ := hA hm0
    cases ha
    rw [Addr.add_lit]
    exact hc j u hj
  | none =>
    have hm0 : m = 0 := by
      rcases Nat.eq_zero_or_pos m with h | h
      · exact h
      · obtain ⟨g, o, ha, _⟩ := hA h; cases ha
    subst hm0
    obtain rfl : news = [] := List.eq_nil_of_length_eq_zero (by simpa using hl)
    obtain ⟨B, cap, rfl⟩ := hown.slice
    have hn : n ≤ cap := by
      rcases hown.2 with ⟨h, _⟩ | ⟨g, off, cap', blk, h, _, _, h2, _⟩
      · cases h; exact Nat.le_refl _
      · cases h; exact h2
    exact ⟨_, _, run_append_empty w t ty e i ht hi B n cap none c rfl hn, by simpa using hown.mono fun k _ q => .inl q, Fr.refl S w⟩
theorem wpList_append_rd {P : Program} (w : World) {ops : Array Oper} {rest : List Oper} {o : Oper} {a : Act} {Q : Exit → Act → World → Prop} (hgd : o.guard = none) (s x : Operand) (t : TypeId)
    (ho : o.op = .call { callee := .builtin .append, args := #[s, x], argTypes := #[t, t] })
    (S : Nat → Prop) (e : TypeId) (z : Value) (size bytes : Nat) (ht : P.underlying t = some (.slice e)) (hinfo : (P.info? e).map (fun i => (i.zero, i.size, i.bytes)) = some (some z, size, bytes)) (hzs : z.cells.size = size) (hsz : 0 < size)
    (v : Value) (n : Nat) (xs : List Value) (hs : a.eval s = v) (hown : Sl w S e size v n xs) (v2 : Value) (m : Nat) (news : List Value) (hx : a.eval x = v2) (hrd : Rd w size v2 m news) (h1 : ∀ u ∈ news, u.oneCell' = true) (hb0 : 0 < bytes) (hbytes : (n + m) * bytes ≤ 140737488355328)
    (h : ∀ v' w', Sl w' (fun k => S k ∨ w.heap.size ≤ k) e size v' (n + m) (xs ++ news) → Fr S w w' → wpList P ops Q rest (a.put o.dst v') w') : wpList P ops Q (o :: rest) a w := by
  refine wpList_plain hgd fun K hK => ?_
  obtain ⟨v', w', hr, h2, h3⟩ := run_append_rd (P := P) w S t o.type e z size bytes ht hinfo hzs hsz v n xs hown v2 m news hrd h1 hb0 hbytes
  unfold Oper.wp execOp
  simp only [ho, resolve, invoke, builtin, Sem.run_bind, Sem.run_pure, Result.andThen_ok, List.map_toArray, List.map_cons, List.map_nil, hs, hx, hr]
  exact hK _ _ (h v' w' h2 h3)
theorem step_append_rd {P : Program} {ops : Array Oper} {o : Oper} {a : Act} {K : Act → World → Prop} {Q : Exit → Act → World → Prop} {E : Prop} (w : World) (hg : o.guard = none) (s x : Operand) (t : TypeId)
    (ho : o.op = .call { callee := .builtin .append, args := #[s, x], argTypes := #[t, t] })
    (S : Nat → Prop) (e : TypeId) (z : Value) (size bytes : Nat) (ht : P.underlying t = some (.slice e)) (hinfo : (P.info? e).map (fun i => (i.zero, i.size, i.bytes)) = some (some z, size, bytes)) (hzs : z.cells.size = size) (hsz : 0 < size)
    (v : Value) (n : Nat) (xs : List Value) (hs : a.eval s = v) (hown : Sl w S e size v n xs) (v2 : Value) (m : Nat) (news : List Value) (hx : a.eval x = v2) (hrd : Rd w size v2 m news) (h1 : ∀ u ∈ news, u.oneCell' = true) (hb0 : 0 < bytes) (hbytes : (n + m) * bytes ≤ 140737488355328)
    (h : ∀ v' w', Sl w' (fun k => S k ∨ w.heap.size ≤ k) e size v' (n + m) (xs ++ news) → Fr S w w' → K (a.put o.dst v') w') :
    if Region.wanted o (yielded ops a.tmps) = true then Oper.wp P o a w K Q else E := by
  have hw : Region.wanted o (yielded ops a.tmps) = true := by simp [Region.wanted, hg]
  rw [if_pos hw]
  obtain ⟨v', w', hr, h2, h3⟩ := run_append_rd (P := P) w S t o.type e z size bytes ht hinfo hzs hsz v n xs hown v2 m news hrd h1 hb0 hbytes
  unfold Oper.wp execOp
  simp only [ho, resolve, invoke, builtin, Sem.run_bind, Sem.run_pure, Result.andThen_ok, List.map_toArray, List.map_cons, List.map_nil, hs, hx, hr]
  exact h v' w' h2 h3
theorem ints_one (l : List Int) : ∀ u ∈ ints l, u.oneCell' = true := by
  intro u hu; obtain ⟨x, _, rfl⟩ := List.mem_map.1 hu; rfl

end Go.Proofs.Ytdemeghhjnehbaa
