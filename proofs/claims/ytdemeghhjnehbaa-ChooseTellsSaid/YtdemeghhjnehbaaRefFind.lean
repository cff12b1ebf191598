/- What met, others and without of the document's own channel do. -/
import Derived.Test.YtdemeghhjnehbaaRefRecv
set_option linter.unusedVariables false
set_option linter.unusedSimpArgs false
namespace Go.Proofs.Ytdemeghhjnehbaa
open Go.RowKit
set_option maxRecDepth 100000
theorem ref_met (w : World) (v : Value) (l : List Wk) (n : Nat) (hn : l.length = n) (t : Int) (h : Rd w 5 v n (wks l)) :
    Calls Try.prog 87 #[v, .int .i64 t] w fun e w' => e = .returned (.bool (l.any fun y => y.1 == t)) ∧ w = w' := by
  obtain ⟨_, hl, A, c, rfl, hc1, hc2, hA⟩ := h
  unfold maxLen at hl
  have hyes : ∀ (k : Nat) (x : Wk), l[k]? = some x → (x.1 == t) = true → (l.any fun y => y.1 == t) = true := fun k x hk e => List.any_eq_true.2 ⟨x, List.mem_of_getElem? hk, e⟩
  have hno : (∀ (k : Nat) (x : Wk), k < n → l[k]? = some x → (x.1 == t) = false) → (l.any fun y => y.1 == t) = false := fun hh => by
    rw [List.any_eq_false]
    intro y hy
    obtain ⟨k, hk, e⟩ := List.mem_iff_getElem.1 hy
    have := hh k y (by omega) (by rw [List.getElem?_eq_getElem hk, e])
    simp [this]
  have hg : ∀ k, k < n → ∃ x : Wk, l[k]? = some x ∧ (wks l)[k * 5 + 0]? = some (.int .i64 x.1) := fun k hk => by
    have h0 : l[k]? = some (l[k]'(by omega)) := by simp
    exact ⟨_, h0, (rowsGet wkEn (fun _ => rfl) l k 0 _ h0 (by omega)).trans rfl⟩
  have HA := Lib.hid hA; have Hyes := Lib.hid hyes; have Hno := Lib.hid hno; have Hg := Lib.hid hg
  generalize (l.any fun y => y.1 == t) = P at *
  clear hA hyes hno hg
  go_enter Try.func87, Try.ntmps87
  go_wp2_with fail
  go_loopw [5] (fun i wr => ∃ k : Nat, k ≤ n ∧ i = .int .i64 k ∧ w = wr ∧ Hid (∀ (j : Nat) (x : Wk), j < k → l[j]? = some x → (x.1 == t) = false)) (fun i _ => n - (intOf i).toNat)
  case atStart => exact ⟨0, Nat.zero_le _, rfl, rfl, Lib.hid fun j x hj => by omega⟩
  case round =>
    obtain ⟨k, hk, rfl, rfl, hall⟩ := hrel
    by_cases hlt : k < n
    · obtain ⟨x, hx, hq⟩ := Hg.out k hlt
      obtain ⟨g, o, rfl, hgl, hc⟩ := HA.out (by omega)
      have x0 := hc _ _ hq
      rw [Nat.add_zero] at x0
      have hki : (k : Int) < n := by omega
      have hy := Hyes.out k x hx
      have hall2 : (x.1 == t) = false → ∀ (j : Nat) (y : Wk), j < k + 1 → l[j]? = some y → (y.1 == t) = false := fun hb j y hj hy => by
        by_cases hjk : j = k
        · subst hjk; rw [hx] at hy; cases hy; exact hb
        · exact hall.out j y (by omega) hy
      have Hall2 := Lib.hid hall2; have Hy := Lib.hid hy
      generalize x.1 = a at *
      clear hall2 hy hc hq hx hall
      by_cases ha : a = t
      · have e1 : (a == t) = true := by simp [ha]
        have e2 : (a != t) = false := by simp [ha]
        have HY := Lib.hid (Hy.out e1)
        clear ha
        go_wp2_with fail
        go_ret
        exact ⟨by simp [HY.out], rfl⟩
      · have e1 : (a == t) = false := beq_eq_false_iff_ne.2 ha
        have e2 : (a != t) = true := by simp [bne, e1]
        have HY := Lib.hid (Hall2.out e1)
        clear ha
        go_wp2_with fail
        go_roundw
        case rel => exact ⟨k + 1, by omega, by go_num, by simp, HY⟩
        case measure => simp [intOf]; omega
    · obtain rfl : k = n := by omega
      have HP := Lib.hid (Hno.out fun j x hj hx => hall.out j x hj hx)
      go_wp2_with fail
      go_ret
      exact ⟨by simp [HP.out], rfl⟩
theorem ref_others (w : World) (v : Value) (l : List Wt) (n : Nat) (hn : l.length = n) (t : Int) (h : Rd w 3 v n (waits l)) :
    Calls Try.prog 78 #[v, .int .i64 t] w fun e w' => e = .returned (.bool (l.any fun y => y.1 != t)) ∧ w = w' := by
  obtain ⟨_, hl, A, c, rfl, hc1, hc2, hA⟩ := h
  unfold maxLen at hl
  have hyes : ∀ (k : Nat) (x : Wt), l[k]? = some x → (x.1 != t) = true → (l.any fun y => y.1 != t) = true := fun k x hk e => List.any_eq_true.2 ⟨x, List.mem_of_getElem? hk, e⟩
  have hno : (∀ (k : Nat) (x : Wt), k < n → l[k]? = some x → (x.1 != t) = false) → (l.any fun y => y.1 != t) = false := fun hh => by
    rw [List.any_eq_false]
    intro y hy
    obtain ⟨k, hk, e⟩ := List.mem_iff_getElem.1 hy
    have := hh k y (by omega) (by rw [List.getElem?_eq_getElem hk, e])
    simp [this]
  have hg : ∀ k, k < n → ∃ x : Wt, l[k]? = some x ∧ (waits l)[k * 3 + 0]? = some (.int .i64 x.1) := fun k hk => by
    have h0 : l[k]? = some (l[k]'(by omega)) := by simp
    exact ⟨_, h0, (rowsGet wtCells (fun _ => rfl) l k 0 _ h0 (by omega)).trans rfl⟩
  have HA := Lib.hid hA; have Hyes := Lib.hid hyes; have Hno := Lib.hid hno; have Hg := Lib.hid hg
  generalize (l.any fun y => y.1 != t) = P at *
  clear hA hyes hno hg
  go_enter Try.func78, Try.ntmps78
  go_wp2_with fail
  go_loopw [5] (fun i wr => ∃ k : Nat, k ≤ n ∧ i = .int .i64 k ∧ w = wr ∧ Hid (∀ (j : Nat) (x : Wt), j < k → l[j]? = some x → (x.1 != t) = false)) (fun i _ => n - (intOf i).toNat)
  case atStart => exact ⟨0, Nat.zero_le _, rfl, rfl, Lib.hid fun j x hj => by omega⟩
  case round =>
    obtain ⟨k, hk, rfl, rfl, hall⟩ := hrel
    by_cases hlt : k < n
    · obtain ⟨x, hx, hq⟩ := Hg.out k hlt
      obtain ⟨g, o, rfl, hgl, hc⟩ := HA.out (by omega)
      have x0 := hc _ _ hq
      rw [Nat.add_zero] at x0
      have hki : (k : Int) < n := by omega
      have hy := Hyes.out k x hx
      have hall2 : (x.1 != t) = false → ∀ (j : Nat) (y : Wt), j < k + 1 → l[j]? = some y → (y.1 != t) = false := fun hb j y hj hy => by
        by_cases hjk : j = k
        · subst hjk; rw [hx] at hy; cases hy; exact hb
        · exact hall.out j y (by omega) hy
      have Hall2 := Lib.hid hall2; have Hy := Lib.hid hy
      generalize x.1 = a at *
      clear hall2 hy hc hq hx hall
      by_cases ha : a = t
      · have e1 : (a == t) = true := by simp [ha]
        have e2 : (a != t) = false := by simp [ha]
        have HY := Lib.hid (Hall2.out e2)
        clear ha
        go_wp2_with fail
        go_roundw
        case rel => exact ⟨k + 1, by omega, by go_num, by simp, HY⟩
        case measure => simp [intOf]; omega
      · have e1 : (a == t) = false := beq_eq_false_iff_ne.2 ha
        have e2 : (a != t) = true := by simp [bne, e1]
        have HY := Lib.hid (Hy.out e2)
        clear ha
        go_wp2_with fail
        go_ret
        exact ⟨by simp [HY.out], rfl⟩
    · obtain rfl : k = n := by omega
      have HP := Lib.hid (Hno.out fun j x hj hx => hall.out j x hj hx)
      go_wp2_with fail
      go_ret
      exact ⟨by simp [HP.out], rfl⟩
theorem filt_take (q : List Wt) (t : Int) (k : Nat) (x : Wt) (hk : q[k]? = some x) : notT (q.take (k + 1)) t = if x.1 = t then notT (q.take k) t else notT (q.take k) t ++ [x] := by
  unfold notT
  rw [List.take_add_one, List.filter_append, hk]
  split
  · next h => simp [h]
  · next h => simp [h]
set_option maxHeartbeats 2000000 in
theorem ref_without (w : World) (v : Value) (l : List Wt) (n : Nat) (hn : l.length = n) (hle : n ≤ 1000) (t : Int) (h : Rd w 3 v n (waits l)) :
    Calls Try.prog 79 #[v, .int .i64 t] w fun e w' => ∃ (A : Option Addr) (c p : Nat), e = .returned (.slice A p c) ∧ Fr Nob w w' ∧ (notT l t).length = p ∧ Sl w' (From w.heap.size) 63 3 (.slice A p c) p (waits (notT l t)) := by
  obtain ⟨_, hl, A, c, rfl, hc1, hc2, hA⟩ := h
  have hg : ∀ k, k < n → ∃ x : Wt, l[k]? = some x ∧ ∀ j u, j < 3 → (wtCells x)[j]? = some u → (waits l)[k * 3 + j]? = some u := fun k hk => by
    have h0 : l[k]? = some (l[k]'(by omega)) := by simp
    exact ⟨_, h0, fun j u hj hu => (rowsGet wtCells (fun _ => rfl) l k j _ h0 hj).trans hu⟩
  have HA := Lib.hid hA; have Hg := Lib.hid hg; have Hn := Lib.hid hn
  clear hA hg hn
  go_enter Try.func79, Try.ntmps79
  go_wp2_with fail
  go_loopw [5, 6] (fun vl i wr => ∃ (f : List Wt) (k p : Nat), f = notT (l.take k) t ∧ f.length = p ∧ p ≤ k ∧ k ≤ n ∧ i = .int .i64 k ∧ ∃ A c, vl = .slice A p c ∧ Fr (From w.heap.size) w wr ∧ Sl wr (From w.heap.size) 63 3 (.slice A p c) p (waits f)) (fun _ i _ => n - (intOf i).toNat)
  case atStart => exact ⟨[], 0, 0, rfl, rfl, Nat.le_refl _, Nat.zero_le _, rfl, none, 0, rfl, Fr.refl _ _, Sl.nil _ _ _ _⟩
  case round =>
    obtain ⟨f, k', p, hfe, hfl, hpk, hkj, rfl, A6, c6, rfl, hfr6, hs6⟩ := hrel
    have hf6 : Fr Nob w wr := hfr6.mono fun k hk q => by unfold From at q; omega
    have Hf6 := Lib.hid hf6; have Hfr6 := Lib.hid hfr6; have Hs6 := Lib.hid hs6
    have Hfe := Lib.hid hfe; have Hfl := Lib.hid hfl
    clear hf6 hfr6 hs6 hfe hfl
    by_cases hlt6 : k' < n
    · obtain ⟨x, hx, hq⟩ := Hg.out k' hlt6
      obtain ⟨g, o, rfl, hgl, hc⟩ := HA.out (by omega)
      have hst := filt_take l t k' x hx
      rw [← Hfe.out] at hst
      obtain ⟨x0, x1, x2⟩ := x
      have y0 := Hf6.out.cell (p := ⟨g, o + (k' * 3 + 0), none⟩) id (hc _ _ (hq 0 _ (by omega) rfl))
      have y1 := Hf6.out.cell (p := ⟨g, o + (k' * 3 + 1), none⟩) id (hc _ _ (hq 1 _ (by omega) rfl))
      have y2 := Hf6.out.cell (p := ⟨g, o + (k' * 3 + 2), none⟩) id (hc _ _ (hq 2 _ (by omega) rfl))
      rw [← Nat.add_assoc] at y1 y2
      rw [Nat.add_zero] at y0
      have hki : (k' : Int) < n := by omega
      have hgw : g < wr.heap.size := by have := Hf6.out.size; omega
      have Hst := Lib.hid hst
      clear hst hc hq hx
      by_cases hxt : x0 = t
      · have e1 : (x0 != t) = false := by simp [hxt]
        have Hst2 : Hid (notT (l.take (k' + 1)) t = f) := Lib.hid (by have := Hst.out; rw [if_pos hxt] at this; exact this)
        clear hxt Hst
        go_wp2_with fail
        go_roundw
        case rel => exact ⟨f, k' + 1, p, Hst2.out.symm, Hfl.out, by omega, by omega, by go_num, A6, c6, rfl, Hfr6.out, Hs6.out⟩
        case measure => simp [intOf]; omega
      · have e1 : (x0 != t) = true := by simp [hxt]
        have Hst2 : Hid (notT (l.take (k' + 1)) t = f ++ [(x0, x1, x2)]) := Lib.hid (by have := Hst.out; rw [if_neg hxt] at this; exact this)
        clear hxt Hst
        go_wp2_with (at_builtin; refine wpList_append1 wr rfl _ _ _ rfl (From w.heap.size) 63 _ 3 24 Try.underlying47 info_wait rfl (by omega) (.slice A6 p c6) p (waits f) [.int .i64 x0, .int .i64 x1, .int .i64 x2] rfl Hs6.out rfl rfl rfl (by omega) (by omega) ?_; intro v7 w7 hs7 hf7 hz7; obtain ⟨A7, c7, rfl⟩ := hs7.slice; have Hs7 := Lib.hid hs7; have Hf7 := Lib.hid hf7; clear hs7 hf7 hz7)
        have hz := Hfr6.out.size
        have Hs8 : Hid (Sl w7 (From w.heap.size) 63 3 (.slice A7 (p + 1) c7) (p + 1) (waits (f ++ [(x0, x1, x2)]))) := Lib.hid (by have := Hs7.out.mono (S' := From w.heap.size) (fun k hk q => by rcases q with q | q; exact q; unfold From; omega); simpa [waits] using this)
        have Hf8 := Lib.hid (Hfr6.out.trans0 Hf7.out)
        clear Hs7 Hf7 hz y0 y1 y2
        go_roundw
        case rel => exact ⟨f ++ [(x0, x1, x2)], k' + 1, p + 1, Hst2.out.symm, by rw [List.length_append, Hfl.out]; rfl, by omega, by omega, by go_num, A7, c7, rfl, Hf8.out, Hs8.out⟩
        case measure => simp [intOf]; omega
    · obtain rfl : k' = n := by omega
      have Hlast : Hid (f = notT l t) := Lib.hid (by rw [Hfe.out, List.take_of_length_le (by have := Hn.out; omega)])
      go_wp2_with fail
      go_ret
      exact ⟨A6, c6, p, rfl, Hf6.out, by rw [← Hlast.out]; exact Hfl.out, by rw [← Hlast.out]; exact Hs6.out⟩
end Go.Proofs.Ytdemeghhjnehbaa
