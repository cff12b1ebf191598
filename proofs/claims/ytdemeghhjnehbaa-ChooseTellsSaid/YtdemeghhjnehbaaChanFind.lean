/- slices.ContainsFunc with the closures of Wait and of end. -/
import Derived.Test.YtdemeghhjnehbaaChanRecv
import Derived.IntWalk
set_option linter.unusedVariables false
set_option linter.unusedSimpArgs false
namespace Go.Proofs.Ytdemeghhjnehbaa
open Go.RowKit
set_option maxRecDepth 100000
theorem rowsGet {α : Type} (en : α → List Value) {sz : Nat} (hen : ∀ a, (en a).length = sz) : ∀ (l : List α) (i j : Nat) (a : α), l[i]? = some a → j < sz → (l.flatMap en)[i * sz + j]? = (en a)[j]?
  | [], i, j, a, h, _ => by simp at h
  | x :: l, 0, j, a, h, hj => by
    simp at h; subst h
    rw [List.flatMap_cons, Nat.zero_mul, Nat.zero_add, List.getElem?_append_left (by rw [hen]; exact hj)]
  | x :: l, i + 1, j, a, h, hj => by
    rw [List.flatMap_cons, List.getElem?_append_right (by rw [hen, Nat.add_mul]; omega), hen, show (i + 1) * sz + j - sz = i * sz + j by rw [Nat.add_mul]; omega]
    exact rowsGet en hen l i j a (by simpa using h) hj
def IxQ (P : Bool) (w : World) (e : Ending) (w' : World) : Prop := ∃ r : Int, e = .returned (.int .i64 r) ∧ decide (0 ≤ r) = P ∧ Fr Nob w w'

/-- waits: the test. -/
theorem test_waits (w : World) (x : Wt) (t : Int) (pb : Nat) (hp : w.cell? ⟨pb, 0, none⟩ = some (.int .i64 t)) :
    Calls Try.prog 66 #[.agg #[.int .i64 x.1, .int .i64 x.2.1, .int .i64 x.2.2], .pointer (some ⟨pb, 0, none⟩)] w fun e w' => e = .returned (.bool (x.1 != t)) ∧ Fr Nob w w' := by
  obtain ⟨a, d, e⟩ := x
  have hp1 := ((Fr.refl Nob w).alloc (.cells #[.int .i64 a, .int .i64 d, .int .i64 e] 63)).cell (p := ⟨pb, 0, none⟩) id hp
  go_enter Try.func66, Try.ntmps66
  go_wp2_with fail
  go_ret
  exact ⟨by first | rfl | simp, (Fr.refl _ _).alloc _⟩
set_option maxHeartbeats 1000000 in
theorem index_waits (w : World) (v : Value) (l : List Wt) (n pb : Nat) (t : Int) (hn : l.length = n) (h : Rd w 3 v n (l.flatMap wtCells)) (hp : w.cell? ⟨pb, 0, none⟩ = some (.int .i64 t)) :
    Calls Try.prog 82 #[v, .func (.func 66) #[] #[.pointer (some ⟨pb, 0, none⟩)]] w (IxQ (l.any fun y => y.1 != t) w) := by
  obtain ⟨_, hl, A, c, rfl, hc1, hc2, hA⟩ := h
  unfold maxLen at hl
  have hyes : ∀ (k : Nat) (x : Wt), l[k]? = some x → (x.1 != t) = true → (l.any fun y => y.1 != t) = true := fun k x hk e => List.any_eq_true.2 ⟨x, List.mem_of_getElem? hk, e⟩
  have hno : (∀ (k : Nat) (x : Wt), k < n → l[k]? = some x → (x.1 != t) = false) → (l.any fun y => y.1 != t) = false := fun hh => by
    rw [List.any_eq_false]
    intro y hy
    obtain ⟨k, hk, e⟩ := List.mem_iff_getElem.1 hy
    rw [hh k y (by omega) (by rw [List.getElem?_eq_getElem hk, e])]; simp
  have hg : ∀ k, k < n → ∃ x : Wt, l[k]? = some x ∧ ∀ j u, j < 3 → (wtCells x)[j]? = some u → (l.flatMap wtCells)[k * 3 + j]? = some u := fun k hk => by
    have h0 : l[k]? = some (l[k]'(by omega)) := by simp
    exact ⟨_, h0, fun j u hj hu => (rowsGet wtCells (fun _ => rfl) l k j _ h0 hj).trans hu⟩
  have HA := Lib.hid hA; have Hyes := Lib.hid hyes; have Hno := Lib.hid hno; have Hg := Lib.hid hg; have Hp := Lib.hid hp
  generalize (l.any fun y => y.1 != t) = P at *
  clear hA hyes hno hg hp
  go_enter Try.func82, Try.ntmps82
  go_wp2_with fail
  go_loopw [8] (fun i wr => ∃ k : Nat, k ≤ n ∧ i = .int .i64 k ∧ Fr Nob w wr ∧ Hid (∀ (j : Nat) (x : Wt), j < k → l[j]? = some x → (x.1 != t) = false)) (fun i _ => n - (intOf i).toNat)
  case atStart => exact ⟨0, Nat.zero_le _, rfl, Fr.refl _ _, Lib.hid fun j x hj => by omega⟩
  case round =>
    obtain ⟨k, hk, rfl, hfr, hall⟩ := hrel
    have Hfr := Lib.hid hfr
    clear hfr
    by_cases hlt : k < n
    · obtain ⟨x, hx, hq⟩ := Hg.out k hlt
      obtain ⟨g, o, rfl, hgl, hc⟩ := HA.out (by omega)
      have hbc := fun W (hf : Fr Nob w W) => test_waits W x t pb (hf.cell id Hp.out)
      have hy := Hyes.out k x hx
      have hall2 : (x.1 != t) = false → ∀ (j : Nat) (y : Wt), j < k + 1 → l[j]? = some y → (y.1 != t) = false := fun hb j y hj hy => by
        by_cases hjk : j = k
        · subst hjk; rw [hx] at hy; cases hy; exact hb
        · exact hall.out j y (by omega) hy
      generalize (x.1 != t) = r at *
      have x0 := Hfr.out.cell (p := ⟨g, o + (k * 3 + 0), none⟩) id (hc _ _ (hq 0 _ (by omega) rfl))
      have x1 := Hfr.out.cell (p := ⟨g, o + (k * 3 + 1), none⟩) id (hc _ _ (hq 1 _ (by omega) rfl))
      have x2 := Hfr.out.cell (p := ⟨g, o + (k * 3 + 2), none⟩) id (hc _ _ (hq 2 _ (by omega) rfl))
      rw [← Nat.add_assoc] at x1 x2
      rw [Nat.add_zero] at x0
      obtain ⟨a, d, e⟩ := x
      dsimp only at x0 x1 x2 hbc
      have Hbc := Lib.hid hbc; have Hy := Lib.hid hy; have Hall2 := Lib.hid hall2
      have hki : (k : Int) < n := by omega
      clear hc hq hx hbc hy hall2
      cases r with
      | false =>
        have Hn2 := Lib.hid (Hall2.out rfl)
        go_wp2_with fail
        refine (Hbc.out _ Hfr.out).mono ?_
        rintro e w2 ⟨rfl, hf2⟩
        have Hf2 := Lib.hid (Hfr.out.trans0 hf2)
        clear hf2
        go_wp2_with fail
        go_roundw
        case rel => exact ⟨k + 1, by omega, by go_num, Hf2.out, Hn2⟩
        case measure => simp [intOf]; omega
      | true =>
        have hP := Hy.out rfl
        have HP := Lib.hid hP
        clear hP
        go_wp2_with fail
        refine (Hbc.out _ Hfr.out).mono ?_
        rintro e w2 ⟨rfl, hf2⟩
        have Hf2 := Lib.hid (Hfr.out.trans0 hf2)
        clear hf2
        go_wp2_with fail
        go_ret
        exact ⟨k, rfl, by rw [HP.out]; simp, Hf2.out⟩
    · obtain rfl : k = n := by omega
      have HP := Lib.hid (Hno.out fun j x hj hx => hall.out j x hj hx)
      go_wp2_with fail
      go_ret
      exact ⟨-1, rfl, by rw [HP.out]; rfl, Hfr.out⟩
theorem contains_waits (w : World) (v : Value) (l : List Wt) (n pb : Nat) (t : Int) (hn : l.length = n) (h : Rd w 3 v n (l.flatMap wtCells)) (hp : w.cell? ⟨pb, 0, none⟩ = some (.int .i64 t)) :
    Calls Try.prog 68 #[v, .func (.func 66) #[] #[.pointer (some ⟨pb, 0, none⟩)]] w fun e w' => e = .returned (.bool (l.any fun y => y.1 != t)) ∧ Fr Nob w w' := by
  have H := Lib.hid (index_waits w v l n pb t hn h hp)
  obtain ⟨_, _, A, c, rfl, _⟩ := h
  generalize (l.any fun y => y.1 != t) = P at *
  clear hp
  go_enter Try.func68, Try.ntmps68
  go_wp2_with fail
  refine H.out.mono ?_
  rintro e w' ⟨r, rfl, hr, hf⟩
  have Hf := Lib.hid hf; have Hr := Lib.hid hr
  clear hf hr
  go_wp2_with fail
  go_ret
  exact ⟨by rw [← Hr.out]; rfl, Hf.out⟩

/-- wakes: the test. -/
theorem test_wakes (w : World) (x : Wk) (t : Int) (pb : Nat) (hp : w.cell? ⟨pb, 0, none⟩ = some (.int .i64 t)) :
    Calls Try.prog 74 #[.agg #[.int .i64 x.1, .int .i64 x.2.1, .int .i64 x.2.2.1, .bool x.2.2.2.1, .bool x.2.2.2.2], .pointer (some ⟨pb, 0, none⟩)] w fun e w' => e = .returned (.bool (x.1 == t)) ∧ Fr Nob w w' := by
  obtain ⟨a, d, e, f, m⟩ := x
  have hp1 := ((Fr.refl Nob w).alloc (.cells #[.int .i64 a, .int .i64 d, .int .i64 e, .bool f, .bool m] 37)).cell (p := ⟨pb, 0, none⟩) id hp
  go_enter Try.func74, Try.ntmps74
  go_wp2_with fail
  go_ret
  exact ⟨by first | rfl | simp, (Fr.refl _ _).alloc _⟩
set_option maxHeartbeats 1000000 in
theorem index_wakes (w : World) (v : Value) (l : List Wk) (n pb : Nat) (t : Int) (hn : l.length = n) (h : Rd w 5 v n (l.flatMap wkEn)) (hp : w.cell? ⟨pb, 0, none⟩ = some (.int .i64 t)) :
    Calls Try.prog 86 #[v, .func (.func 74) #[] #[.pointer (some ⟨pb, 0, none⟩)]] w (IxQ (l.any fun y => y.1 == t) w) := by
  obtain ⟨_, hl, A, c, rfl, hc1, hc2, hA⟩ := h
  unfold maxLen at hl
  have hyes : ∀ (k : Nat) (x : Wk), l[k]? = some x → (x.1 == t) = true → (l.any fun y => y.1 == t) = true := fun k x hk e => List.any_eq_true.2 ⟨x, List.mem_of_getElem? hk, e⟩
  have hno : (∀ (k : Nat) (x : Wk), k < n → l[k]? = some x → (x.1 == t) = false) → (l.any fun y => y.1 == t) = false := fun hh => by
    rw [List.any_eq_false]
    intro y hy
    obtain ⟨k, hk, e⟩ := List.mem_iff_getElem.1 hy
    rw [hh k y (by omega) (by rw [List.getElem?_eq_getElem hk, e])]; simp
  have hg : ∀ k, k < n → ∃ x : Wk, l[k]? = some x ∧ ∀ j u, j < 5 → (wkEn x)[j]? = some u → (l.flatMap wkEn)[k * 5 + j]? = some u := fun k hk => by
    have h0 : l[k]? = some (l[k]'(by omega)) := by simp
    exact ⟨_, h0, fun j u hj hu => (rowsGet wkEn (fun _ => rfl) l k j _ h0 hj).trans hu⟩
  have HA := Lib.hid hA; have Hyes := Lib.hid hyes; have Hno := Lib.hid hno; have Hg := Lib.hid hg; have Hp := Lib.hid hp
  generalize (l.any fun y => y.1 == t) = P at *
  clear hA hyes hno hg hp
  go_enter Try.func86, Try.ntmps86
  go_wp2_with fail
  go_loopw [8] (fun i wr => ∃ k : Nat, k ≤ n ∧ i = .int .i64 k ∧ Fr Nob w wr ∧ Hid (∀ (j : Nat) (x : Wk), j < k → l[j]? = some x → (x.1 == t) = false)) (fun i _ => n - (intOf i).toNat)
  case atStart => exact ⟨0, Nat.zero_le _, rfl, Fr.refl _ _, Lib.hid fun j x hj => by omega⟩
  case round =>
    obtain ⟨k, hk, rfl, hfr, hall⟩ := hrel
    have Hfr := Lib.hid hfr
    clear hfr
    by_cases hlt : k < n
    · obtain ⟨x, hx, hq⟩ := Hg.out k hlt
      obtain ⟨g, o, rfl, hgl, hc⟩ := HA.out (by omega)
      have hbc := fun W (hf : Fr Nob w W) => test_wakes W x t pb (hf.cell id Hp.out)
      have hy := Hyes.out k x hx
      have hall2 : (x.1 == t) = false → ∀ (j : Nat) (y : Wk), j < k + 1 → l[j]? = some y → (y.1 == t) = false := fun hb j y hj hy => by
        by_cases hjk : j = k
        · subst hjk; rw [hx] at hy; cases hy; exact hb
        · exact hall.out j y (by omega) hy
      generalize (x.1 == t) = r at *
      have x0 := Hfr.out.cell (p := ⟨g, o + (k * 5 + 0), none⟩) id (hc _ _ (hq 0 _ (by omega) rfl))
      have x1 := Hfr.out.cell (p := ⟨g, o + (k * 5 + 1), none⟩) id (hc _ _ (hq 1 _ (by omega) rfl))
      have x2 := Hfr.out.cell (p := ⟨g, o + (k * 5 + 2), none⟩) id (hc _ _ (hq 2 _ (by omega) rfl))
      have x3 := Hfr.out.cell (p := ⟨g, o + (k * 5 + 3), none⟩) id (hc _ _ (hq 3 _ (by omega) rfl))
      have x4 := Hfr.out.cell (p := ⟨g, o + (k * 5 + 4), none⟩) id (hc _ _ (hq 4 _ (by omega) rfl))
      rw [← Nat.add_assoc] at x1 x2 x3 x4
      rw [Nat.add_zero] at x0
      obtain ⟨a, d, e, f, m⟩ := x
      dsimp only at x0 x1 x2 x3 x4 hbc
      have Hbc := Lib.hid hbc; have Hy := Lib.hid hy; have Hall2 := Lib.hid hall2
      have hki : (k : Int) < n := by omega
      clear hc hq hx hbc hy hall2
      cases r with
      | false =>
        have Hn2 := Lib.hid (Hall2.out rfl)
        go_wp2_with fail
        refine (Hbc.out _ Hfr.out).mono ?_
        rintro e w2 ⟨rfl, hf2⟩
        have Hf2 := Lib.hid (Hfr.out.trans0 hf2)
        clear hf2
        go_wp2_with fail
        go_roundw
        case rel => exact ⟨k + 1, by omega, by go_num, Hf2.out, Hn2⟩
        case measure => simp [intOf]; omega
      | true =>
        have hP := Hy.out rfl
        have HP := Lib.hid hP
        clear hP
        go_wp2_with fail
        refine (Hbc.out _ Hfr.out).mono ?_
        rintro e w2 ⟨rfl, hf2⟩
        have Hf2 := Lib.hid (Hfr.out.trans0 hf2)
        clear hf2
        go_wp2_with fail
        go_ret
        exact ⟨k, rfl, by rw [HP.out]; simp, Hf2.out⟩
    · obtain rfl : k = n := by omega
      have HP := Lib.hid (Hno.out fun j x hj hx => hall.out j x hj hx)
      go_wp2_with fail
      go_ret
      exact ⟨-1, rfl, by rw [HP.out]; rfl, Hfr.out⟩
theorem contains_wakes (w : World) (v : Value) (l : List Wk) (n pb : Nat) (t : Int) (hn : l.length = n) (h : Rd w 5 v n (l.flatMap wkEn)) (hp : w.cell? ⟨pb, 0, none⟩ = some (.int .i64 t)) :
    Calls Try.prog 73 #[v, .func (.func 74) #[] #[.pointer (some ⟨pb, 0, none⟩)]] w fun e w' => e = .returned (.bool (l.any fun y => y.1 == t)) ∧ Fr Nob w w' := by
  have H := Lib.hid (index_wakes w v l n pb t hn h hp)
  obtain ⟨_, _, A, c, rfl, _⟩ := h
  generalize (l.any fun y => y.1 == t) = P at *
  clear hp
  go_enter Try.func73, Try.ntmps73
  go_wp2_with fail
  refine H.out.mono ?_
  rintro e w' ⟨r, rfl, hr, hf⟩
  have Hf := Lib.hid hf; have Hr := Lib.hid hr
  clear hf hr
  go_wp2_with fail
  go_ret
  exact ⟨by rw [← Hr.out]; rfl, Hf.out⟩
end Go.Proofs.Ytdemeghhjnehbaa
