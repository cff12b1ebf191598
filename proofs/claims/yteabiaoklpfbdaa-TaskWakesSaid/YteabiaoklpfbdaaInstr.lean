/- When an instruction and a program may be: what package prog's Check does. -/
import Derived.Test.YteabiaoklpfbdaaProg
import Derived.Test.YteabiaoklpfbdaaBase
import Derived.IntWalk
set_option linter.unusedVariables false
set_option linter.unusedSimpArgs false
namespace Go.Proofs.Yteabiaoklpfbdaa
open Go.RowKit
set_option maxRecDepth 100000

/-- A case; an instruction: its operation, A, B, C; the value of its cases, these, and its default. -/
abbrev Cs := Bool × Int × Int
abbrev csEn (c : Cs) : List Value := [.bool c.1, .int .i64 c.2.1, .int .i64 c.2.2]
abbrev Ins := (Int × Int × Int × Int) × Value × List Cs × Bool
abbrev insEn (i : Ins) : List Value := [.int .i64 i.1.1, .int .i64 i.1.2.1, .int .i64 i.1.2.2.1, .int .i64 i.1.2.2.2, i.2.1, .bool i.2.2.2]
abbrev insV (i : Ins) : Value := .agg #[.int .i64 i.1.1, .int .i64 i.1.2.1, .int .i64 i.1.2.2.1, .int .i64 i.1.2.2.2, i.2.1, .bool i.2.2.2]
def InsOk (w : World) (i : Ins) : Prop := Rd w 3 i.2.1 i.2.2.1.length (i.2.2.1.flatMap csEn)
theorem InsOk.fr {w w' : World} {i : Ins} (h : InsOk w i) (hf : Fr Nob w w') : InsOk w' i := Rd.fr h hf
theorem csGet (cs : List Cs) (k j : Nat) (y : Cs) (h : cs[k]? = some y) (hj : j < 3) : (cs.flatMap csEn)[k * 3 + j]? = (csEn y)[j]? := by
  induction cs generalizing k with
  | nil => simp at h
  | cons x cs ih =>
    rw [List.flatMap_cons]
    cases k with
    | zero =>
      simp at h; subst h
      rw [Nat.zero_mul, Nat.zero_add, List.getElem?_append_left (by simpa using hj)]
    | succ k =>
      rw [List.getElem?_append_right (by simp; omega), show (k + 1) * 3 + j - (csEn x).length = k * 3 + j by simp; omega]
      exact ih k (by simpa using h)
def regB (n : Int) : Bool := decide (0 ≤ n) && decide (n < 8)
def mayB (k n places : Int) : Bool := if k = 114 then regB n else if k = 112 then decide (0 ≤ n) && decide (n ≤ places) else if k = 103 then decide (0 ≤ n) && decide (n < 16) else if k = 45 then n == 0 else true
def fieldsL : List Int := [114, 110, 45, 114, 114, 45, 114, 110, 45, 112, 45, 45, 114, 112, 45, 114, 45, 45, 45, 45, 45, 114, 103, 45, 114, 110, 45, 114, 114, 45, 114, 114, 114, 114, 45, 45, 114, 114, 45, 114, 114, 45, 114, 114, 114, 114, 45, 45, 114, 114, 114, 114, 114, 114, 114, 114, 103, 114, 114, 45, 114, 114, 114, 114, 114, 45, 114, 114, 114, 114, 114, 114, 114, 114, 45, 114, 114, 45, 114, 114, 45, 114, 114, 45, 114, 114, 45, 114, 114, 114, 114, 114, 103, 114, 114, 45]
def kindB (op : Int) (k : Nat) : Int := fieldsL.getD (3 * (op - 1) + k).toNat 0
def csB (c : Cs) : Bool := regB c.2.1 && regB c.2.2 && (c.1 || c.2.2 == 0)
def headB (op : Int) (cs : List Cs) (d : Bool) : Bool := decide (1 ≤ op) && decide (op ≤ 32) && (op == 15 || (cs.length == 0 && !d)) && decide (cs.length ≤ 16)
def goodB (i : Ins) (places : Int) : Bool := headB i.1.1 i.2.2.1 i.2.2.2 && mayB (kindB i.1.1 0) i.1.2.1 places && mayB (kindB i.1.1 1) i.1.2.2.1 places && mayB (kindB i.1.1 2) i.1.2.2.2 places && i.2.2.1.all csB

theorem register_any (w : World) (n : Int) : Calls Try.prog 54 #[.int .i64 n] w fun e w' => e = .returned (.bool (regB n)) ∧ w = w' := by
  by_cases h0 : 0 ≤ n
  · by_cases h8 : n < 8
    · have hr : regB n = true := by simp [regB, h0, h8]
      have Hr := Lib.hid hr
      clear hr
      go_enter Try.func54, Try.ntmps54
      go_wp2
      go_ret
      exact ⟨by rw [Hr.out]; rfl, rfl⟩
    · have hr : regB n = false := by simp [regB, h8]
      have Hr := Lib.hid hr
      have hd : decide (n < 8) = false := by simp; omega
      clear hr
      go_enter Try.func54, Try.ntmps54
      go_wp2
      go_ret
      exact ⟨by rw [Hr.out]; rfl, rfl⟩
  · have hr : regB n = false := by simp [regB, h0]
    have Hr := Lib.hid hr
    have hd : decide (0 ≤ n) = false := by simp; omega
    clear hr
    go_enter Try.func54, Try.ntmps54
    go_wp2
    go_ret
    exact ⟨by rw [Hr.out]; rfl, rfl⟩
theorem may_any (w : World) (k n places : Int) : Calls Try.prog 51 #[.int .u8 k, .int .i64 n, .int .i64 places] w fun e w' => e = .returned (.bool (mayB k n places)) ∧ w = w' := by
  have hreg := register_any w n
  by_cases h1 : k = 114
  · subst h1
    have hm : mayB 114 n places = regB n := rfl
    rw [hm]
    have Hreg := Lib.hid hreg
    clear hreg hm
    generalize regB n = r at *
    go_enter Try.func51, Try.ntmps51
    go_wp2_with fail
    refine Hreg.out.mono ?_
    rintro e w' ⟨rfl, rfl⟩
    go_wp2_with fail
    go_ret
    exact ⟨rfl, rfl⟩
  · clear hreg
    have e1 : (k == 114) = false := beq_eq_false_iff_ne.2 h1
    by_cases h2 : k = 112
    · subst h2
      have hm : mayB 112 n places = (decide (0 ≤ n) && decide (n ≤ places)) := rfl
      by_cases h0 : 0 ≤ n
      · by_cases h8 : n ≤ places
        · have Hr : Hid (mayB 112 n places = true) := by rw [hm]; exact Lib.hid (by simp [h0, h8])
          clear hm
          go_enter Try.func51, Try.ntmps51
          go_wp2
          go_ret
          exact ⟨by rw [Hr.out]; rfl, rfl⟩
        · have Hr : Hid (mayB 112 n places = false) := by rw [hm]; exact Lib.hid (by simp [h8])
          have hd : decide (n ≤ places) = false := by simp; omega
          clear hm
          go_enter Try.func51, Try.ntmps51
          go_wp2
          go_ret
          exact ⟨by rw [Hr.out]; rfl, rfl⟩
      · have Hr : Hid (mayB 112 n places = false) := by rw [hm]; exact Lib.hid (by simp [h0])
        have hd : decide (0 ≤ n) = false := by simp; omega
        clear hm
        go_enter Try.func51, Try.ntmps51
        go_wp2
        go_ret
        exact ⟨by rw [Hr.out]; rfl, rfl⟩
    · have e2 : (k == 112) = false := beq_eq_false_iff_ne.2 h2
      by_cases h3 : k = 103
      · subst h3
        have hm : mayB 103 n places = (decide (0 ≤ n) && decide (n < 16)) := rfl
        by_cases h0 : 0 ≤ n
        · by_cases h8 : n < 16
          · have Hr : Hid (mayB 103 n places = true) := by rw [hm]; exact Lib.hid (by simp [h0, h8])
            clear hm
            go_enter Try.func51, Try.ntmps51
            go_wp2
            go_ret
            exact ⟨by rw [Hr.out]; rfl, rfl⟩
          · have Hr : Hid (mayB 103 n places = false) := by rw [hm]; exact Lib.hid (by simp [h8])
            have hd : decide (n < 16) = false := by simp; omega
            clear hm
            go_enter Try.func51, Try.ntmps51
            go_wp2
            go_ret
            exact ⟨by rw [Hr.out]; rfl, rfl⟩
        · have Hr : Hid (mayB 103 n places = false) := by rw [hm]; exact Lib.hid (by simp [h0])
          have hd : decide (0 ≤ n) = false := by simp; omega
          clear hm
          go_enter Try.func51, Try.ntmps51
          go_wp2
          go_ret
          exact ⟨by rw [Hr.out]; rfl, rfl⟩
      · have e3 : (k == 103) = false := beq_eq_false_iff_ne.2 h3
        by_cases h4 : k = 45
        · subst h4
          have hm : mayB 45 n places = (n == 0) := rfl
          rw [hm]
          clear hm
          generalize hz : (n == 0) = z
          go_enter Try.func51, Try.ntmps51
          go_wp2
          go_ret
          exact ⟨rfl, rfl⟩
        · have e4 : (k == 45) = false := beq_eq_false_iff_ne.2 h4
          have hm : mayB k n places = true := by simp [mayB, h1, h2, h3, h4]
          have Hm := Lib.hid hm
          clear hm h1 h2 h3 h4
          go_enter Try.func51, Try.ntmps51
          go_wp2
          go_ret
          exact ⟨by rw [Hm.out]; rfl, rfl⟩
/-- Of a case: that it may not be. -/
theorem bad_case (w : World) (c : Cs) : Calls Try.prog 53 #[.agg #[.bool c.1, .int .i64 c.2.1, .int .i64 c.2.2]] w fun e w' => e = .returned (.bool (!(csB c))) ∧ Fr Nob w w' := by
  obtain ⟨s, x, y⟩ := c
  have hr1 := fun w => register_any w x
  have hr2 := fun w => register_any w y
  have hcs : csB (s, x, y) = (regB x && regB y && (s || y == 0)) := rfl
  rw [hcs]
  generalize regB x = r1 at *
  generalize regB y = r2 at *
  have H1 := Lib.hid hr1; have H2 := Lib.hid hr2
  clear hr1 hr2 hcs
  cases r1 with
  | false =>
    go_enter Try.func53, Try.ntmps53
    go_wp2_with fail
    refine (H1.out _).mono ?_
    rintro e w' ⟨rfl, rfl⟩
    go_wp2_with fail
    go_ret
    exact ⟨rfl, (Fr.refl _ _).alloc _⟩
  | true =>
    cases r2 with
    | false =>
      go_enter Try.func53, Try.ntmps53
      go_wp2_with fail
      refine (H1.out _).mono ?_
      rintro e w' ⟨rfl, rfl⟩
      go_wp2_with fail
      refine (H2.out _).mono ?_
      rintro e w' ⟨rfl, rfl⟩
      go_wp2_with fail
      go_ret
      exact ⟨rfl, (Fr.refl _ _).alloc _⟩
    | true =>
      cases s with
      | true =>
        go_enter Try.func53, Try.ntmps53
        go_wp2_with fail
        refine (H1.out _).mono ?_
        rintro e w' ⟨rfl, rfl⟩
        go_wp2_with fail
        refine (H2.out _).mono ?_
        rintro e w' ⟨rfl, rfl⟩
        go_wp2_with fail
        go_ret
        exact ⟨rfl, (Fr.refl _ _).alloc _⟩
      | false =>
        by_cases hy : y = 0
        · subst hy
          go_enter Try.func53, Try.ntmps53
          go_wp2_with fail
          refine (H1.out _).mono ?_
          rintro e w' ⟨rfl, rfl⟩
          go_wp2_with fail
          refine (H2.out _).mono ?_
          rintro e w' ⟨rfl, rfl⟩
          go_wp2_with fail
          go_ret
          exact ⟨rfl, (Fr.refl _ _).alloc _⟩
        · have e1 : (y == 0) = false := beq_eq_false_iff_ne.2 hy
          have e2 : (y != 0) = true := by simp [hy]
          have hv : (!(true && true && (false || y == 0))) = true := by rw [e1]; rfl
          have Hv := Lib.hid hv
          clear hv hy
          go_enter Try.func53, Try.ntmps53
          go_wp2_with fail
          refine (H1.out _).mono ?_
          rintro e w' ⟨rfl, rfl⟩
          go_wp2_with fail
          refine (H2.out _).mono ?_
          rintro e w' ⟨rfl, rfl⟩
          go_wp2_with fail
          go_ret
          exact ⟨by rw [Hv.out]; rfl, (Fr.refl _ _).alloc _⟩
def IxP (P : Bool) (w : World) (e : Ending) (w' : World) : Prop := ∃ r : Int, e = .returned (.int .i64 r) ∧ decide (0 ≤ r) = P ∧ Fr Nob w w'
set_option maxHeartbeats 1000000 in
theorem index_cases (w : World) (v : Value) (cs : List Cs) (n : Nat) (hn : cs.length = n) (h : Rd w 3 v n (cs.flatMap csEn)) :
    Calls Try.prog 55 #[v, .func (.func 53) #[] #[]] w (IxP (cs.any fun c => !(csB c)) w) := by
  obtain ⟨_, hl, A, c, rfl, hc1, hc2, hA⟩ := h
  unfold maxLen at hl
  have hyes : ∀ (k : Nat) (x : Cs), cs[k]? = some x → csB x = false → (cs.any fun c => !(csB c)) = true := fun k x hk e => List.any_eq_true.2 ⟨x, List.mem_of_getElem? hk, by simp [e]⟩
  have hno : (∀ (k : Nat) (x : Cs), k < n → cs[k]? = some x → csB x = true) → (cs.any fun c => !(csB c)) = false := fun hh => by
    rw [List.any_eq_false]
    intro y hy
    obtain ⟨k, hk, e⟩ := List.mem_iff_getElem.1 hy
    have := hh k y (by omega) (by rw [List.getElem?_eq_getElem hk, e])
    simp [this]
  have hg : ∀ k, k < n → ∃ x : Cs, cs[k]? = some x ∧ (cs.flatMap csEn)[k * 3]? = some (.bool x.1) ∧ (cs.flatMap csEn)[k * 3 + 1]? = some (.int .i64 x.2.1) ∧ (cs.flatMap csEn)[k * 3 + 2]? = some (.int .i64 x.2.2) := fun k hk => by
    have h0 : cs[k]? = some (cs[k]'(by omega)) := by simp
    refine ⟨_, h0, ?_, ?_, ?_⟩
    · exact csGet cs k 0 _ h0 (by omega)
    · exact csGet cs k 1 _ h0 (by omega)
    · exact csGet cs k 2 _ h0 (by omega)
  have HA := Lib.hid hA; have Hyes := Lib.hid hyes; have Hno := Lib.hid hno; have Hg := Lib.hid hg
  generalize (cs.any fun c => !(csB c)) = P at *
  clear hA hyes hno hg
  go_enter Try.func55, Try.ntmps55
  go_wp2_with fail
  go_loopw [8] (fun i wr => ∃ k : Nat, k ≤ n ∧ i = .int .i64 k ∧ Fr Nob w wr ∧ Hid (∀ (j : Nat) (x : Cs), j < k → cs[j]? = some x → csB x = true)) (fun i _ => n - (intOf i).toNat)
  case atStart => exact ⟨0, Nat.zero_le _, rfl, Fr.refl _ _, Lib.hid fun j x hj => by omega⟩
  case round =>
    obtain ⟨k, hk, rfl, hfr, hall⟩ := hrel
    have Hfr := Lib.hid hfr
    clear hfr
    by_cases hlt : k < n
    · obtain ⟨x, hx, q0, q1, q2⟩ := Hg.out k hlt
      obtain ⟨g, o, rfl, hgl, hc⟩ := HA.out (by omega)
      have x0 := Hfr.out.cell (p := ⟨g, o + k * 3, none⟩) id (hc _ _ q0)
      have x1 := Hfr.out.cell (p := ⟨g, o + (k * 3 + 1), none⟩) id (hc _ _ q1)
      have x2 := Hfr.out.cell (p := ⟨g, o + (k * 3 + 2), none⟩) id (hc _ _ q2)
      rw [← Nat.add_assoc] at x1 x2
      have hbc := fun W => bad_case W x
      have hy := Hyes.out k x hx
      have hall2 : csB x = true → ∀ (j : Nat) (y : Cs), j < k + 1 → cs[j]? = some y → csB y = true := fun hb j y hj hy => by
        by_cases hjk : j = k
        · subst hjk; rw [hx] at hy; cases hy; exact hb
        · exact hall.out j y (by omega) hy
      obtain ⟨s, a, b⟩ := x
      dsimp only at x0 x1 x2 hbc
      generalize csB (s, a, b) = r at *
      have Hbc := Lib.hid hbc; have Hy := Lib.hid hy; have Hall2 := Lib.hid hall2
      have hki : (k : Int) < n := by omega
      clear hc q0 q1 q2 hx hbc hy hall2
      cases r with
      | true =>
        have Hn2 := Lib.hid (Hall2.out rfl)
        go_wp2_with fail
        refine (Hbc.out _).mono ?_
        rintro e w2 ⟨rfl, hf2⟩
        have Hf2 := Lib.hid (Hfr.out.trans0 hf2)
        clear hf2
        go_wp2_with fail
        go_roundw
        case rel => exact ⟨k + 1, by omega, by go_num, Hf2.out, Hn2⟩
        case measure => simp [intOf]; omega
      | false =>
        have hP := Hy.out rfl
        have HP := Lib.hid hP
        clear hP
        go_wp2_with fail
        refine (Hbc.out _).mono ?_
        rintro e w2 ⟨rfl, hf2⟩
        have Hf2 := Lib.hid (Hfr.out.trans0 hf2)
        clear hf2
        go_wp2_with fail
        go_ret
        exact ⟨k, rfl, by rw [HP.out]; simp, Hf2.out⟩
    · obtain rfl : k = n := by omega
      have HP := Lib.hid (Hno.out fun j x hj hx => hall.out j x hj hx)
      go_wp2_with fail
      go_ret
      exact ⟨-1, rfl, by rw [HP.out]; rfl, Hfr.out⟩
theorem contains_cases (w : World) (v : Value) (cs : List Cs) (n : Nat) (hn : cs.length = n) (h : Rd w 3 v n (cs.flatMap csEn)) :
    Calls Try.prog 52 #[v, .func (.func 53) #[] #[]] w fun e w' => e = .returned (.bool (cs.any fun c => !(csB c))) ∧ Fr Nob w w' := by
  have H := Lib.hid (index_cases w v cs n hn h)
  obtain ⟨_, _, A, c, rfl, _⟩ := h
  generalize (cs.any fun c => !(csB c)) = P at *
  go_enter Try.func52, Try.ntmps52
  go_wp2_with fail
  refine H.out.mono ?_
  rintro e w' ⟨r, rfl, hr, hf⟩
  have Hf := Lib.hid hf; have Hr := Lib.hid hr
  clear hf hr
  go_wp2_with fail
  go_ret
  exact ⟨by rw [← Hr.out]; rfl, Hf.out⟩
end Go.Proofs.Yteabiaoklpfbdaa
