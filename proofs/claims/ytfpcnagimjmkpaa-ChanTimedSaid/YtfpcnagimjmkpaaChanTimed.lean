/- A channel of a timer keeps one value at most, hands it to who waits, and shows neither room nor value; nothing else is put on it, for all that the statement draws. -/
import Derived.Test.YtfpcnagimjmkpaaChanPl
import Derived.Test.YtfpcnagimjmkpaaRound
set_option linter.unusedVariables false
set_option linter.unusedSimpArgs false
namespace Go.Proofs.Ytfpcnagimjmkpaa
open Go.RowKit
set_option maxRecDepth 100000
def tmC (has : Bool) (v : Int) (ws : List Wt) : ChS := ⟨1, if has then [v] else [], ws, [], true, false, false⟩
theorem tm_can (has : Bool) (v : Int) (ws : List Wt) : (tmC has v ws).canR false = has ∧ (tmC has v ws).canR true = false := by
  cases has <;> simp [ChS.canR, ChS.mute, ChS.free, ChS.queue, tmC]
theorem tm_wait (x : Wt) (v : Int) (ws : List Wt) : (tmC false v ws).waitR x false = 0 ∧ (tmC false v ws).waitS x false = tmC false v (ws ++ [x]) := by
  have h : (tmC false v ws).waitR x false = 0 := by simp [ChS.waitR, ChS.mute, ChS.free, ChS.queue, tmC]
  refine ⟨h, ?_⟩
  unfold ChS.waitS; rw [h, if_pos rfl]; simp [tmC]
theorem tm_drop (has : Bool) (v : Int) (ws : List Wt) : (tmC has v ws).dropR = has ∧ (tmC has v ws).dropS = tmC false v ws := by
  cases has <;> simp [ChS.dropR, ChS.dropS, tmC]
set_option maxHeartbeats 8000000 in
theorem timed_main (w : World) (v0 : Value) (l : List Int) (n : Nat) (hn : l.length = n) (h60 : n ≤ 60) (hrd : Rd w 1 v0 n (ints l)) :
    Calls Try.prog 7 #[v0] w fun e w' => e = .returned (.bool true) ∧ Fr Nob w w' := by
  obtain ⟨_, _, A, c, rfl, hc1, hc2, hA⟩ := hrd
  have Haw := Lib.hid (fun W => awake9 W)
  have Hnew := Lib.hid (fun W => chan_timed W)
  have HA := Lib.hid hA; have Hn := Lib.hid hn
  clear hA hn
  have d1 : decide ((60 : Int) < n) = false := decide_eq_false (by omega)
  have d1' : decide (60 < n) = false := decide_eq_false (by omega)
  go_enter Try.func7, Try.ntmps7
  go_wp2_with fail
  refine (Hnew.out _).mono ?_
  intro e w1 hnew
  obtain ⟨b, rfl, hone⟩ := One.ofMade hnew
  have Hone : Hid (One w w1 b (tmC false 0 [])) := Lib.hid hone
  clear hnew hone
  go_wp2_with fail
  go_loopw [4, 5, 6, 7] (fun v4 v5 v6 v7 wr => ∃ (i : Nat) (has : Bool) (v : Int) (ws : List Wt) (m : Nat), v4 = .bool has ∧ v5 = .int .i64 v ∧ v6 = .int .i64 m ∧ v7 = .int .i64 i ∧ i ≤ n ∧ m ≤ i ∧ Hid (ws.length = m) ∧ Hid (One w wr b (tmC has v ws)) ∧ Hid (has = true → ws = [])) (fun _ _ _ v7 _ => n - (intOf v7).toNat)
  case atStart => exact ⟨0, false, 0, [], 0, rfl, rfl, rfl, rfl, Nat.zero_le _, Nat.le_refl _, Lib.hid rfl, Hone, Lib.hid (fun h => by cases h)⟩
  case round =>
    obtain ⟨i, has, v, ws, m, rfl, rfl, rfl, rfl, hi, hm, Hm, H1, Hh⟩ := hrel
    clear Hone
    by_cases hlt : i < n
    · have l1 : decide ((i : Int) < n) = true := decide_eq_true (by omega)
      have l2 : decide (i < n) = true := decide_eq_true hlt
      have i0 : (0 : Int) ≤ i := by omega
      have iN : (i : Int) < n := by omega
      obtain ⟨x, hx⟩ : ∃ x, l[i]? = some x := ⟨_, List.getElem?_eq_getElem (by have := Hn.out; omega)⟩
      obtain ⟨g, o, rfl, hg, hc⟩ := HA.out (by omega)
      have c0 := H1.out.fr.cell (p := ⟨g, o + i, none⟩) id (hc i (.int .i64 x) (by simp [ints, hx]))
      have ha0 := Int.emod_nonneg x (show (4 : Int) ≠ 0 by omega)
      have ha4 := Int.emod_lt_of_pos x (show (0 : Int) < 4 by omega)
      have hr := fun W => (alike_round W x 4 (by omega) (by omega)).mono fun e w' h => (⟨h.1, h.2.symm⟩ : e = .returned (.int .i64 (x % 4)) ∧ w' = W)
      clear hc hx
      rcases (by omega : x % 4 = 0 ∨ x % 4 = 1 ∨ x % 4 = 2 ∨ x % 4 = 3) with hk | hk | hk | hk
      · rw [hk] at hr
        have HR := Lib.hid hr
        clear hr hk ha0 ha4
        cases ws with
        | cons y ws =>
          have hhas : has = false := by cases has; rfl; have := Hh.out rfl; cases this
          subst hhas
          obtain ⟨m, rfl⟩ : ∃ k, m = k + 1 := ⟨ws.length, by have := Hm.out; simp at this; omega⟩
          have Hm2 : Hid (ws.length = m) := Lib.hid (by have := Hm.out; simpa using this)
          have m0 : decide ((0 : Int) < (m : Int) + 1) = true := decide_eq_true (by omega)
          have Hp := Lib.hid (H1.out.put i _ 1 true (tmC false v ws) rfl rfl rfl)
          clear H1 Hm Hh
          go_wp2_with fail
          refine (HR.out _).mono ?_
          rintro e _ ⟨rfl, rfl⟩
          go_wp2_with fail
          refine Hp.out.mono ?_
          rintro e w3 ⟨A3, cp3, rfl, hone, hrd⟩
          obtain ⟨g3, o3, rfl, hcp3, hkk⟩ := rd_one hrd
          obtain ⟨e0, e1, e2, e3, e4⟩ := hkk
          dsimp only at e0 e1 e2 e3 e4
          have H4 := Lib.hid hone
          clear hone hrd Hp
          go_wp2_with fail
          have Ql := Lib.hid (H4.out.len 0 rfl); have Qc := Lib.hid (H4.out.cap 0 rfl); have Q1 := Lib.hid (H4.out.can false false (tm_can _ _ _).1)
          clear H4
          refine Ql.out.mono ?_
          rintro e _ ⟨rfl, rfl⟩
          go_wp2_with fail
          refine Qc.out.mono ?_
          rintro e _ ⟨rfl, rfl⟩
          go_wp2_with fail
          refine Q1.out.mono ?_
          rintro e wa ⟨rfl, hone⟩
          have Q2 := Lib.hid (hone.can true false (tm_can _ _ _).2)
          clear hone Ql Qc Q1
          go_wp2_with fail
          refine Q2.out.mono ?_
          rintro e wb ⟨rfl, hone⟩
          have Q3 := Lib.hid (hone.waiting false (m) Hm2.out)
          clear hone Q2
          go_wp2_with fail
          refine Q3.out.mono ?_
          rintro e wc ⟨A9, cp9, rfl, hone⟩
          have H9 := Lib.hid hone
          clear hone Q3
          go_wp2_with fail
          first
          | (go_roundw
             case rel => exact ⟨i + 1, false, v, ws, m, rfl, rfl, by go_num, by go_num, by omega, by omega, Hm2, H9, Lib.hid (fun h => by cases h)⟩
             case measure => (simp [intOf] <;> omega))
          | (refine ⟨?_, ?measure2⟩
             (repeat apply Exists.intro)
             refine ⟨?rel2, rfl⟩
             case rel2 => exact ⟨i + 1, false, v, ws, m, rfl, rfl, by go_num, by go_num, by omega, by omega, Hm2, H9, Lib.hid (fun h => by cases h)⟩
             case measure2 => (simp [intOf] <;> omega))
        | nil =>
          have hm0 : m = 0 := Hm.out.symm
          subst hm0
          cases has with
          | true =>
            have Hp := Lib.hid (H1.out.put i [] 0 false (tmC true v []) rfl rfl rfl)
            clear H1 Hm Hh
            go_wp2_with fail
            refine (HR.out _).mono ?_
            rintro e _ ⟨rfl, rfl⟩
            go_wp2_with fail
            refine Hp.out.mono ?_
            rintro e w3 ⟨A3, cp3, rfl, hone, _⟩
            have H4 := Lib.hid hone
            clear hone Hp
            go_wp2_with fail
            have Ql := Lib.hid (H4.out.len 0 rfl); have Qc := Lib.hid (H4.out.cap 0 rfl); have Q1 := Lib.hid (H4.out.can false true (tm_can _ _ _).1)
            clear H4
            refine Ql.out.mono ?_
            rintro e _ ⟨rfl, rfl⟩
            go_wp2_with fail
            refine Qc.out.mono ?_
            rintro e _ ⟨rfl, rfl⟩
            go_wp2_with fail
            refine Q1.out.mono ?_
            rintro e wa ⟨rfl, hone⟩
            have Q2 := Lib.hid (hone.can true false (tm_can _ _ _).2)
            clear hone Ql Qc Q1
            go_wp2_with fail
            refine Q2.out.mono ?_
            rintro e wb ⟨rfl, hone⟩
            have Q3 := Lib.hid (hone.waiting false (0) rfl)
            clear hone Q2
            go_wp2_with fail
            refine Q3.out.mono ?_
            rintro e wc ⟨A9, cp9, rfl, hone⟩
            have H9 := Lib.hid hone
            clear hone Q3
            go_wp2_with fail
            first
            | (go_roundw
               case rel => exact ⟨i + 1, true, v, [], 0, rfl, rfl, rfl, by go_num, by omega, by omega, Lib.hid rfl, H9, Lib.hid (fun _ => rfl)⟩
               case measure => (simp [intOf] <;> omega))
            | (refine ⟨?_, ?measure2⟩
               (repeat apply Exists.intro)
               refine ⟨?rel2, rfl⟩
               case rel2 => exact ⟨i + 1, true, v, [], 0, rfl, rfl, rfl, by go_num, by omega, by omega, Lib.hid rfl, H9, Lib.hid (fun _ => rfl)⟩
               case measure2 => (simp [intOf] <;> omega))
          | false =>
            have Hp := Lib.hid (H1.out.put i [] 0 true (tmC true i []) rfl rfl rfl)
            clear H1 Hm Hh
            go_wp2_with fail
            refine (HR.out _).mono ?_
            rintro e _ ⟨rfl, rfl⟩
            go_wp2_with fail
            refine Hp.out.mono ?_
            rintro e w3 ⟨A3, cp3, rfl, hone, _⟩
            have H4 := Lib.hid hone
            clear hone Hp
            go_wp2_with fail
            have Ql := Lib.hid (H4.out.len 0 rfl); have Qc := Lib.hid (H4.out.cap 0 rfl); have Q1 := Lib.hid (H4.out.can false true (tm_can _ _ _).1)
            clear H4
            refine Ql.out.mono ?_
            rintro e _ ⟨rfl, rfl⟩
            go_wp2_with fail
            refine Qc.out.mono ?_
            rintro e _ ⟨rfl, rfl⟩
            go_wp2_with fail
            refine Q1.out.mono ?_
            rintro e wa ⟨rfl, hone⟩
            have Q2 := Lib.hid (hone.can true false (tm_can _ _ _).2)
            clear hone Ql Qc Q1
            go_wp2_with fail
            refine Q2.out.mono ?_
            rintro e wb ⟨rfl, hone⟩
            have Q3 := Lib.hid (hone.waiting false (0) rfl)
            clear hone Q2
            go_wp2_with fail
            refine Q3.out.mono ?_
            rintro e wc ⟨A9, cp9, rfl, hone⟩
            have H9 := Lib.hid hone
            clear hone Q3
            go_wp2_with fail
            first
            | (go_roundw
               case rel => exact ⟨i + 1, true, (i : Int), [], 0, rfl, rfl, rfl, by go_num, by omega, by omega, Lib.hid rfl, H9, Lib.hid (fun _ => rfl)⟩
               case measure => (simp [intOf] <;> omega))
            | (refine ⟨?_, ?measure2⟩
               (repeat apply Exists.intro)
               refine ⟨?rel2, rfl⟩
               case rel2 => exact ⟨i + 1, true, (i : Int), [], 0, rfl, rfl, rfl, by go_num, by omega, by omega, Lib.hid rfl, H9, Lib.hid (fun _ => rfl)⟩
               case measure2 => (simp [intOf] <;> omega))
      · rw [hk] at hr
        have HR := Lib.hid hr
        clear hr hk ha0 ha4
        cases has with
        | true =>
          have hws : ws = [] := Hh.out rfl
          subst hws
          have hm0 : m = 0 := Hm.out.symm
          subst hm0
          have Hp := Lib.hid (H1.out.recv v true true [] 0 (tmC false v []) rfl rfl rfl)
          clear H1 Hm Hh
          go_wp2_with fail
          refine (HR.out _).mono ?_
          rintro e _ ⟨rfl, rfl⟩
          go_wp2_with fail
          refine Hp.out.mono ?_
          rintro e w3 ⟨A3, cp3, rfl, hone, _⟩
          have H4 := Lib.hid hone
          clear hone Hp
          go_wp2_with fail
          have Ql := Lib.hid (H4.out.len 0 rfl); have Qc := Lib.hid (H4.out.cap 0 rfl); have Q1 := Lib.hid (H4.out.can false false (tm_can _ _ _).1)
          clear H4
          refine Ql.out.mono ?_
          rintro e _ ⟨rfl, rfl⟩
          go_wp2_with fail
          refine Qc.out.mono ?_
          rintro e _ ⟨rfl, rfl⟩
          go_wp2_with fail
          refine Q1.out.mono ?_
          rintro e wa ⟨rfl, hone⟩
          have Q2 := Lib.hid (hone.can true false (tm_can _ _ _).2)
          clear hone Ql Qc Q1
          go_wp2_with fail
          refine Q2.out.mono ?_
          rintro e wb ⟨rfl, hone⟩
          have Q3 := Lib.hid (hone.waiting false (0) rfl)
          clear hone Q2
          go_wp2_with fail
          refine Q3.out.mono ?_
          rintro e wc ⟨A9, cp9, rfl, hone⟩
          have H9 := Lib.hid hone
          clear hone Q3
          go_wp2_with fail
          first
          | (go_roundw
             case rel => exact ⟨i + 1, false, v, [], 0, rfl, rfl, rfl, by go_num, by omega, by omega, Lib.hid rfl, H9, Lib.hid (fun h => by cases h)⟩
             case measure => (simp [intOf] <;> omega))
          | (refine ⟨?_, ?measure2⟩
             (repeat apply Exists.intro)
             refine ⟨?rel2, rfl⟩
             case rel2 => exact ⟨i + 1, false, v, [], 0, rfl, rfl, rfl, by go_num, by omega, by omega, Lib.hid rfl, H9, Lib.hid (fun h => by cases h)⟩
             case measure2 => (simp [intOf] <;> omega))
        | false =>
          have Hp := Lib.hid (H1.out.recv 0 false false [] 0 (tmC false v ws) rfl rfl rfl)
          have hlen := Hm.out
          clear H1 Hh
          go_wp2_with fail
          refine (HR.out _).mono ?_
          rintro e _ ⟨rfl, rfl⟩
          go_wp2_with fail
          refine Hp.out.mono ?_
          rintro e w3 ⟨A3, cp3, rfl, hone, _⟩
          have Hq := Lib.hid (hone.wait ((i : Int), 0, 0) false 0 _ (tm_wait _ v ws).1 (tm_wait _ v ws).2 ⟨by simp [tmC]; omega, by simp [tmC]⟩)
          have Hm2 : Hid ((ws ++ [((i : Int), 0, 0)] : List Wt).length = m + 1) := Lib.hid (by simp [hlen])
          clear hone Hp hlen Hm
          go_wp2_with fail
          refine Hq.out.mono ?_
          rintro e w4 ⟨rfl, hone⟩
          have H4 := Lib.hid hone
          clear hone Hq
          go_wp2_with fail
          have Ql := Lib.hid (H4.out.len 0 rfl); have Qc := Lib.hid (H4.out.cap 0 rfl); have Q1 := Lib.hid (H4.out.can false false (tm_can _ _ _).1)
          clear H4
          refine Ql.out.mono ?_
          rintro e _ ⟨rfl, rfl⟩
          go_wp2_with fail
          refine Qc.out.mono ?_
          rintro e _ ⟨rfl, rfl⟩
          go_wp2_with fail
          refine Q1.out.mono ?_
          rintro e wa ⟨rfl, hone⟩
          have Q2 := Lib.hid (hone.can true false (tm_can _ _ _).2)
          clear hone Ql Qc Q1
          go_wp2_with fail
          refine Q2.out.mono ?_
          rintro e wb ⟨rfl, hone⟩
          have Q3 := Lib.hid (hone.waiting false (m + 1) Hm2.out)
          clear hone Q2
          go_wp2_with fail
          refine Q3.out.mono ?_
          rintro e wc ⟨A9, cp9, rfl, hone⟩
          have H9 := Lib.hid hone
          clear hone Q3
          go_wp2_with fail
          first
          | (go_roundw
             case rel => exact ⟨i + 1, false, v, _, m + 1, rfl, rfl, by go_num, by go_num, by omega, by omega, Hm2, H9, Lib.hid (fun h => by cases h)⟩
             case measure => (simp [intOf] <;> omega))
          | (refine ⟨?_, ?measure2⟩
             (repeat apply Exists.intro)
             refine ⟨?rel2, rfl⟩
             case rel2 => exact ⟨i + 1, false, v, _, m + 1, rfl, rfl, by go_num, by go_num, by omega, by omega, Hm2, H9, Lib.hid (fun h => by cases h)⟩
             case measure2 => (simp [intOf] <;> omega))
      · rw [hk] at hr
        have HR := Lib.hid hr
        clear hr hk ha0 ha4
        have Hp := Lib.hid (H1.out.drop has _ (tm_drop has v ws).1 (tm_drop has v ws).2)
        clear H1 Hh
        go_wp2_with fail
        refine (HR.out _).mono ?_
        rintro e _ ⟨rfl, rfl⟩
        go_wp2_with fail
        refine Hp.out.mono ?_
        rintro e w3 ⟨rfl, hone⟩
        have H4 := Lib.hid hone
        clear hone Hp
        go_wp2_with fail
        have Ql := Lib.hid (H4.out.len 0 rfl); have Qc := Lib.hid (H4.out.cap 0 rfl); have Q1 := Lib.hid (H4.out.can false false (tm_can _ _ _).1)
        clear H4
        refine Ql.out.mono ?_
        rintro e _ ⟨rfl, rfl⟩
        go_wp2_with fail
        refine Qc.out.mono ?_
        rintro e _ ⟨rfl, rfl⟩
        go_wp2_with fail
        refine Q1.out.mono ?_
        rintro e wa ⟨rfl, hone⟩
        have Q2 := Lib.hid (hone.can true false (tm_can _ _ _).2)
        clear hone Ql Qc Q1
        go_wp2_with fail
        refine Q2.out.mono ?_
        rintro e wb ⟨rfl, hone⟩
        have Q3 := Lib.hid (hone.waiting false (m) Hm.out)
        clear hone Q2
        go_wp2_with fail
        refine Q3.out.mono ?_
        rintro e wc ⟨A9, cp9, rfl, hone⟩
        have H9 := Lib.hid hone
        clear hone Q3
        go_wp2_with fail
        first
        | (go_roundw
           case rel => exact ⟨i + 1, false, v, ws, m, rfl, rfl, rfl, by go_num, by omega, by omega, Hm, H9, Lib.hid (fun h => by cases h)⟩
           case measure => (simp [intOf] <;> omega))
        | (refine ⟨?_, ?measure2⟩
           (repeat apply Exists.intro)
           refine ⟨?rel2, rfl⟩
           case rel2 => exact ⟨i + 1, false, v, ws, m, rfl, rfl, rfl, by go_num, by omega, by omega, Hm, H9, Lib.hid (fun h => by cases h)⟩
           case measure2 => (simp [intOf] <;> omega))
      · rw [hk] at hr
        have HR := Lib.hid hr
        clear hr hk ha0 ha4
        have Hp := Lib.hid (H1.out.send 5 false [] 0 7 (tmC has v ws) rfl rfl rfl)
        clear H1
        go_wp2_with fail
        refine (HR.out _).mono ?_
        rintro e _ ⟨rfl, rfl⟩
        go_wp2_with fail
        refine Hp.out.mono ?_
        rintro e w3 ⟨A3, cp3, rfl, hone, _⟩
        have Hq := Lib.hid (hone.close [] 0 7 (tmC has v ws) rfl rfl rfl)
        clear hone Hp
        go_wp2_with fail
        refine Hq.out.mono ?_
        rintro e w4 ⟨A4, cp4, rfl, hone, _⟩
        have H4 := Lib.hid hone
        clear hone Hq
        go_wp2_with fail
        have Ql := Lib.hid (H4.out.len 0 rfl); have Qc := Lib.hid (H4.out.cap 0 rfl); have Q1 := Lib.hid (H4.out.can false has (tm_can _ _ _).1)
        clear H4
        refine Ql.out.mono ?_
        rintro e _ ⟨rfl, rfl⟩
        go_wp2_with fail
        refine Qc.out.mono ?_
        rintro e _ ⟨rfl, rfl⟩
        go_wp2_with fail
        refine Q1.out.mono ?_
        rintro e wa ⟨rfl, hone⟩
        have Q2 := Lib.hid (hone.can true false (tm_can _ _ _).2)
        clear hone Ql Qc Q1
        go_wp2_with fail
        refine Q2.out.mono ?_
        rintro e wb ⟨rfl, hone⟩
        have Q3 := Lib.hid (hone.waiting false (m) Hm.out)
        clear hone Q2
        go_wp2_with fail
        refine Q3.out.mono ?_
        rintro e wc ⟨A9, cp9, rfl, hone⟩
        have H9 := Lib.hid hone
        clear hone Q3
        go_wp2_with fail
        first
        | (go_roundw
           case rel => exact ⟨i + 1, has, v, ws, m, rfl, rfl, rfl, by go_num, by omega, by omega, Hm, H9, Hh⟩
           case measure => (simp [intOf] <;> omega))
        | (refine ⟨?_, ?measure2⟩
           (repeat apply Exists.intro)
           refine ⟨?rel2, rfl⟩
           case rel2 => exact ⟨i + 1, has, v, ws, m, rfl, rfl, rfl, by go_num, by omega, by omega, Hm, H9, Hh⟩
           case measure2 => (simp [intOf] <;> omega))
    · have hin : i = n := by omega
      subst hin
      have l1 : decide ((i : Int) < i) = false := decide_eq_false (by omega)
      go_wp2_with fail
      refine (Haw.out _).mono ?_
      rintro e w10 ⟨rfl, hf3⟩
      have F3 := Lib.hid (H1.out.fr.trans0 hf3)
      clear hf3
      go_wp2_with fail
      go_ret
      exact ⟨rfl, F3.out⟩
theorem timed_long (w : World) (v0 : Value) (l : List Int) (n : Nat) (hn : l.length = n) (h60 : ¬ n ≤ 60) (hrd : Rd w 1 v0 n (ints l)) :
    Calls Try.prog 7 #[v0] w fun e w' => e = .returned (.bool true) ∧ Fr Nob w w' := by
  obtain ⟨_, _, A, c, rfl, hc1, hc2, hA⟩ := hrd
  have Haw := Lib.hid (fun W => awake9 W)
  have d1 : decide ((60 : Int) < n) = true := decide_eq_true (by omega)
  have d1' : decide (60 < n) = true := decide_eq_true (by omega)
  clear hA hn h60
  go_enter Try.func7, Try.ntmps7
  go_wp2_with fail
  refine (Haw.out _).mono ?_
  rintro e w2 ⟨rfl, hf2⟩
  have F2 := Lib.hid hf2
  clear hf2
  go_wp2_with fail
  go_ret
  exact ⟨rfl, F2.out⟩
theorem chanTimed_walk (v0 : Value) (l : List Int) (w : World) (h0 : IsInts w v0 l) :
    Calls Try.prog 7 #[v0] w fun e w' => e = .returned (.bool true) ∧ Below w.heap.size w w' := by
  have key : Calls Try.prog 7 #[v0] w fun e w' => e = .returned (.bool true) ∧ Fr Nob w w' := by
    by_cases h : l.length ≤ 60
    · exact timed_main w v0 l _ rfl h h0.1
    · exact timed_long w v0 l _ rfl h h0.1
  exact key.mono fun e w' ⟨h1, h2⟩ => ⟨h1, h2.below (Nat.le_refl _) fun _ q => q.elim⟩

/-! The row: out of the walk above. -/
namespace chanTimed
open Go.ChangeShapes Go.WideShapes Go.ChangeAt Go.RowKit
open Go.ChangeMaps (open_string shut_string)
theorem own : ownKnob Try.prog.godebug = none := by kernel_rfl
theorem laidOut : laidOutB Try.prog = true := by kernel_rfl
set_option maxRecDepth 100000 in
theorem lifted (os : Os) (started : os.Started) (H : Type) (enc : TypeId × Value → H) :
    ReturnsInHanded {} Try.checked os 7 .any (Rows.chanTimedSpec.pre6 enc Try.prog Try.f7 Rows.chanTimedRow.domain false) (Rows.chanTimedSpec.post enc Try.prog Try.f7 false true false false) := by
  refine returnsInHanded_of_change (C := Try.checked) own started (by kernel_rfl) Try.func7
    (ChangeSpec.witness6 (enc := enc) (C := Try.checked) false ⟨#[], #[.slice none 0 0], []⟩ 8 (by kernel_rfl) (by kernel_rfl) (by kernel_rfl) (by kernel_rfl)) ?_
  intro W base args ds gs before hval0 hW hcnd _
  have hval : ∀ (j : Nat) t v, Try.f7.params[j]? = some t → args[j]? = some v → Value.okWide Try.prog W .any base t v := hval0
  have hW' := hW
  obtain ⟨p, q, hA0, hV, rfl, hfz, hnd⟩ := hW
  have hA : DataW.TrodAll enc Try.prog W 0 (fun _ => true) true Try.f7.params.toList args.toList ds p := hA0
  rw [Try.params7] at hA hval
  obtain ⟨v0, vs0, d0, ds0, p0, q0, hargs, rfl, rfl, h0, r0⟩ := trodAll_cons hA
  obtain ⟨rfl, rfl, rfl⟩ := trodAll_nil r0
  obtain rfl : args = #[v0] := by cases args; simp_all
  obtain ⟨rfl, rfl⟩ := trodVars_none hV
  have k0 := h0
  have lt0 : ∀ x ∈ p0, x.block < W.heap.size := by obtain ⟨m, hm⟩ := k0; exact DataW.trod_lt m _ _ _ hm
  obtain ⟨x0, g0⟩ := opn_ints (hval 0 28 v0 rfl rfl) h0
  clear hA0 hval0
  refine (chanTimed_walk v0 x0 W g0).mono fun e W' ⟨he, bel⟩ => ?_
  subst he
  exact ⟨_, rfl, _, _, _, [], _, [], hW', trodAll_mk1 (shut_bool Try.underlying4 _), (trodAll_cons_mk (Below.trod laidOut (by kernel_rfl) (of_decide_eq_true (by kernel_rfl)) k0 bel lt0) trodAll_mk0), rfl, bel.frame _, fun h => by cases h⟩
theorem over : Rows.chanTimedRow.holds Try.pinned (OpenSpec.ofChange Rows.chanTimedSpec) :=
  OpenClaim.holds_of_wide 7 Try.f7 rfl rfl rfl rfl rfl rfl rfl ⟨rfl, rfl, rfl, rfl, rfl⟩ rfl rfl rfl rfl rfl (by kernel_rfl) Try.func7 (by kernel_rfl)
    (of_decide_eq_true (by kernel_rfl)) (by unfold Func.isWrapper; first | (rw [if_pos (by decide +kernel)]; kernel_rfl) | (rw [if_neg (by decide +kernel)]; exact ⟨rfl, rfl⟩))
    (fun os started H enc _ => lifted os started H enc)
end chanTimed
/-- THE STATEMENT. -/
theorem chanTimed_holds : Rows.ChanTimedSaid := chanTimed.over
#print axioms chanTimed_holds
end Go.Proofs.Ytfpcnagimjmkpaa
