/- What Check of package prog does. -/
import Derived.Test.YteabiaoklpfbdaaGood
set_option linter.unusedVariables false
set_option linter.unusedSimpArgs false
namespace Go.Proofs.Yteabiaoklpfbdaa
open Go.RowKit
set_option maxRecDepth 100000

def progB (ps : List Ins) : Bool := decide (ps.length ≤ 100) && ps.all fun i => goodB i ps.length
theorem insGet (ps : List Ins) (k j : Nat) (y : Ins) (h : ps[k]? = some y) (hj : j < 6) : (ps.flatMap insEn)[k * 6 + j]? = (insEn y)[j]? := by
  induction ps generalizing k with
  | nil => simp at h
  | cons x ps ih =>
    rw [List.flatMap_cons]
    cases k with
    | zero =>
      simp at h; subst h
      rw [Nat.zero_mul, Nat.zero_add, List.getElem?_append_left (by simpa using hj)]
    | succ k =>
      rw [List.getElem?_append_right (by simp; omega), show (k + 1) * 6 + j - (insEn x).length = k * 6 + j by simp; omega]
      exact ih k (by simpa using h)
/-- Of an instruction: that it may not be, among n. -/
theorem bad_instr (w : World) (i : Ins) (pb n : Nat) (A : Option Addr) (c : Nat) (hp : w.cell? ⟨pb, 0, none⟩ = some (.slice A n c)) (h : InsOk w i) :
    Calls Try.prog 42 #[insV i, .pointer (some ⟨pb, 0, none⟩)] w fun e w' => e = .returned (.bool (!(goodB i n))) ∧ Fr Nob w w' := by
  have hg := fun W (hf : Fr Nob w W) => good_any W i n (h.fr hf)
  obtain ⟨⟨op, a, b, k⟩, v, cs, d⟩ := i
  obtain ⟨_, _, A2, c2, hv, _⟩ := id h
  dsimp only at hv
  subst hv
  have hp1 := ((Fr.refl Nob w).alloc (.cells #[.int .i64 op, .int .i64 a, .int .i64 b, .int .i64 k, .slice A2 cs.length c2, .bool d] 34)).cell (p := ⟨pb, 0, none⟩) id hp
  generalize goodB _ _ = r at *
  have Hg := Lib.hid hg
  clear hg h
  go_enter Try.func42, Try.ntmps42
  go_wp2_with fail
  refine (Hg.out _ ((Fr.refl _ _).alloc _)).mono ?_
  rintro e w' ⟨rfl, hf⟩
  have Hf := Lib.hid hf
  clear hf hp1
  go_wp2_with fail
  go_ret
  exact ⟨rfl, ((Fr.refl Nob w).alloc _).trans0 Hf.out⟩
set_option maxHeartbeats 1000000 in
theorem index_instrs (w : World) (v : Value) (ps : List Ins) (n pb : Nat) (A0 : Option Addr) (c0 : Nat) (hn : ps.length = n) (h : Rd w 6 v n (ps.flatMap insEn)) (hok : ∀ i ∈ ps, InsOk w i) (hp : w.cell? ⟨pb, 0, none⟩ = some (.slice A0 n c0)) :
    Calls Try.prog 50 #[v, .func (.func 42) #[] #[.pointer (some ⟨pb, 0, none⟩)]] w (IxP (ps.any fun i => !(goodB i n)) w) := by
  obtain ⟨_, hl, A, c, rfl, hc1, hc2, hA⟩ := h
  unfold maxLen at hl
  have hyes : ∀ (k : Nat) (x : Ins), ps[k]? = some x → goodB x n = false → (ps.any fun i => !(goodB i n)) = true := fun k x hk e => List.any_eq_true.2 ⟨x, List.mem_of_getElem? hk, by simp [e]⟩
  have hno : (∀ (k : Nat) (x : Ins), k < n → ps[k]? = some x → goodB x n = true) → (ps.any fun i => !(goodB i n)) = false := fun hh => by
    rw [List.any_eq_false]
    intro y hy
    obtain ⟨k, hk, e⟩ := List.mem_iff_getElem.1 hy
    have := hh k y (by omega) (by rw [List.getElem?_eq_getElem hk, e])
    simp [this]
  have hg : ∀ k, k < n → ∃ x : Ins, ps[k]? = some x ∧ InsOk w x ∧ ∀ j u, j < 6 → (insEn x)[j]? = some u → (ps.flatMap insEn)[k * 6 + j]? = some u := fun k hk => by
    have h0 : ps[k]? = some (ps[k]'(by omega)) := by simp
    exact ⟨_, h0, hok _ (List.mem_of_getElem? h0), fun j u hj hu => (insGet ps k j _ h0 hj).trans hu⟩
  have HA := Lib.hid hA; have Hyes := Lib.hid hyes; have Hno := Lib.hid hno; have Hg := Lib.hid hg; have Hp := Lib.hid hp
  generalize (ps.any fun i => !(goodB i n)) = P at *
  clear hA hyes hno hg hok hp
  go_enter Try.func50, Try.ntmps50
  go_wp2_with fail
  go_loopw [8] (fun i wr => ∃ k : Nat, k ≤ n ∧ i = .int .i64 k ∧ Fr Nob w wr ∧ Hid (∀ (j : Nat) (x : Ins), j < k → ps[j]? = some x → goodB x n = true)) (fun i _ => n - (intOf i).toNat)
  case atStart => exact ⟨0, Nat.zero_le _, rfl, Fr.refl _ _, Lib.hid fun j x hj => by omega⟩
  case round =>
    obtain ⟨k, hk, rfl, hfr, hall⟩ := hrel
    have Hfr := Lib.hid hfr
    clear hfr
    by_cases hlt : k < n
    · obtain ⟨x, hx, hio, hq⟩ := Hg.out k hlt
      obtain ⟨g, o, rfl, hgl, hc⟩ := HA.out (by omega)
      have hbc := fun W (hf : Fr Nob w W) => bad_instr W x pb n A0 c0 (hf.cell id Hp.out) (hio.fr hf)
      have hy := Hyes.out k x hx
      have hall2 : goodB x n = true → ∀ (j : Nat) (y : Ins), j < k + 1 → ps[j]? = some y → goodB y n = true := fun hb j y hj hy => by
        by_cases hjk : j = k
        · subst hjk; rw [hx] at hy; cases hy; exact hb
        · exact hall.out j y (by omega) hy
      generalize goodB x n = r at *
      obtain ⟨⟨op, a, b, e⟩, v, cs, d⟩ := x
      obtain ⟨_, _, A2, c2, hv, _⟩ := id hio
      dsimp only at hv
      subst hv
      have x0 := Hfr.out.cell (p := ⟨g, o + (k * 6 + 0), none⟩) id (hc _ _ (hq 0 _ (by omega) rfl))
      have x1 := Hfr.out.cell (p := ⟨g, o + (k * 6 + 1), none⟩) id (hc _ _ (hq 1 _ (by omega) rfl))
      have x2 := Hfr.out.cell (p := ⟨g, o + (k * 6 + 2), none⟩) id (hc _ _ (hq 2 _ (by omega) rfl))
      have x3 := Hfr.out.cell (p := ⟨g, o + (k * 6 + 3), none⟩) id (hc _ _ (hq 3 _ (by omega) rfl))
      have x4 := Hfr.out.cell (p := ⟨g, o + (k * 6 + 4), none⟩) id (hc _ _ (hq 4 _ (by omega) rfl))
      have x5 := Hfr.out.cell (p := ⟨g, o + (k * 6 + 5), none⟩) id (hc _ _ (hq 5 _ (by omega) rfl))
      rw [← Nat.add_assoc] at x1 x2 x3 x4 x5
      rw [Nat.add_zero] at x0
      dsimp only at x0 x1 x2 x3 x4 x5 hbc
      have Hbc := Lib.hid hbc; have Hy := Lib.hid hy; have Hall2 := Lib.hid hall2
      have hki : (k : Int) < n := by omega
      clear hc hq hx hbc hy hall2 hio
      cases r with
      | true =>
        have Hn2 := Lib.hid (Hall2.out rfl)
        go_wp2_with fail
        refine (Hbc.out _ Hfr.out).mono ?_
        rintro e w2 ⟨rfl, hf2⟩
        have Hf2 := Lib.hid (Hfr.out.trans0 hf2)
        clear hf2
        go_wp2_with fail
        go_roundw
        case rel => exact ⟨k + 1, by omega, by go_num, Hf2.out, Hn2⟩
        case measure => simp [intOf]; omega
      | false =>
        have hP := Hy.out rfl
        have HP := Lib.hid hP
        clear hP
        go_wp2_with fail
        refine (Hbc.out _ Hfr.out).mono ?_
        rintro e w2 ⟨rfl, hf2⟩
        have Hf2 := Lib.hid (Hfr.out.trans0 hf2)
        clear hf2
        go_wp2_with fail
        go_ret
        exact ⟨k, rfl, by rw [HP.out]; simp, Hf2.out⟩
    · obtain rfl : k = n := by omega
      have HP := Lib.hid (Hno.out fun j x hj hx => hall.out j x hj hx)
      go_wp2_with fail
      go_ret
      exact ⟨-1, rfl, by rw [HP.out]; rfl, Hfr.out⟩
theorem contains_instrs (w : World) (v : Value) (ps : List Ins) (n pb : Nat) (A0 : Option Addr) (c0 : Nat) (hn : ps.length = n) (h : Rd w 6 v n (ps.flatMap insEn)) (hok : ∀ i ∈ ps, InsOk w i) (hp : w.cell? ⟨pb, 0, none⟩ = some (.slice A0 n c0)) :
    Calls Try.prog 41 #[v, .func (.func 42) #[] #[.pointer (some ⟨pb, 0, none⟩)]] w fun e w' => e = .returned (.bool (ps.any fun i => !(goodB i n))) ∧ Fr Nob w w' := by
  have H := Lib.hid (index_instrs w v ps n pb A0 c0 hn h hok hp)
  obtain ⟨_, _, A, c, rfl, _⟩ := h
  generalize (ps.any fun i => !(goodB i n)) = P at *
  clear hp hok
  go_enter Try.func41, Try.ntmps41
  go_wp2_with fail
  refine H.out.mono ?_
  rintro e w' ⟨r, rfl, hr, hf⟩
  have Hf := Lib.hid hf; have Hr := Lib.hid hr
  clear hf hr
  go_wp2_with fail
  go_ret
  exact ⟨by rw [← Hr.out]; rfl, Hf.out⟩
theorem check_any (w : World) (v : Value) (ps : List Ins) (n : Nat) (hn : ps.length = n) (h : Rd w 6 v n (ps.flatMap insEn)) (hok : ∀ i ∈ ps, InsOk w i) :
    Calls Try.prog 28 #[v] w fun e w' => e = .returned (.int .i64 (if progB ps = true then 0 else 1)) ∧ Fr Nob w w' := by
  obtain ⟨A, c, rfl⟩ : ∃ A c, v = .slice A n c := by obtain ⟨_, _, A, c, rfl, _⟩ := h; exact ⟨_, _, rfl⟩
  have hfa := (Fr.refl Nob w).alloc (.cells #[.slice A n c] 70)
  have hcon := contains_instrs (w.alloc (.cells #[.slice A n c] 70)) _ ps n w.heap.size A c hn (h.fr hfa) (fun i hi => (hok i hi).fr hfa) (blk_cell (heap_alloc_new w _) 0 rfl)
  have hall : (ps.any fun i => !(goodB i n)) = !(ps.all fun i => goodB i n) := by rw [List.any_eq_not_all_not]; simp
  rw [hall] at hcon
  have hpb : progB ps = (decide (n ≤ 100) && ps.all fun i => goodB i n) := by unfold progB; rw [hn]
  rw [hpb]
  generalize (ps.all fun i => goodB i n) = r at *
  have Hcon := Lib.hid hcon; have Hfa := Lib.hid hfa
  clear hcon hfa h hok hall hpb
  by_cases h1 : n ≤ 100
  · have e1 : decide ((100 : Int) < (n : Int)) = false := by simp; omega
    have e2 : decide (100 < n) = false := by simp; omega
    have e3 : (decide (n ≤ 100) && r) = r := by simp [h1]
    rw [e3]
    clear e3
    cases r with
    | true =>
      go_enter Try.func28, Try.ntmps28
      go_wp2_with fail
      refine Hcon.out.mono ?_
      rintro e w' ⟨rfl, hf⟩
      have Hf := Lib.hid (Hfa.out.trans0 hf)
      clear hf
      go_wp2_with fail
      go_ret
      exact ⟨rfl, Hf.out⟩
    | false =>
      go_enter Try.func28, Try.ntmps28
      go_wp2_with fail
      refine Hcon.out.mono ?_
      rintro e w' ⟨rfl, hf⟩
      have Hf := Lib.hid (Hfa.out.trans0 hf)
      clear hf
      go_wp2_with fail
      go_ret
      exact ⟨rfl, Hf.out⟩
  · have e1 : decide ((100 : Int) < (n : Int)) = true := by simp; omega
    have e2 : decide (100 < n) = true := by simp; omega
    have e3 : (decide (n ≤ 100) && r) = false := by simp; omega
    rw [e3]
    clear e3
    go_enter Try.func28, Try.ntmps28
    go_wp2_with fail
    go_ret
    exact ⟨rfl, Hfa.out⟩
end Go.Proofs.Yteabiaoklpfbdaa
