/- ChooseTells answers true whatever channels, acts and cases are: no condition; its arguments read as they did. -/
import Derived.Test.YtdemeghhjnehbaaTellTwin
import Derived.Test.YtdemeghhjnehbaaChooseAwake
set_option linter.unusedVariables false
set_option linter.unusedSimpArgs false
namespace Go.Proofs.Ytdemeghhjnehbaa
open Go.RowKit
set_option maxRecDepth 100000
theorem int_get {K : List Int} {w : World} {v : Value} {n : Nat} (h : Rd w 1 v n (ints K)) (hn : K.length = n) : ∃ A c, v = .slice A n c ∧ n ≤ c ∧ c ≤ maxLen ∧ ∀ k, k < n → ∃ (g o : Nat) (x : Int), A = some ⟨g, o, none⟩ ∧ w.cell? ⟨g, o + k, none⟩ = some (.int .i64 x) := by
  obtain ⟨_, hl, A, c, rfl, h1, h2, h3⟩ := h
  refine ⟨A, c, rfl, h1, h2, fun k hk => ?_⟩
  obtain ⟨g, o, rfl, hg, hc⟩ := h3 (by omega)
  have hkl : k < K.length := by omega
  exact ⟨g, o, K[k], rfl, hc k _ (by simp [hkl])⟩
theorem act_get {l : List Act9} {w : World} {v : Value} {n : Nat} (h : Rd w 6 v n (l.flatMap act9En)) (hn : l.length = n) : ∃ A c, v = .slice A n c ∧ n ≤ c ∧ c ≤ maxLen ∧ ∀ j, j < n → ∃ (x : Act9) (g o : Nat), A = some ⟨g, o, none⟩ ∧ w.cell? ⟨g, o + j * 6, none⟩ = some (.int .i64 x.1) ∧ w.cell? ⟨g, o + j * 6 + 1, none⟩ = some (.int .i64 x.2.1) ∧ w.cell? ⟨g, o + j * 6 + 2, none⟩ = some (.int .i64 x.2.2.1.1) ∧ w.cell? ⟨g, o + j * 6 + 3, none⟩ = some (.int .i64 x.2.2.1.2.1) ∧ w.cell? ⟨g, o + j * 6 + 4, none⟩ = some (.int .i64 x.2.2.1.2.2) ∧ w.cell? ⟨g, o + j * 6 + 5, none⟩ = some (.bool x.2.2.2) := by
  obtain ⟨_, hl, A, c, rfl, h1, h2, h3⟩ := h
  refine ⟨A, c, rfl, h1, h2, fun k hk => ?_⟩
  obtain ⟨g, o, rfl, hg, hc⟩ := h3 (by omega)
  have h0 : l[k]? = some (l[k]'(by omega)) := by simp
  have r := fun j (u : Value) (hj : j < 6) (hu : (act9En (l[k]'(by omega)))[j]? = some u) => (rowsGet (sz := 6) act9En (fun _ => rfl) l k j _ h0 hj).trans hu
  exact ⟨_, g, o, rfl, hc _ _ (r 0 _ (by omega) rfl), by rw [Nat.add_assoc]; exact hc _ _ (r 1 _ (by omega) rfl), by rw [Nat.add_assoc]; exact hc _ _ (r 2 _ (by omega) rfl), by rw [Nat.add_assoc]; exact hc _ _ (r 3 _ (by omega) rfl), by rw [Nat.add_assoc]; exact hc _ _ (r 4 _ (by omega) rfl), by rw [Nat.add_assoc]; exact hc _ _ (r 5 _ (by omega) rfl)⟩
theorem acts_get {L : ActsL} {w : World} {v : Value} {n : Nat} (h : Rd w 1 v n (L.flatMap fun a => [a.1])) (hn : L.length = n) (hq : ∀ a ∈ L, Rd w 6 a.1 a.2.length (a.2.flatMap act9En)) : ∃ A c, v = .slice A n c ∧ n ≤ c ∧ c ≤ maxLen ∧ ∀ k, k < n → ∃ (g o : Nat) (Ai : Option Addr) (ni ci : Nat), A = some ⟨g, o, none⟩ ∧ w.cell? ⟨g, o + k, none⟩ = some (.slice Ai ni ci) ∧ ni ≤ ci ∧ ci ≤ maxLen ∧
    ∀ j, j < ni → ∃ (x : Act9) (g o : Nat), Ai = some ⟨g, o, none⟩ ∧ w.cell? ⟨g, o + j * 6, none⟩ = some (.int .i64 x.1) ∧ w.cell? ⟨g, o + j * 6 + 1, none⟩ = some (.int .i64 x.2.1) ∧ w.cell? ⟨g, o + j * 6 + 2, none⟩ = some (.int .i64 x.2.2.1.1) ∧ w.cell? ⟨g, o + j * 6 + 3, none⟩ = some (.int .i64 x.2.2.1.2.1) ∧ w.cell? ⟨g, o + j * 6 + 4, none⟩ = some (.int .i64 x.2.2.1.2.2) ∧ w.cell? ⟨g, o + j * 6 + 5, none⟩ = some (.bool x.2.2.2) := by
  obtain ⟨_, hl, A, c, rfl, h1, h2, h3⟩ := h
  refine ⟨A, c, rfl, h1, h2, fun k hk => ?_⟩
  obtain ⟨g, o, rfl, hg, hc⟩ := h3 (by omega)
  have hkl : k < L.length := by omega
  have h0 : L[k]? = some (L[k]'hkl) := by simp
  obtain ⟨Ai, ci, he, hi1, hi2, hi3⟩ := act_get (hq _ (List.mem_of_getElem? h0)) rfl
  refine ⟨g, o, Ai, _, ci, rfl, ?_, hi1, hi2, hi3⟩
  rw [← he]
  have := rowsGet (sz := 1) (fun a : Value × List Act9 => [a.1]) (fun _ => rfl) L k 0 _ h0 (by omega)
  exact hc k _ (by simpa using this)
theorem tells_bad0 (w : World) (A0 A1 A2 A3 : Option Addr) (n nz nl np c0 c1 c2 c3 : Nat) (d : Bool) (dr t : Int)  (b0 : 4 < n) :
    Calls Try.prog 8 #[.slice A0 n c0, .slice A1 nz c1, .slice A2 nl c2, .slice A3 np c3, .bool d, .int .i64 dr, .int .i64 t] w fun e w' => e = .returned (.bool true) ∧ Fr Nob w w' := by
  have e0 : decide ((4 : Int) < (n : Int)) = true := decide_eq_true (by omega)
  have f0 : (4 : Int) < (n : Int) := by omega
  clear b0
  have Haw := Lib.hid (fun W => awake10 W)
  go_enter Try.func8, Try.ntmps8
  go_wp2_with fail
  refine (Haw.out _).mono ?_
  rintro e w2 ⟨rfl, hf2⟩
  have F2 := Lib.hid hf2
  clear hf2
  go_wp2_with fail
  go_ret
  exact ⟨rfl, F2.out⟩
theorem tells_bad1 (w : World) (A0 A1 A2 A3 : Option Addr) (n nz nl np c0 c1 c2 c3 : Nat) (d : Bool) (dr t : Int) (b0 : ¬ 4 < n) (b1 : nz < n) :
    Calls Try.prog 8 #[.slice A0 n c0, .slice A1 nz c1, .slice A2 nl c2, .slice A3 np c3, .bool d, .int .i64 dr, .int .i64 t] w fun e w' => e = .returned (.bool true) ∧ Fr Nob w w' := by
  have e0 : decide ((4 : Int) < (n : Int)) = false := decide_eq_false (by omega)
  have f0 : ¬ (4 : Int) < (n : Int) := by omega
  have e1 : decide ((nz : Int) < (n : Int)) = true := decide_eq_true (by omega)
  have f1 : (nz : Int) < (n : Int) := by omega
  clear b0 b1
  have Haw := Lib.hid (fun W => awake10 W)
  go_enter Try.func8, Try.ntmps8
  go_wp2_with fail
  refine (Haw.out _).mono ?_
  rintro e w2 ⟨rfl, hf2⟩
  have F2 := Lib.hid hf2
  clear hf2
  go_wp2_with fail
  go_ret
  exact ⟨rfl, F2.out⟩
theorem tells_bad2 (w : World) (A0 A1 A2 A3 : Option Addr) (n nz nl np c0 c1 c2 c3 : Nat) (d : Bool) (dr t : Int) (b0 : ¬ 4 < n) (b1 : ¬ nz < n) (b2 : nl < n) :
    Calls Try.prog 8 #[.slice A0 n c0, .slice A1 nz c1, .slice A2 nl c2, .slice A3 np c3, .bool d, .int .i64 dr, .int .i64 t] w fun e w' => e = .returned (.bool true) ∧ Fr Nob w w' := by
  have e0 : decide ((4 : Int) < (n : Int)) = false := decide_eq_false (by omega)
  have f0 : ¬ (4 : Int) < (n : Int) := by omega
  have e1 : decide ((nz : Int) < (n : Int)) = false := decide_eq_false (by omega)
  have f1 : ¬ (nz : Int) < (n : Int) := by omega
  have e2 : decide ((nl : Int) < (n : Int)) = true := decide_eq_true (by omega)
  have f2 : (nl : Int) < (n : Int) := by omega
  clear b0 b1 b2
  have Haw := Lib.hid (fun W => awake10 W)
  go_enter Try.func8, Try.ntmps8
  go_wp2_with fail
  refine (Haw.out _).mono ?_
  rintro e w2 ⟨rfl, hf2⟩
  have F2 := Lib.hid hf2
  clear hf2
  go_wp2_with fail
  go_ret
  exact ⟨rfl, F2.out⟩
theorem tells_bad3 (w : World) (A0 A1 A2 A3 : Option Addr) (n nz nl np c0 c1 c2 c3 : Nat) (d : Bool) (dr t : Int) (b0 : ¬ 4 < n) (b1 : ¬ nz < n) (b2 : ¬ nl < n) (b3 : 8 < nz) :
    Calls Try.prog 8 #[.slice A0 n c0, .slice A1 nz c1, .slice A2 nl c2, .slice A3 np c3, .bool d, .int .i64 dr, .int .i64 t] w fun e w' => e = .returned (.bool true) ∧ Fr Nob w w' := by
  have e0 : decide ((4 : Int) < (n : Int)) = false := decide_eq_false (by omega)
  have f0 : ¬ (4 : Int) < (n : Int) := by omega
  have e1 : decide ((nz : Int) < (n : Int)) = false := decide_eq_false (by omega)
  have f1 : ¬ (nz : Int) < (n : Int) := by omega
  have e2 : decide ((nl : Int) < (n : Int)) = false := decide_eq_false (by omega)
  have f2 : ¬ (nl : Int) < (n : Int) := by omega
  have e3 : decide ((8 : Int) < (nz : Int)) = true := decide_eq_true (by omega)
  have f3 : (8 : Int) < (nz : Int) := by omega
  clear b0 b1 b2 b3
  have Haw := Lib.hid (fun W => awake10 W)
  go_enter Try.func8, Try.ntmps8
  go_wp2_with fail
  refine (Haw.out _).mono ?_
  rintro e w2 ⟨rfl, hf2⟩
  have F2 := Lib.hid hf2
  clear hf2
  go_wp2_with fail
  go_ret
  exact ⟨rfl, F2.out⟩
theorem tells_bad4 (w : World) (A0 A1 A2 A3 : Option Addr) (n nz nl np c0 c1 c2 c3 : Nat) (d : Bool) (dr t : Int) (b0 : ¬ 4 < n) (b1 : ¬ nz < n) (b2 : ¬ nl < n) (b3 : ¬ 8 < nz) (b4 : 8 < nl) :
    Calls Try.prog 8 #[.slice A0 n c0, .slice A1 nz c1, .slice A2 nl c2, .slice A3 np c3, .bool d, .int .i64 dr, .int .i64 t] w fun e w' => e = .returned (.bool true) ∧ Fr Nob w w' := by
  have e0 : decide ((4 : Int) < (n : Int)) = false := decide_eq_false (by omega)
  have f0 : ¬ (4 : Int) < (n : Int) := by omega
  have e1 : decide ((nz : Int) < (n : Int)) = false := decide_eq_false (by omega)
  have f1 : ¬ (nz : Int) < (n : Int) := by omega
  have e2 : decide ((nl : Int) < (n : Int)) = false := decide_eq_false (by omega)
  have f2 : ¬ (nl : Int) < (n : Int) := by omega
  have e3 : decide ((8 : Int) < (nz : Int)) = false := decide_eq_false (by omega)
  have f3 : ¬ (8 : Int) < (nz : Int) := by omega
  have e4 : decide ((8 : Int) < (nl : Int)) = true := decide_eq_true (by omega)
  have f4 : (8 : Int) < (nl : Int) := by omega
  clear b0 b1 b2 b3 b4
  have Haw := Lib.hid (fun W => awake10 W)
  go_enter Try.func8, Try.ntmps8
  go_wp2_with fail
  refine (Haw.out _).mono ?_
  rintro e w2 ⟨rfl, hf2⟩
  have F2 := Lib.hid hf2
  clear hf2
  go_wp2_with fail
  go_ret
  exact ⟨rfl, F2.out⟩
theorem tells_bad5 (w : World) (A0 A1 A2 A3 : Option Addr) (n nz nl np c0 c1 c2 c3 : Nat) (d : Bool) (dr t : Int) (b0 : ¬ 4 < n) (b1 : ¬ nz < n) (b2 : ¬ nl < n) (b3 : ¬ 8 < nz) (b4 : ¬ 8 < nl) (b5 : 20 < np) :
    Calls Try.prog 8 #[.slice A0 n c0, .slice A1 nz c1, .slice A2 nl c2, .slice A3 np c3, .bool d, .int .i64 dr, .int .i64 t] w fun e w' => e = .returned (.bool true) ∧ Fr Nob w w' := by
  have e0 : decide ((4 : Int) < (n : Int)) = false := decide_eq_false (by omega)
  have f0 : ¬ (4 : Int) < (n : Int) := by omega
  have e1 : decide ((nz : Int) < (n : Int)) = false := decide_eq_false (by omega)
  have f1 : ¬ (nz : Int) < (n : Int) := by omega
  have e2 : decide ((nl : Int) < (n : Int)) = false := decide_eq_false (by omega)
  have f2 : ¬ (nl : Int) < (n : Int) := by omega
  have e3 : decide ((8 : Int) < (nz : Int)) = false := decide_eq_false (by omega)
  have f3 : ¬ (8 : Int) < (nz : Int) := by omega
  have e4 : decide ((8 : Int) < (nl : Int)) = false := decide_eq_false (by omega)
  have f4 : ¬ (8 : Int) < (nl : Int) := by omega
  have e5 : decide ((20 : Int) < (np : Int)) = true := decide_eq_true (by omega)
  have f5 : (20 : Int) < (np : Int) := by omega
  clear b0 b1 b2 b3 b4 b5
  have Haw := Lib.hid (fun W => awake10 W)
  go_enter Try.func8, Try.ntmps8
  go_wp2_with fail
  refine (Haw.out _).mono ?_
  rintro e w2 ⟨rfl, hf2⟩
  have F2 := Lib.hid hf2
  clear hf2
  go_wp2_with fail
  go_ret
  exact ⟨rfl, F2.out⟩
set_option maxHeartbeats 16000000 in
theorem tells_main (w : World) (v0 v1 v2 v3 : Value) (K Z : List Int) (L : ActsL) (ps : List Pk) (n nz nl np : Nat) (hK : K.length = n) (hZ : Z.length = nz) (hL : L.length = nl) (hP : ps.length = np) (b0 : ¬ 4 < n) (b1 : ¬ nz < n) (b2 : ¬ nl < n) (b3 : ¬ 8 < nz) (b4 : ¬ 8 < nl) (b5 : ¬ 20 < np)
    (r0 : Rd w 1 v0 n (ints K)) (r1 : Rd w 1 v1 nz (ints Z)) (r2 : Rd w 1 v2 nl (L.flatMap fun a => [a.1])) (r2' : ∀ a ∈ L, Rd w 6 a.1 a.2.length (a.2.flatMap act9En)) (r3 : Rd w 3 v3 np (ps.flatMap pkEn)) (d : Bool) (dr t : Int) :
    Calls Try.prog 8 #[v0, v1, v2, v3, .bool d, .int .i64 dr, .int .i64 t] w fun e w' => e = .returned (.bool true) ∧ Fr Nob w w' := by
  obtain ⟨A0, c0, rfl, l01, l02, hk0⟩ := int_get r0 hK
  obtain ⟨A1, c1, rfl, l11, l12, hk1⟩ := int_get r1 hZ
  obtain ⟨A2, c2, rfl, l21, l22, hk2⟩ := acts_get r2 hL r2'
  obtain ⟨A3, c3, rfl, l31, l32, _⟩ := pk_get r3 hP
  have e0 : decide ((4 : Int) < (n : Int)) = false := decide_eq_false (by omega)
  have f0 : ¬ (4 : Int) < (n : Int) := by omega
  have e1 : decide ((nz : Int) < (n : Int)) = false := decide_eq_false (by omega)
  have f1 : ¬ (nz : Int) < (n : Int) := by omega
  have e2 : decide ((nl : Int) < (n : Int)) = false := decide_eq_false (by omega)
  have f2 : ¬ (nl : Int) < (n : Int) := by omega
  have e3 : decide ((8 : Int) < (nz : Int)) = false := decide_eq_false (by omega)
  have f3 : ¬ (8 : Int) < (nz : Int) := by omega
  have e4 : decide ((8 : Int) < (nl : Int)) = false := decide_eq_false (by omega)
  have f4 : ¬ (8 : Int) < (nl : Int) := by omega
  have e5 : decide ((20 : Int) < (np : Int)) = false := decide_eq_false (by omega)
  have f5 : ¬ (20 : Int) < (np : Int) := by omega
  have H0 := Lib.hid hk0; have H1 := Lib.hid hk1; have H2 := Lib.hid hk2; have R3 := Lib.hid r3; have HP := Lib.hid hP
  clear hk0 hk1 hk2 r0 r1 r2 r2' r3 hK hZ hL hP
  unfold maxLen at l02 l12 l22 l32
  have Hn4 : Hid (n ≤ 4 ∧ n ≤ nz ∧ n ≤ nl ∧ np ≤ 20) := ⟨by omega, by omega, by omega, by omega⟩
  clear b0 b1 b2 b3 b4 b5
  go_enter Try.func8, Try.ntmps8
  go_wp2_with fail
  go_loopw [15, 16, 17] (fun c m i wr => ∃ (k : Nat) (Ac Am : Option Addr) (cc cm : Nat) (os : List (Option Nat)) (S T U : Nat → Prop) (B M : Nat → Nat) (P : Nat → Option ChS), c = .slice Ac k cc ∧ m = .slice Am k cm ∧ i = .int .i64 k ∧ k ≤ n ∧ Hid (Tw w wr S T U B M P) ∧ Hid (OsOk os P k) ∧ Hid (Sl wr U 24 1 (.slice Ac k cc) k (pvs B os)) ∧ Hid (Sl wr U 57 1 (.slice Am k cm) k (pvs M os))) (fun _ _ i _ => n - (intOf i).toNat)
  case atStart => exact ⟨0, none, none, 0, 0, [], Nob, Nob, Nob, fun _ => 0, fun _ => 0, fun _ => none, rfl, rfl, rfl, Nat.zero_le _, Lib.hid (Tw.start w), Lib.hid OsOk.start, Lib.hid (Sl.nil _ _ _ _), Lib.hid (Sl.nil _ _ _ _)⟩
  case round =>
    obtain ⟨wo, rfl⟩ : ∃ wo : World, wo = wr := ⟨_, rfl⟩
    obtain ⟨k, Ac, Am, cc, cm, os, S, T, U, B, M, P, rfl, rfl, rfl, hk, Ht, Ho, Hc, Hm⟩ := hrel
    by_cases hlt : k < n
    · have hki : (k : Int) < n := by omega
      have hkz : (k : Int) < nz := by have := Hn4.out; omega
      have hkl : (k : Int) < nl := by have := Hn4.out; omega
      obtain ⟨g0, o0, x, rfl, x0⟩ := H0.out k hlt
      obtain ⟨g1, o1, y, rfl, y0⟩ := H1.out k (by omega)
      obtain ⟨g2, o2, Ai, ni, ci, rfl, l0, hi1, hi2, hi3⟩ := H2.out k (by omega)
      have hcap : k < cc ∨ True := .inr trivial
      have hkey : ∀ W, Fr Nob w W → W.cell? ⟨g0, o0 + k, none⟩ = some (.int .i64 x) ∧ W.cell? ⟨g1, o1 + k, none⟩ = some (.int .i64 y) := fun W hW => ⟨hW.cell id x0, hW.cell id y0⟩
      have Key := Lib.hid hkey; have Hl0 := Lib.hid l0; have Hi := Lib.hid hi3
      clear hkey x0 y0 l0 hi3 hcap
      unfold maxLen at hi2
      go_wp2_with fail
      refine wp_region_held_drew (S := fun W => W.cell? ⟨g0, o0 + k, none⟩ = some (.int .i64 x) ∧ W.cell? ⟨g1, o1 + k, none⟩ = some (.int .i64 y)) (by kernel_rfl) (by exact Key.out _ Ht.out.fr.drew) (fun hHeld => ?_)
      refine wpAnyH_take (i := 0) (v := ?_) rfl (by kernel_rfl) (by kernel_rfl) (by kernel_rfl) (fun _ _ _ h => h) (Or.inl ⟨by rfl, ?_⟩) (by assumption) ?_
      rotate_left
      · intro w hSw; (try dsimp only at hSw); go_simp; try with_reducible rfl
      try simp only [List.getElem_toArray, List.getElem_cons_zero, List.getElem_cons_succ, Act.put, List.setIfInBounds_toArray, List.set_cons_zero, List.set_cons_succ]
      refine wpAnyH_take (i := 1) (v := ?_) rfl (by kernel_rfl) (by kernel_rfl) (by kernel_rfl) (fun _ _ _ h => h) (Or.inl ⟨by rfl, ?_⟩) (by assumption) ?_
      rotate_left
      · intro w hSw; (try dsimp only at hSw); go_simp; try with_reducible rfl
      try simp only [List.getElem_toArray, List.getElem_cons_zero, List.getElem_cons_succ, Act.put, List.setIfInBounds_toArray, List.set_cons_zero, List.set_cons_succ]
      refine wpAnyH_take (i := 2) (v := ?_) rfl (by kernel_rfl) (by kernel_rfl) (by kernel_rfl) (fun _ _ _ h => h) (Or.inl ⟨by rfl, ?_⟩) (by assumption) ?_
      rotate_left
      · intro w hSw; (try dsimp only at hSw); go_simp; try with_reducible rfl
      try simp only [List.getElem_toArray, List.getElem_cons_zero, List.getElem_cons_succ, Act.put, List.setIfInBounds_toArray, List.set_cons_zero, List.set_cons_succ]
      refine wpAnyH_take (i := 3) (v := ?_) rfl (by kernel_rfl) (by kernel_rfl) (by kernel_rfl) (fun _ _ _ h => h) (Or.inl ⟨by rfl, ?_⟩) (by assumption) ?_
      rotate_left
      · intro w hSw; (try dsimp only at hSw); go_simp; try with_reducible rfl
      try simp only [List.getElem_toArray, List.getElem_cons_zero, List.getElem_cons_succ, Act.put, List.setIfInBounds_toArray, List.set_cons_zero, List.set_cons_succ]
      refine wpAnyH_take (i := 4) (v := ?_) rfl (by kernel_rfl) (by kernel_rfl) (by kernel_rfl) (fun _ _ _ h => h) (Or.inl ⟨by rfl, ?_⟩) (by assumption) ?_
      rotate_left
      · intro w hSw; (try dsimp only at hSw); go_simp; try with_reducible rfl
      try simp only [List.getElem_toArray, List.getElem_cons_zero, List.getElem_cons_succ, Act.put, List.setIfInBounds_toArray, List.set_cons_zero, List.set_cons_succ]
      refine wpAnyH_take (i := 5) (v := ?_) rfl (by kernel_rfl) (by kernel_rfl) (by kernel_rfl) (fun _ _ _ h => h) (Or.inl ⟨by rfl, ?_⟩) (by assumption) ?_
      rotate_left
      · intro w hSw; (try dsimp only at hSw); go_simp; try with_reducible rfl
      try simp only [List.getElem_toArray, List.getElem_cons_zero, List.getElem_cons_succ, Act.put, List.setIfInBounds_toArray, List.set_cons_zero, List.set_cons_succ]
      refine wpAnyH_take (i := 6) (v := ?_) rfl (by kernel_rfl) (by kernel_rfl) (by kernel_rfl) (fun _ _ _ h => h) (Or.inl ⟨by rfl, ?_⟩) (by assumption) ?_
      rotate_left
      · intro w hSw; (try dsimp only at hSw); go_simp; try with_reducible rfl
      try simp only [List.getElem_toArray, List.getElem_cons_zero, List.getElem_cons_succ, Act.put, List.setIfInBounds_toArray, List.set_cons_zero, List.set_cons_succ]
      refine wpAnyH_take (i := 7) (v := ?_) rfl (by kernel_rfl) (by kernel_rfl) (by kernel_rfl) (fun _ _ _ h => h) (Or.inl ⟨by rfl, ?_⟩) (by assumption) ?_
      rotate_left
      · intro w hSw; (try dsimp only at hSw); go_simp; try with_reducible rfl
      try simp only [List.getElem_toArray, List.getElem_cons_zero, List.getElem_cons_succ, Act.put, List.setIfInBounds_toArray, List.set_cons_zero, List.set_cons_succ]
      refine wpAnyH_ready (rs := [8]) (by kernel_rfl) (by simp) ?_
      refine AllReadyH.cons rfl (fun K hK => ?_) AllReadyH.nil
      simp only [List.getElem_toArray, List.getElem_cons_zero, List.getElem_cons_succ]
      go_simp
      refine (pair_any wo.drew x y).mono ?_
      rintro e w2 hP
      have hd0 : Fr Nob wo wo.drew := (Fr.refl Nob wo).drew
      have hfw2 : Fr Nob wo w2 := by
        rcases hP with ⟨_, h⟩ | ⟨b, m, c, _, h, _⟩
        · exact hd0.trans0 h
        · exact hd0.trans0 h.fr
      have HF2 := Lib.hid hfw2
      clear hfw2
      rcases hP with ⟨rfl, hf2⟩ | ⟨b, m, c, rfl, hb2, hr2, hs2⟩
      · refine hK.out _ _ (Key.out _ (Ht.out.fr.trans0 HF2.out)) (fun hHeld2 => ?_)
        clear hK
        refine wpAnyH_take (i := 9) (v := ?_) rfl (by kernel_rfl) (by kernel_rfl) (by kernel_rfl) (fun _ _ _ h => h) (Or.inl ⟨by rfl, ?_⟩) (by assumption) ?_
        rotate_left
        · intro w hSw; (try dsimp only at hSw); go_simp; try with_reducible rfl
        try simp only [List.getElem_toArray, List.getElem_cons_zero, List.getElem_cons_succ, Act.put, List.setIfInBounds_toArray, List.set_cons_zero, List.set_cons_succ]
        refine wpAnyH_take (i := 10) (v := ?_) rfl (by kernel_rfl) (by kernel_rfl) (by kernel_rfl) (fun _ _ _ h => h) (Or.inl ⟨by rfl, ?_⟩) (by assumption) ?_
        rotate_left
        · intro w hSw; (try dsimp only at hSw); go_simp; try with_reducible rfl
        try simp only [List.getElem_toArray, List.getElem_cons_zero, List.getElem_cons_succ, Act.put, List.setIfInBounds_toArray, List.set_cons_zero, List.set_cons_succ]
        refine wpAnyH_take (i := 11) (v := ?_) rfl (by kernel_rfl) (by kernel_rfl) (by kernel_rfl) (fun _ _ _ h => h) (Or.inl ⟨by rfl, ?_⟩) (by assumption) ?_
        rotate_left
        · intro w hSw; (try dsimp only at hSw); go_simp; try with_reducible rfl
        try simp only [List.getElem_toArray, List.getElem_cons_zero, List.getElem_cons_succ, Act.put, List.setIfInBounds_toArray, List.set_cons_zero, List.set_cons_succ]
        refine wpAnyH_take (i := 12) (v := ?_) rfl (by kernel_rfl) (by kernel_rfl) (by kernel_rfl) (fun _ _ _ h => h) (Or.inl ⟨by rfl, ?_⟩) (by assumption) ?_
        rotate_left
        · intro w hSw; (try dsimp only at hSw); go_simp; try with_reducible rfl
        try simp only [List.getElem_toArray, List.getElem_cons_zero, List.getElem_cons_succ, Act.put, List.setIfInBounds_toArray, List.set_cons_zero, List.set_cons_succ]
        refine wpAnyH_take (i := 13) (v := ?_) rfl (by kernel_rfl) (by kernel_rfl) (by kernel_rfl) (fun _ _ _ h => h) (Or.inl ⟨by rfl, ?_⟩) (by assumption) ?_
        rotate_left
        · intro w hSw; (try dsimp only at hSw); go_simp; try with_reducible rfl
        try simp only [List.getElem_toArray, List.getElem_cons_zero, List.getElem_cons_succ, Act.put, List.setIfInBounds_toArray, List.set_cons_zero, List.set_cons_succ]
        refine wpAnyH_done (by kernel_rfl) ?_ _
        try simp only [List.getElem_toArray, List.getElem_cons_zero, List.getElem_cons_succ, Act.put, List.setIfInBounds_toArray, List.set_cons_zero, List.set_cons_succ]
        have el := (Ht.out.fr.trans0 HF2.out).cell (p := ⟨g2, o2 + k, none⟩) id Hl0.out
        clear hf2
        clear hd0 hHeld hHeld2 Key K
        by_cases h20 : 20 < ni
        · have d20 : decide ((20 : Int) < (ni : Int)) = true := decide_eq_true (by omega)
          have d20' : (20 : Int) < (ni : Int) := by omega
          go_wp2_with fail
          refine (awake10 w2).mono ?_
          rintro e w3 ⟨rfl, hf3⟩
          have F3 := Lib.hid ((Ht.out.fr.trans0 HF2.out).trans0 hf3)
          clear hf3
          go_wp2_with fail
          go_ret
          exact ⟨rfl, F3.out⟩
        · have d20 : decide ((20 : Int) < (ni : Int)) = false := decide_eq_false (by omega)
          have d20' : ¬ (20 : Int) < (ni : Int) := by omega
          have hn20 : ni ≤ 20 := by omega
          clear h20
          go_wp2_with fail
          go_loopw [20] (fun i wr => ∃ j : Nat, i = .int .i64 j ∧ j ≤ ni ∧ Hid (Fr Nob wo wr)) (fun i _ => ni - (intOf i).toNat)
          case atStart => exact ⟨0, rfl, Nat.zero_le _, HF2⟩
          case round =>
            obtain ⟨j, rfl, hj, Hfr⟩ := hrel
            have el := (Ht.out.fr.trans0 Hfr.out).cell (p := ⟨g2, o2 + k, none⟩) id Hl0.out
            by_cases hlj : j < ni
            · have hlj' : (j : Int) < ni := by omega
              obtain ⟨a, g, o, rfl, q0, q1, q2, q3, q4, q5⟩ := Hi.out j hlj
              obtain ⟨kd, v, ⟨z0, z1, z2⟩, s⟩ := a
              have a0 := (Ht.out.fr.trans0 Hfr.out).cell (p := ⟨g, o + j * 6, none⟩) id q0
              have a1 := (Ht.out.fr.trans0 Hfr.out).cell (p := ⟨g, o + j * 6 + 1, none⟩) id q1
              have a2 := (Ht.out.fr.trans0 Hfr.out).cell (p := ⟨g, o + j * 6 + 2, none⟩) id q2
              have a3 := (Ht.out.fr.trans0 Hfr.out).cell (p := ⟨g, o + j * 6 + 3, none⟩) id q3
              have a4 := (Ht.out.fr.trans0 Hfr.out).cell (p := ⟨g, o + j * 6 + 4, none⟩) id q4
              have a5 := (Ht.out.fr.trans0 Hfr.out).cell (p := ⟨g, o + j * 6 + 5, none⟩) id q5
              dsimp only at a0 a1 a2 a3 a4 a5
              clear q0 q1 q2 q3 q4 q5
              go_wp2_with fail
              refine (doesn_any wr kd v z0 z1 z2 s).mono ?_
              rintro e w3 ⟨rfl, hf3⟩
              have F3 := Lib.hid (Hfr.out.trans0 hf3)
              clear hf3 a0 a1 a2 a3 a4 a5 el
              go_wp2_with fail
              go_roundw
              case rel => exact ⟨j + 1, by go_num, by omega, F3⟩
              case measure => simp [intOf]; omega
            · obtain rfl : ni = j := by omega
              have hlt' : ¬ (ni : Int) < ni := by omega
              have HcT := Lib.hid ((Hc.out.fr Hfr.out fun _ _ q => q).typed)
              have HmT := Lib.hid ((Hm.out.fr Hfr.out fun _ _ q => q))
              have hk8 : (k + 1) * 8 ≤ 140737488355328 := by have := Hn4.out; omega
              have Hk8 := Lib.hid hk8
              clear hk8
              go_wp2_with (at_builtin; (first
                | (refine wpList_append1 _ rfl _ _ _ rfl (fun j => U j ∧ ∃ blk, wr.heap[j]? = some (.cells blk 24 (0, 0))) 24 _ 1 8 Try.underlying55 info_ptrA rfl (by decide) (.slice Ac k cc) k (pvs B os) [.pointer none] rfl HcT.out rfl rfl rfl Hk8.out (by decide) ?_; intro v5 w5 hs50 hf5 hz50; have hm5 := (HmT.out.pass hf5 (by decide)).typed; obtain ⟨A5, c5, rfl⟩ := hs50.slice)
                | (refine wpList_append1 _ rfl _ _ _ rfl (fun j => U j ∧ ∃ blk, w5.heap[j]? = some (.cells blk 57 (0, 0))) 57 _ 1 8 Try.underlying56 info_ptrB rfl (by decide) (.slice Am k cm) k (pvs M os) [.pointer none] rfl hm5 rfl rfl rfl Hk8.out (by decide) ?_; intro v6 w6 hs6 hf6 hz60; have hs5 := hs50.pass hf6 (by decide); obtain ⟨A6, c6, rfl⟩ := hs6.slice; clear hm5 hs50 hz50 hz60)))
              have hz5 := hf5.size
              have hU : Fr U wr w6 := (hf5.mono fun j _ q => q.1).trans0 (hf6.mono fun j _ q => q.1)
              have Ht6 := Lib.hid ((Ht.out.fr0 Hfr.out).row hU)
              have Ho6 := Lib.hid Ho.out.nil
              have Hc6 : Hid (Sl w6 (And' U wr w6) 24 1 (.slice A5 (k + 1) c5) (k + 1) (pvs B (os ++ [none]))) := by
                have e : pvs B (os ++ [none]) = pvs B os ++ [.pointer none] := by simp [pa]
                rw [e]; exact hs5.mono fun j hj q => by rcases q with q | q; exact .inl q.1; exact .inr ⟨q, hj⟩
              have Hm6 : Hid (Sl w6 (And' U wr w6) 57 1 (.slice A6 (k + 1) c6) (k + 1) (pvs M (os ++ [none]))) := by
                have e : pvs M (os ++ [none]) = pvs M os ++ [.pointer none] := by simp [pa]
                rw [e]; exact hs6.mono fun j hj q => by rcases q with q | q; exact .inl q.1; exact .inr ⟨by omega, hj⟩
              clear hs5 hs6 hf5 hf6 hU hz5 HcT HmT
              first
              | (go_roundw
                 case rel => exact ⟨k + 1, A5, A6, c5, c6, os ++ [none], S, T, And' U wr w6, B, M, P, rfl, rfl, by go_num, by omega, Ht6, Ho6, Hc6, Hm6⟩
                 case measure => (simp [intOf] <;> omega))
              | (refine ⟨?_, ?measure2⟩
                 (repeat apply Exists.intro)
                 refine ⟨?rel2, rfl⟩
                 case rel2 => exact ⟨k + 1, A5, A6, c5, c6, os ++ [none], S, T, And' U wr w6, B, M, P, rfl, rfl, by go_num, by omega, Ht6, Ho6, Hc6, Hm6⟩
                 case measure2 => (simp [intOf] <;> omega))
      · refine hK.out _ _ (Key.out _ (Ht.out.fr.trans0 HF2.out)) (fun hHeld2 => ?_)
        clear hK
        refine wpAnyH_take (i := 9) (v := ?_) rfl (by kernel_rfl) (by kernel_rfl) (by kernel_rfl) (fun _ _ _ h => h) (Or.inl ⟨by rfl, ?_⟩) (by assumption) ?_
        rotate_left
        · intro w hSw; (try dsimp only at hSw); go_simp; try with_reducible rfl
        try simp only [List.getElem_toArray, List.getElem_cons_zero, List.getElem_cons_succ, Act.put, List.setIfInBounds_toArray, List.set_cons_zero, List.set_cons_succ]
        refine wpAnyH_take (i := 10) (v := ?_) rfl (by kernel_rfl) (by kernel_rfl) (by kernel_rfl) (fun _ _ _ h => h) (Or.inl ⟨by rfl, ?_⟩) (by assumption) ?_
        rotate_left
        · intro w hSw; (try dsimp only at hSw); go_simp; try with_reducible rfl
        try simp only [List.getElem_toArray, List.getElem_cons_zero, List.getElem_cons_succ, Act.put, List.setIfInBounds_toArray, List.set_cons_zero, List.set_cons_succ]
        refine wpAnyH_take (i := 11) (v := ?_) rfl (by kernel_rfl) (by kernel_rfl) (by kernel_rfl) (fun _ _ _ h => h) (Or.inl ⟨by rfl, ?_⟩) (by assumption) ?_
        rotate_left
        · intro w hSw; (try dsimp only at hSw); go_simp; try with_reducible rfl
        try simp only [List.getElem_toArray, List.getElem_cons_zero, List.getElem_cons_succ, Act.put, List.setIfInBounds_toArray, List.set_cons_zero, List.set_cons_succ]
        refine wpAnyH_take (i := 12) (v := ?_) rfl (by kernel_rfl) (by kernel_rfl) (by kernel_rfl) (fun _ _ _ h => h) (Or.inl ⟨by rfl, ?_⟩) (by assumption) ?_
        rotate_left
        · intro w hSw; (try dsimp only at hSw); go_simp; try with_reducible rfl
        try simp only [List.getElem_toArray, List.getElem_cons_zero, List.getElem_cons_succ, Act.put, List.setIfInBounds_toArray, List.set_cons_zero, List.set_cons_succ]
        refine wpAnyH_take (i := 13) (v := ?_) rfl (by kernel_rfl) (by kernel_rfl) (by kernel_rfl) (fun _ _ _ h => h) (Or.inl ⟨by rfl, ?_⟩) (by assumption) ?_
        rotate_left
        · intro w hSw; (try dsimp only at hSw); go_simp; try with_reducible rfl
        try simp only [List.getElem_toArray, List.getElem_cons_zero, List.getElem_cons_succ, Act.put, List.setIfInBounds_toArray, List.set_cons_zero, List.set_cons_succ]
        refine wpAnyH_done (by kernel_rfl) ?_ _
        try simp only [List.getElem_toArray, List.getElem_cons_zero, List.getElem_cons_succ, Act.put, List.setIfInBounds_toArray, List.set_cons_zero, List.set_cons_succ]
        have el := (Ht.out.fr.trans0 HF2.out).cell (p := ⟨g2, o2 + k, none⟩) id Hl0.out
        have Hb2 : Hid (Both wo w2 b m c) := by
          obtain ⟨S1, T1, q1, q2, q3, q4, q5, q6⟩ := hb2
          exact Lib.hid ⟨S1, T1, q1, q2, q3, q4, q5, hd0.trans0 q6⟩
        have hl1 : c.rv.length ≤ 0 := by rw [hr2]; exact Nat.le_refl _
        have hl2 : c.sd.length ≤ 0 := by rw [hs2]; exact Nat.le_refl _
        have Hl := Lib.hid (And.intro hl1 hl2)
        clear hb2 hr2 hs2 hl1 hl2
        clear hd0 hHeld hHeld2 Key K
        by_cases h20 : 20 < ni
        · have d20 : decide ((20 : Int) < (ni : Int)) = true := decide_eq_true (by omega)
          have d20' : (20 : Int) < (ni : Int) := by omega
          go_wp2_with fail
          refine (awake10 w2).mono ?_
          rintro e w3 ⟨rfl, hf3⟩
          have F3 := Lib.hid ((Ht.out.fr.trans0 HF2.out).trans0 hf3)
          clear hf3
          go_wp2_with fail
          go_ret
          exact ⟨rfl, F3.out⟩
        · have d20 : decide ((20 : Int) < (ni : Int)) = false := decide_eq_false (by omega)
          have d20' : ¬ (20 : Int) < (ni : Int) := by omega
          have hn20 : ni ≤ 20 := by omega
          clear h20
          go_wp2_with fail
          go_loopw [20] (fun i wr => ∃ (j : Nat) (c : ChS), i = .int .i64 j ∧ j ≤ ni ∧ Hid (c.rv.length ≤ j ∧ c.sd.length ≤ j) ∧ Hid (Both wo wr b m c)) (fun i _ => ni - (intOf i).toNat)
          case atStart => exact ⟨0, c, rfl, Nat.zero_le _, Hl, Hb2⟩
          case round =>
            clear Hb2 Hl
            obtain ⟨j, c, rfl, hj, Hl, Hb⟩ := hrel
            have Hfr := Lib.hid Hb.out.fr
            have el := (Ht.out.fr.trans0 Hfr.out).cell (p := ⟨g2, o2 + k, none⟩) id Hl0.out
            by_cases hlj : j < ni
            · have hlj' : (j : Int) < ni := by omega
              obtain ⟨a, g, o, rfl, q0, q1, q2, q3, q4, q5⟩ := Hi.out j hlj
              obtain ⟨kd, v, ⟨z0, z1, z2⟩, s⟩ := a
              have a0 := (Ht.out.fr.trans0 Hfr.out).cell (p := ⟨g, o + j * 6, none⟩) id q0
              have a1 := (Ht.out.fr.trans0 Hfr.out).cell (p := ⟨g, o + j * 6 + 1, none⟩) id q1
              have a2 := (Ht.out.fr.trans0 Hfr.out).cell (p := ⟨g, o + j * 6 + 2, none⟩) id q2
              have a3 := (Ht.out.fr.trans0 Hfr.out).cell (p := ⟨g, o + j * 6 + 3, none⟩) id q3
              have a4 := (Ht.out.fr.trans0 Hfr.out).cell (p := ⟨g, o + j * 6 + 4, none⟩) id q4
              have a5 := (Ht.out.fr.trans0 Hfr.out).cell (p := ⟨g, o + j * 6 + 5, none⟩) id q5
              dsimp only at a0 a1 a2 a3 a4 a5
              clear q0 q1 q2 q3 q4 q5
              go_wp2_with fail
              refine (does_any Hb.out (Hb.out.few Hl.out.1 Hl.out.2 (by omega)) kd v z0 z1 z2 s).mono ?_
              rintro e w3 ⟨rfl, c3, hb3, hr3, hs3⟩
              have HB3 := Lib.hid hb3
              have Hl3 : Hid (c3.rv.length ≤ j + 1 ∧ c3.sd.length ≤ j + 1) := ⟨by have := Hl.out.1; omega, by have := Hl.out.2; omega⟩
              clear hb3 hr3 hs3 a0 a1 a2 a3 a4 a5 el
              go_wp2_with fail
              go_roundw
              case rel => exact ⟨j + 1, c3, by go_num, by omega, Hl3, HB3⟩
              case measure => simp [intOf]; omega
            · obtain rfl : ni = j := by omega
              have hlt' : ¬ (ni : Int) < ni := by omega
              obtain ⟨S', T', hadd⟩ := Ht.out.add k Hb.out
              have Hadd := Lib.hid hadd
              clear hadd
              have Ho6 := Lib.hid (Ho.out.add c (by have := Hl.out.1; omega) (by have := Hl.out.2; omega))
              have HcT := Lib.hid ((Hc.out.fr Hfr.out fun _ _ q => q).typed)
              have HmT := Lib.hid ((Hm.out.fr Hfr.out fun _ _ q => q))
              have hk8 : (k + 1) * 8 ≤ 140737488355328 := by have := Hn4.out; omega
              have Hk8 := Lib.hid hk8
              clear hk8
              go_wp2_with (at_builtin; (first
                | (refine wpList_append1 _ rfl _ _ _ rfl (fun j => U j ∧ ∃ blk, wr.heap[j]? = some (.cells blk 24 (0, 0))) 24 _ 1 8 Try.underlying55 info_ptrA rfl (by decide) (.slice Ac k cc) k (pvs B os) [.pointer (some ⟨b, 0, none⟩)] rfl HcT.out rfl rfl rfl Hk8.out (by decide) ?_; intro v5 w5 hs50 hf5 hz50; have hm5 := (HmT.out.pass hf5 (by decide)).typed; obtain ⟨A5, c5, rfl⟩ := hs50.slice)
                | (refine wpList_append1 _ rfl _ _ _ rfl (fun j => U j ∧ ∃ blk, w5.heap[j]? = some (.cells blk 57 (0, 0))) 57 _ 1 8 Try.underlying56 info_ptrB rfl (by decide) (.slice Am k cm) k (pvs M os) [.pointer (some ⟨m, 0, none⟩)] rfl hm5 rfl rfl rfl Hk8.out (by decide) ?_; intro v6 w6 hs6 hf6 hz60; have hs5 := hs50.pass hf6 (by decide); obtain ⟨A6, c6, rfl⟩ := hs6.slice; clear hm5 hs50 hz50 hz60)))
              have hz5 := hf5.size
              have hU : Fr U wr w6 := (hf5.mono fun j _ q => q.1).trans0 (hf6.mono fun j _ q => q.1)
              have Ht6 := Lib.hid (Hadd.out.row hU)
              have Hc6 : Hid (Sl w6 (And' U wr w6) 24 1 (.slice A5 (k + 1) c5) (k + 1) (pvs (upd B k b) (os ++ [some k]))) := by
                have e : pvs (upd B k b) (os ++ [some k]) = pvs B os ++ [.pointer (some ⟨b, 0, none⟩)] := by
                  rw [← pvs_upd Ho.out B b]; simp [pa, upd_same]
                rw [e]; exact hs5.mono fun j hj q => by rcases q with q | q; exact .inl q.1; exact .inr ⟨q, hj⟩
              have Hm6 : Hid (Sl w6 (And' U wr w6) 57 1 (.slice A6 (k + 1) c6) (k + 1) (pvs (upd M k m) (os ++ [some k]))) := by
                have e : pvs (upd M k m) (os ++ [some k]) = pvs M os ++ [.pointer (some ⟨m, 0, none⟩)] := by
                  rw [← pvs_upd Ho.out M m]; simp [pa, upd_same]
                rw [e]; exact hs6.mono fun j hj q => by rcases q with q | q; exact .inl q.1; exact .inr ⟨by omega, hj⟩
              clear hs5 hs6 hf5 hf6 hU hz5 HcT HmT
              first
              | (go_roundw
                 case rel => exact ⟨k + 1, A5, A6, c5, c6, os ++ [some k], S', T', And' U wr w6, upd B k b, upd M k m, upd P k (some c), rfl, rfl, by go_num, by omega, Ht6, Ho6, Hc6, Hm6⟩
                 case measure => (simp [intOf] <;> omega))
              | (refine ⟨?_, ?measure2⟩
                 (repeat apply Exists.intro)
                 refine ⟨?rel2, rfl⟩
                 case rel2 => exact ⟨k + 1, A5, A6, c5, c6, os ++ [some k], S', T', And' U wr w6, upd B k b, upd M k m, upd P k (some c), rfl, rfl, by go_num, by omega, Ht6, Ho6, Hc6, Hm6⟩
                 case measure2 => (simp [intOf] <;> omega))
    · obtain rfl : k = n := by omega
      have Hcs := Lib.hid (Ho.out.cs ps)
      have Hcl := Lib.hid ((csOf_len os ps).trans HP.out)
      have Hcas := Lib.hid (cases_any wo B M (.slice A3 np c3) (.slice Ac k cc) (.slice Am k cm) ps np HP.out (by have := Hn4.out; omega) (R3.out.fr Ht.out.fr) os k Ho.out.len (by have := Hn4.out; omega) Hc.out.rd Hm.out.rd)
      generalize hcs : csOf os ps = cs at Hcs Hcl Hcas
      clear hcs
      go_wp2_with fail
      refine Hcas.out.mono ?_
      rintro e w2 ⟨Ax, Ay, cx, cy, rfl, hf2, hx2, hy2⟩
      obtain ⟨U2, hU2⟩ : ∃ U2, U2 = And' U wo w2 := ⟨_, rfl⟩
      have Ht2 : Hid (Tw w w2 S T U2 B M P) := Lib.hid (by rw [hU2]; exact Ht.out.row hf2.none)
      have Hc2 : Hid (Sl w2 U2 24 1 (.slice Ac k cc) k (pvs B os)) := Lib.hid (by rw [hU2]; exact (Hc.out.fr hf2 fun _ _ q => q).mono fun j _ q => .inl q)
      have Hm2 : Hid (Sl w2 U2 57 1 (.slice Am k cm) k (pvs M os)) := Lib.hid (by rw [hU2]; exact (Hm.out.fr hf2 fun _ _ q => q).mono fun j _ q => .inl q)
      have Hx2 : Hid (Sl w2 U2 29 3 (.slice Ax np cx) np (css B cs)) := Lib.hid (by rw [hU2]; exact hx2.mono fun j hj q => .inr ⟨q, hj⟩)
      have Hy2 : Hid (Sl w2 U2 113 3 (.slice Ay np cy) np (css M cs)) := Lib.hid (by rw [hU2]; exact hy2.mono fun j hj q => .inr ⟨q, hj⟩)
      clear hU2 hf2 hx2 hy2 Ht Hc Hm Hcas H0 H1 H2 R3
      obtain ⟨f, hf⟩ := canC_f P cs
      obtain ⟨mr, hmr⟩ : ∃ m, (rdy f np).length = m := ⟨_, rfl⟩
      have Hrd := Lib.hid (fun W (hW : Fr Nob w2 W) => choose_ready (Ht2.out.pool.fr0 hW) (.slice Ax np cx) cs np Hcl.out (Hx2.out.rd.fr hW) Hcs.out f hf (by have := Hn4.out; omega) mr hmr)
      have Hrd2 := Lib.hid (fun W (hW : Fr Nob w2 W) => tell_ready (Ht2.out.rp.fr0 hW) (.slice Ay np cy) cs np Hcl.out (Hy2.out.rd.fr hW) Hcs.out f hf (by have := Hn4.out; omega) mr hmr)
      have Hmr := Lib.hid hmr
      clear hf hmr
      go_wp2_with fail
      refine (Hrd.out w2 (Fr.refl _ _)).mono ?_
      rintro e w3 ⟨Ar, cr, rfl, hf3, hs3⟩
      have F3 := Lib.hid hf3; have S3 := Lib.hid hs3
      clear hf3 hs3
      go_wp2_with fail
      refine (Hrd2.out w3 F3.out).mono ?_
      rintro e w4 ⟨Aq, cq, rfl, hf4, hs4⟩
      have F4 := Lib.hid (F3.out.trans0 hf4)
      have S3' := Lib.hid (S3.out.fr hf4 fun _ _ q => q); have S4 := Lib.hid hs4
      clear hf4 hs4 S3
      go_wp2_with fail
      refine (alike_ints_n w4 _ _ _ mr Hmr.out S3'.out.rd S4.out.rd).mono ?_
      rintro e w5 ⟨rfl, hg5⟩
      have F5 := Lib.hid (F4.out.trans0 (Fr.ofDrew hg5))
      clear hg5 S3' S4 F3 F4 Hrd Hrd2 Hmr
      have Ht5 := Lib.hid (Ht2.out.fr0 F5.out)
      have Hc5 := Lib.hid (Hc2.out.fr F5.out fun _ _ q => q); have Hm5 := Lib.hid (Hm2.out.fr F5.out fun _ _ q => q)
      have Hx5 := Lib.hid (Hx2.out.fr F5.out fun _ _ q => q); have Hy5 := Lib.hid (Hy2.out.fr F5.out fun _ _ q => q)
      clear F5 Ht2 Hc2 Hm2 Hx2 Hy2
      obtain ⟨ri, rv, rok, rpn, rpk, rkd, lw, nw, er, P', hdo⟩ := do_both P cs np Hcl.out (by have := Hn4.out; omega) Hcs.out (Ho.out.few.mono (by omega)) Ht5.out.pool.qfew d dr t
      have Hdo := Lib.hid hdo
      clear hdo
      have HdoA := Lib.hid (Hdo.out.a w5 S B (.slice Ax np cx) U2 Ht5.out.pool (fun k q => (Ht5.out.s k q).2) Hx5.out Ht5.out.su (fun k q => (Ht5.out.u k q).2))
      have HdoB := Lib.hid (fun W (hr : RPool W T M P) (hz : w5.heap.size ≤ W.heap.size) (hy : Sl W U2 113 3 (.slice Ay np cy) np (css M cs)) => Hdo.out.b W T M (.slice Ay np cy) U2 hr (fun k q => by have := (Ht5.out.t k q).2; omega) hy Ht5.out.tu (fun k q => by have := (Ht5.out.u k q).2; omega))
      go_wp2_with fail
      refine HdoA.out.mono ?_
      rintro e w6 ⟨Aw, cw, rfl, hf6, hp6, hw6⟩
      have F6 := Lib.hid hf6; have P6 := Lib.hid hp6; have W6 := Lib.hid hw6
      have hz6 : w5.heap.size ≤ w6.heap.size := hf6.size
      have Hz6 := Lib.hid hz6
      have Hy6 : Hid (Sl w6 U2 113 3 (.slice Ay np cy) np (css M cs)) := Lib.hid (Hy5.out.fr hf6 fun k q r => Ht5.out.su k r q)
      have Hr6 : Hid (RPool w6 T M P) := Lib.hid (Ht5.out.rp.fr hf6 fun k q r => Ht5.out.st k r q)
      clear hf6 hp6 hw6 hz6 HdoA
      go_wp2_with fail
      obtain ⟨w7, hw7⟩ : ∃ W, W = w6.alloc (.cells #[.int .i64 ri, .int .i64 rv, .bool rok, .bool rpn, .bool rpk, .bool rkd] 31) := ⟨_, rfl⟩
      rw [← hw7]
      obtain ⟨qa, hqa⟩ : ∃ b, b = w6.heap.size := ⟨_, rfl⟩
      rw [← hqa]
      have hf7 : Fr Nob w6 w7 := by rw [hw7]; exact (Fr.refl Nob w6).alloc _
      have hb7 : w7.heap[qa]? = some (.cells #[.int .i64 ri, .int .i64 rv, .bool rok, .bool rpn, .bool rpk, .bool rkd] 31 (0, 0)) := by rw [hw7, hqa]; exact heap_alloc_new _ _
      have F7 := Lib.hid hf7; have B7 := Lib.hid hb7
      have Hqa : Hid (w6.heap.size = qa) := hqa.symm
      have hnT : Hid (¬ T qa) := Lib.hid fun q => by have := (Ht5.out.t _ q).2; have := Hz6.out; have := Hqa.out; omega
      clear hw7 hqa hf7 hb7
      have HdoB7 := Lib.hid (HdoB.out w7 (Hr6.out.fr0 F7.out) (Nat.le_trans Hz6.out F7.out.size) (Hy6.out.fr F7.out fun _ _ q => q))
      clear HdoB
      refine HdoB7.out.mono ?_
      rintro e w8 ⟨Av, cv, rfl, ht8, hv8⟩
      have T8 := Lib.hid ht8; have V8 := Lib.hid hv8
      have B8 := Lib.hid (ht8.1.blk hnT.out B7.out)
      have W8 := Lib.hid ((W6.out.fr F7.out fun _ _ q => q).fr ht8.1 fun k q r => by have := (Ht5.out.t k r).2; unfold From at q; omega)
      clear ht8 hv8 HdoB7 W6 B7 hnT
      have hba : (w8.alloc (.cells #[.int .i64 ri, .int .i64 rv, .bool rok, .bool rpn, .bool rpk, .bool rkd] 71)).heap[qa]? = some (.cells #[.int .i64 ri, .int .i64 rv, .bool rok, .bool rpn, .bool rpk, .bool rkd] 31 (0, 0)) := ((Fr.refl Nob w8).alloc _).blk id B8.out
      have ka0 := blk_cell hba 0 rfl
      have ka1 := blk_cell hba 1 rfl
      have ka2 := blk_cell hba 2 rfl
      have ka3 := blk_cell hba 3 rfl
      have ka4 := blk_cell hba 4 rfl
      have ka5 := blk_cell hba 5 rfl
      have q1 : (ri == ri) = true := by simp
      have q2 : (rv == rv) = true := by simp
      have q3 : (rok == rok) = true := by simp
      have q4 : (rpn == rpn) = true := by simp
      have q5 : (rpk == rpk) = true := by simp
      have q6 : (rkd == rkd) = true := by simp
      have q7 : (er == er) = true := by simp
      clear hba
      go_wp2_with fail
      obtain ⟨w9, hw9⟩ : ∃ W, W = (w8.alloc (.cells #[.int .i64 ri, .int .i64 rv, .bool rok, .bool rpn, .bool rpk, .bool rkd] 71)) := ⟨_, rfl⟩
      rw [← hw9]
      obtain ⟨qb, hqb⟩ : ∃ b, b = w8.heap.size := ⟨_, rfl⟩
      rw [← hqb]
      have hf9 : Fr Nob w8 w9 := by rw [hw9]; exact (Fr.refl Nob w8).alloc _
      clear hw9 hqb ka0 ka1 ka2 ka3 ka4 ka5
      refine (alike_wakes w9 _ _ lw nw Hdo.out.len (W8.out.fr hf9 fun _ _ q => q).rd (V8.out.fr hf9)).mono ?_
      rintro e w10 ⟨rfl, hg10⟩
      have hf10 : Fr Nob w8 w10 := hf9.trans0 (Fr.ofDrew hg10)
      obtain ⟨S2, T2, htw, hall⟩ := Ht5.out.step F6.out P6.out (fun k q => by rcases q with q | q; exact .inl q; exact .inr q.1) F7.out T8.out
      have Ht10 := Lib.hid (htw.fr0 hf10)
      have hkp : Fr (fun k => S k ∨ T k) w5 w10 := hall.trans0 hf10.none
      have Hc10 := Lib.hid (Ht5.out.keep hkp Hc5.out); have Hm10 := Lib.hid (Ht5.out.keep hkp Hm5.out)
      have Hx10 := Lib.hid (Ht5.out.keep hkp Hx5.out); have Hy10 := Lib.hid (Ht5.out.keep hkp Hy5.out)
      have Hinv : Hid (Few P' 950 ∧ (∀ x ∈ cs, CsOk P' x) ∧ (∀ o ∈ os, ∀ j, o = some j → ∃ c, P' j = some c)) := Lib.hid ⟨Hdo.out.few, fun x hx => Hdo.out.ok' x (Hcs.out x hx), fun o ho j hj => by
        obtain ⟨_, c, hc⟩ := Ho.out.ok o ho j hj
        exact Hdo.out.ok' (some j, false, 0) (fun i hi => by cases hi; exact ⟨c, hc⟩) j rfl⟩
      have Hol := Lib.hid Ho.out.len
      clear hf9 hg10 hf10 htw hall hkp Hc5 Hm5 Hx5 Hy5 Ht5 Hdo Hcs Ho F6 P6 F7 T8 W8 V8 Hz6 Hqa Hy6 Hr6
      go_wp2_with fail
      go_loopw [29] (fun i wr => ∃ (r : Nat) (S T : Nat → Prop) (Q : Nat → Option ChS), i = .int .i64 r ∧ r ≤ 2 ∧ Hid (Tw w wr S T U2 B M Q) ∧ Hid (Sl wr U2 24 1 (.slice Ac k cc) k (pvs B os)) ∧ Hid (Sl wr U2 57 1 (.slice Am k cm) k (pvs M os)) ∧ Hid (Sl wr U2 29 3 (.slice Ax np cx) np (css B cs)) ∧ Hid (Sl wr U2 113 3 (.slice Ay np cy) np (css M cs)) ∧ Hid (Few Q 950 ∧ (∀ x ∈ cs, CsOk Q x) ∧ (∀ o ∈ os, ∀ j, o = some j → ∃ c, Q j = some c))) (fun i _ => 2 - (intOf i).toNat)
      case atStart => exact ⟨0, S2, T2, P', rfl, by omega, Ht10, Hc10, Hm10, Hx10, Hy10, Hinv⟩
      case round =>
        clear Ht10 Hc10 Hm10 Hx10 Hy10 Hinv
        obtain ⟨wo2, rfl⟩ : ∃ W : World, W = wr := ⟨_, rfl⟩
        obtain ⟨r, S3, T3, Q, rfl, hr2, Ht, Hc, Hm, Hx, Hy, Hinv⟩ := hrel
        by_cases hr : r < 2
        · have hri : (r : Int) < 2 := by omega
          go_wp2_with fail
          go_loopw [30] (fun i wr => ∃ j : Nat, i = .int .i64 j ∧ j ≤ k ∧ Hid (Fr Nob wo2 wr)) (fun i _ => k - (intOf i).toNat)
          case atStart => exact ⟨0, rfl, Nat.zero_le _, Lib.hid (Fr.refl _ _)⟩
          case round =>
            obtain ⟨j, rfl, hj, Hfr⟩ := hrel
            by_cases hjk : j < k
            · have hji : (j : Int) < k := by omega
              obtain ⟨A', c', hv, hcc1, hcc2, hget⟩ := pv_get Hc.out.rd Hol.out
              cases hv
              obtain ⟨ga, oa, rfl, ca⟩ := hget j hjk
              obtain ⟨A', c', hv, hcm1, hcm2, hget2⟩ := pv_get Hm.out.rd Hol.out
              cases hv
              obtain ⟨gb, ob, rfl, cb⟩ := hget2 j hjk
              unfold maxLen at hcc2 hcm2
              have hoo : ∀ i, os.getD j none = some i → ∃ c, Q i = some c := fun i hi => by
                have hjl : j < os.length := by rw [Hol.out]; exact hjk
                have hm : os.getD j none ∈ os := by
                  rw [List.getD, List.getElem?_eq_getElem hjl]; exact List.getElem_mem hjl
                exact Hinv.out.2.2 _ hm i hi
              have Hsh := Lib.hid (fun W (hW : Fr Nob wo2 W) => (Ht.out.fr0 hW).shows (os.getD j none) hoo)
              generalize pa B (os.getD j none) = ap at *
              generalize pa M (os.getD j none) = aq at *
              have hkey : ∀ W, Fr Nob wo2 W → W.cell? ⟨ga, oa + j, none⟩ = some (.pointer ap) ∧ W.cell? ⟨gb, ob + j, none⟩ = some (.pointer aq) := fun W hW => ⟨hW.cell id ca, hW.cell id cb⟩
              have Key := Lib.hid hkey
              clear hkey hoo hget hget2 ca cb
              go_wp2_with fail
              refine wp_region_held_drew (S := fun W => W.cell? ⟨ga, oa + j, none⟩ = some (.pointer ap) ∧ W.cell? ⟨gb, ob + j, none⟩ = some (.pointer aq)) (by kernel_rfl) (by exact Key.out _ Hfr.out.drew) (fun hHeld => ?_)
              refine wpAnyH_take (i := 0) (v := ?_) rfl (by kernel_rfl) (by kernel_rfl) (by kernel_rfl) (fun _ _ _ h => h) (Or.inl ⟨by rfl, ?_⟩) (by assumption) ?_
              rotate_left
              · intro w hSw; (try dsimp only at hSw); go_simp; try with_reducible rfl
              try simp only [List.getElem_toArray, List.getElem_cons_zero, List.getElem_cons_succ, Act.put, List.setIfInBounds_toArray, List.set_cons_zero, List.set_cons_succ]
              refine wpAnyH_take (i := 1) (v := ?_) rfl (by kernel_rfl) (by kernel_rfl) (by kernel_rfl) (fun _ _ _ h => h) (Or.inl ⟨by rfl, ?_⟩) (by assumption) ?_
              rotate_left
              · intro w hSw; (try dsimp only at hSw); go_simp; try with_reducible rfl
              try simp only [List.getElem_toArray, List.getElem_cons_zero, List.getElem_cons_succ, Act.put, List.setIfInBounds_toArray, List.set_cons_zero, List.set_cons_succ]
              refine wpAnyH_take (i := 2) (v := ?_) rfl (by kernel_rfl) (by kernel_rfl) (by kernel_rfl) (fun _ _ _ h => h) (Or.inl ⟨by rfl, ?_⟩) (by assumption) ?_
              rotate_left
              · intro w hSw; (try dsimp only at hSw); go_simp; try with_reducible rfl
              try simp only [List.getElem_toArray, List.getElem_cons_zero, List.getElem_cons_succ, Act.put, List.setIfInBounds_toArray, List.set_cons_zero, List.set_cons_succ]
              refine wpAnyH_take (i := 3) (v := ?_) rfl (by kernel_rfl) (by kernel_rfl) (by kernel_rfl) (fun _ _ _ h => h) (Or.inl ⟨by rfl, ?_⟩) (by assumption) ?_
              rotate_left
              · intro w hSw; (try dsimp only at hSw); go_simp; try with_reducible rfl
              try simp only [List.getElem_toArray, List.getElem_cons_zero, List.getElem_cons_succ, Act.put, List.setIfInBounds_toArray, List.set_cons_zero, List.set_cons_succ]
              refine wpAnyH_take (i := 4) (v := ?_) rfl (by kernel_rfl) (by kernel_rfl) (by kernel_rfl) (fun _ _ _ h => h) (Or.inl ⟨by rfl, ?_⟩) (by assumption) ?_
              rotate_left
              · intro w hSw; (try dsimp only at hSw); go_simp; try with_reducible rfl
              try simp only [List.getElem_toArray, List.getElem_cons_zero, List.getElem_cons_succ, Act.put, List.setIfInBounds_toArray, List.set_cons_zero, List.set_cons_succ]
              refine wpAnyH_take (i := 5) (v := ?_) rfl (by kernel_rfl) (by kernel_rfl) (by kernel_rfl) (fun _ _ _ h => h) (Or.inl ⟨by rfl, ?_⟩) (by assumption) ?_
              rotate_left
              · intro w hSw; (try dsimp only at hSw); go_simp; try with_reducible rfl
              try simp only [List.getElem_toArray, List.getElem_cons_zero, List.getElem_cons_succ, Act.put, List.setIfInBounds_toArray, List.set_cons_zero, List.set_cons_succ]
              refine wpAnyH_take (i := 6) (v := ?_) rfl (by kernel_rfl) (by kernel_rfl) (by kernel_rfl) (fun _ _ _ h => h) (Or.inl ⟨by rfl, ?_⟩) (by assumption) ?_
              rotate_left
              · intro w hSw; (try dsimp only at hSw); go_simp; try with_reducible rfl
              try simp only [List.getElem_toArray, List.getElem_cons_zero, List.getElem_cons_succ, Act.put, List.setIfInBounds_toArray, List.set_cons_zero, List.set_cons_succ]
              refine wpAnyH_take (i := 7) (v := ?_) rfl (by kernel_rfl) (by kernel_rfl) (by kernel_rfl) (fun _ _ _ h => h) (Or.inl ⟨by rfl, ?_⟩) (by assumption) ?_
              rotate_left
              · intro w hSw; (try dsimp only at hSw); go_simp; try with_reducible rfl
              try simp only [List.getElem_toArray, List.getElem_cons_zero, List.getElem_cons_succ, Act.put, List.setIfInBounds_toArray, List.set_cons_zero, List.set_cons_succ]
              refine wpAnyH_ready (rs := [8]) (by kernel_rfl) (by simp) ?_
              refine AllReadyH.cons rfl (fun K hK => ?_) AllReadyH.nil
              simp only [List.getElem_toArray, List.getElem_cons_zero, List.getElem_cons_succ]
              go_simp
              refine (Hsh.out wr.drew Hfr.out.drew).mono ?_
              rintro e w11 ⟨rfl, hf11⟩
              have F11 := Lib.hid (Hfr.out.drew.trans0 hf11)
              refine hK.out _ _ (Key.out _ F11.out) (fun hHeld2 => ?_)
              clear hK hf11
              refine wpAnyH_take (i := 9) (v := ?_) rfl (by kernel_rfl) (by kernel_rfl) (by kernel_rfl) (fun _ _ _ h => h) (Or.inl ⟨by rfl, ?_⟩) (by assumption) ?_
              rotate_left
              · intro w hSw; (try dsimp only at hSw); go_simp; try with_reducible rfl
              try simp only [List.getElem_toArray, List.getElem_cons_zero, List.getElem_cons_succ, Act.put, List.setIfInBounds_toArray, List.set_cons_zero, List.set_cons_succ]
              refine wpAnyH_done (by kernel_rfl) ?_ _
              try simp only [List.getElem_toArray, List.getElem_cons_zero, List.getElem_cons_succ, Act.put, List.setIfInBounds_toArray, List.set_cons_zero, List.set_cons_succ]
              clear hHeld hHeld2 Key Hsh
              go_wp2_with fail
              go_roundw
              case rel => exact ⟨j + 1, by go_num, by omega, F11⟩
              case measure => simp [intOf]; omega
            · obtain rfl : k = j := by omega
              have hlt' : ¬ (k : Int) < k := by omega
              have Ht' := Lib.hid (Ht.out.fr0 Hfr.out)
              have Hc' := Lib.hid (Hc.out.fr Hfr.out fun _ _ q => q); have Hm' := Lib.hid (Hm.out.fr Hfr.out fun _ _ q => q)
              have Hx' := Lib.hid (Hx.out.fr Hfr.out fun _ _ q => q); have Hy' := Lib.hid (Hy.out.fr Hfr.out fun _ _ q => q)
              have h950 : Few Q 1000 := Hinv.out.1.mono (by omega)
              have hnp : np ≤ 1000 := by have := Hn4.out; omega
              obtain ⟨lv, hlv⟩ : ∃ v, leaveN t cs Q = v := ⟨_, rfl⟩
              have HL1 := Lib.hid (choose_leave Ht'.out.pool (.slice Ax np cx) cs np Hcl.out U2 Hx'.out Ht'.out.su Hinv.out.2.1 hnp h950 t lv hlv)
              have HL2 := Lib.hid (fun W (hp : RPool W T3 M Q) (hy : Sl W U2 113 3 (.slice Ay np cy) np (css M cs)) (hu : ∀ k, U2 k → k < W.heap.size) => tell_leave hp (.slice Ay np cy) cs np Hcl.out U2 hy Ht'.out.tu hu Hinv.out.2.1 hnp h950 Ht'.out.pool.qfew t lv hlv)
              clear h950 hnp hlv Ht Hc Hm Hx Hy
              go_wp2_with fail
              refine HL1.out.mono ?_
              rintro e w11 ⟨rfl, hf11, hp11⟩
              have HL3 := Lib.hid (HL2.out w11 (Ht'.out.rp.fr hf11 fun k q r => Ht'.out.st k r q) (Hy'.out.fr hf11 fun k q r => Ht'.out.su k r q) (fun k q => by have := (Ht'.out.u k q).2; have := hf11.size; omega))
              have F11 := Lib.hid hf11; have P11 := Lib.hid hp11
              clear hf11 hp11 HL1 HL2
              go_wp2_with fail
              refine HL3.out.mono ?_
              rintro e w12 ⟨rfl, ht12⟩
              obtain ⟨S4, T4, htw, hall⟩ := Ht'.out.step F11.out P11.out (fun k q => .inl q) (Fr.refl _ _) ht12
              have Ht4 := Lib.hid htw
              have Hc4 := Lib.hid (Ht'.out.keep hall Hc'.out); have Hm4 := Lib.hid (Ht'.out.keep hall Hm'.out)
              have Hx4 := Lib.hid (Ht'.out.keep hall Hx'.out); have Hy4 := Lib.hid (Ht'.out.keep hall Hy'.out)
              have Hinv4 : Hid (Few (leaveF t cs Q) 950 ∧ (∀ x ∈ cs, CsOk (leaveF t cs Q) x) ∧ (∀ o ∈ os, ∀ j, o = some j → ∃ c, (leaveF t cs Q) j = some c)) := Lib.hid ⟨Few.leave t 950 cs Q Hinv.out.1, fun x hx => (Hinv.out.2.1 x hx).leave t cs Q, fun o ho j hj => by
                obtain ⟨c, hc⟩ := Hinv.out.2.2 o ho j hj
                exact CsOk.leave (x := (some j, false, 0)) t cs Q (fun i hi => by cases hi; exact ⟨c, hc⟩) j rfl⟩
              have q8 : ((lv : Int) == (lv : Int)) = true := by simp
              clear ht12 htw hall HL3 F11 P11 Ht' Hc' Hm' Hx' Hy' Hinv
              go_wp2_with fail
              go_roundw
              case rel => exact ⟨r + 1, S4, T4, leaveF t cs Q, by go_num, by omega, Ht4, Hc4, Hm4, Hx4, Hy4, Hinv4⟩
              case measure => simp [intOf]; omega
        · obtain rfl : r = 2 := by omega
          have Hf12 := Lib.hid Ht.out.fr
          clear Ht Hc Hm Hx Hy Hinv
          go_wp2_with fail
          refine (awake10 wo2).mono ?_
          rintro e w13 ⟨rfl, hf13⟩
          have F13 := Lib.hid (Hf12.out.trans0 hf13)
          clear hf13
          go_wp2_with fail
          go_ret
          exact ⟨rfl, F13.out⟩
theorem chooseTells_walk (v0 : Value) (x0 : List Int) (v1 : Value) (x1 : List Int) (v2 : Value) (x2 : ActsL) (v3 : Value) (x3 : List Pk) (a4 : Bool) (a5 a6 : Int) (w : World) (g0 : IsInts w v0 x0) (g1 : IsInts w v1 x1) (g2 : IsActs10 w v2 x2) (g3 : IsPicks w v3 x3) (w5 : (Lit.int .i64 a5).wf = true) (w6 : (Lit.int .i64 a6).wf = true) :
    Calls Try.prog 8 #[v0, v1, v2, v3, .bool a4, .int .i64 a5, .int .i64 a6] w fun e w' => e = .returned (.bool true) ∧ Below w.heap.size w w' := by
  have key : Calls Try.prog 8 #[v0, v1, v2, v3, .bool a4, .int .i64 a5, .int .i64 a6] w fun e w' => e = .returned (.bool true) ∧ Fr Nob w w' := by
    have sl := fun {sz : Nat} {v : Value} {n : Nat} {cs : List Value} (h : Rd w sz v n cs) => (show ∃ A c, v = .slice A n c from by obtain ⟨_, _, A, c, h, _⟩ := h; exact ⟨A, c, h⟩)
    by_cases b0 : 4 < x0.length
    · obtain ⟨A0, c0, rfl⟩ := sl g0.1; obtain ⟨A1, c1, rfl⟩ := sl g1.1; obtain ⟨A2, c2, rfl⟩ := sl g2.1; obtain ⟨A3, c3, rfl⟩ := sl g3.1
      exact tells_bad0 w A0 A1 A2 A3 _ _ _ _ c0 c1 c2 c3 a4 a5 a6 b0
    by_cases b1 : x1.length < x0.length
    · obtain ⟨A0, c0, rfl⟩ := sl g0.1; obtain ⟨A1, c1, rfl⟩ := sl g1.1; obtain ⟨A2, c2, rfl⟩ := sl g2.1; obtain ⟨A3, c3, rfl⟩ := sl g3.1
      exact tells_bad1 w A0 A1 A2 A3 _ _ _ _ c0 c1 c2 c3 a4 a5 a6 b0 b1
    by_cases b2 : x2.length < x0.length
    · obtain ⟨A0, c0, rfl⟩ := sl g0.1; obtain ⟨A1, c1, rfl⟩ := sl g1.1; obtain ⟨A2, c2, rfl⟩ := sl g2.1; obtain ⟨A3, c3, rfl⟩ := sl g3.1
      exact tells_bad2 w A0 A1 A2 A3 _ _ _ _ c0 c1 c2 c3 a4 a5 a6 b0 b1 b2
    by_cases b3 : 8 < x1.length
    · obtain ⟨A0, c0, rfl⟩ := sl g0.1; obtain ⟨A1, c1, rfl⟩ := sl g1.1; obtain ⟨A2, c2, rfl⟩ := sl g2.1; obtain ⟨A3, c3, rfl⟩ := sl g3.1
      exact tells_bad3 w A0 A1 A2 A3 _ _ _ _ c0 c1 c2 c3 a4 a5 a6 b0 b1 b2 b3
    by_cases b4 : 8 < x2.length
    · obtain ⟨A0, c0, rfl⟩ := sl g0.1; obtain ⟨A1, c1, rfl⟩ := sl g1.1; obtain ⟨A2, c2, rfl⟩ := sl g2.1; obtain ⟨A3, c3, rfl⟩ := sl g3.1
      exact tells_bad4 w A0 A1 A2 A3 _ _ _ _ c0 c1 c2 c3 a4 a5 a6 b0 b1 b2 b3 b4
    by_cases b5 : 20 < x3.length
    · obtain ⟨A0, c0, rfl⟩ := sl g0.1; obtain ⟨A1, c1, rfl⟩ := sl g1.1; obtain ⟨A2, c2, rfl⟩ := sl g2.1; obtain ⟨A3, c3, rfl⟩ := sl g3.1
      exact tells_bad5 w A0 A1 A2 A3 _ _ _ _ c0 c1 c2 c3 a4 a5 a6 b0 b1 b2 b3 b4 b5
    exact tells_main w v0 v1 v2 v3 x0 x1 x2 x3 _ _ _ _ rfl rfl rfl rfl b0 b1 b2 b3 b4 b5 g0.1 g1.1 g2.1 g2.2 g3.1 a4 a5 a6
  exact key.mono fun e w' ⟨h1, h2⟩ => ⟨h1, h2.below (Nat.le_refl _) fun _ q => q.elim⟩


/-! The row: out of the walk above. -/
namespace chooseTells
open Go.ChangeShapes Go.WideShapes Go.ChangeAt Go.RowKit
open Go.ChangeMaps (open_string shut_string)
theorem own : ownKnob Try.prog.godebug = none := by kernel_rfl
theorem laidOut : laidOutB Try.prog = true := by kernel_rfl
set_option maxRecDepth 100000 in
theorem lifted (os : Os) (started : os.Started) (H : Type) (enc : TypeId × Value → H) :
    ReturnsInHanded {} Try.checked os 8 .any (Rows.chooseTellsSpec.pre6 enc Try.prog Try.f8 Rows.chooseTellsRow.domain false) (Rows.chooseTellsSpec.post enc Try.prog Try.f8 false true false false) := by
  refine returnsInHanded_of_change (C := Try.checked) own started (by kernel_rfl) Try.func8
    (ChangeSpec.witness6 (enc := enc) (C := Try.checked) false ⟨#[], #[.slice none 0 0, .slice none 0 0, .slice none 0 0, .slice none 0 0, .bool false, .int .i64 0, .int .i64 0], []⟩ 8 (by kernel_rfl) (by kernel_rfl) (by kernel_rfl) (by kernel_rfl)) ?_
  intro W base args ds gs before hval0 hW hcnd _
  have hval : ∀ (j : Nat) t v, Try.f8.params[j]? = some t → args[j]? = some v → Value.okWide Try.prog W .any base t v := hval0
  have hW' := hW
  obtain ⟨p, q, hA0, hV, rfl, hfz, hnd⟩ := hW
  have hA : DataW.TrodAll enc Try.prog W 0 (fun _ => true) true Try.f8.params.toList args.toList ds p := hA0
  rw [Try.params8] at hA hval
  obtain ⟨v0, vs0, d0, ds0, p0, q0, hargs, rfl, rfl, h0, r0⟩ := trodAll_cons hA
  obtain ⟨v1, vs1, d1, ds1, p1, q1, rfl, rfl, rfl, h1, r1⟩ := trodAll_cons r0
  obtain ⟨v2, vs2, d2, ds2, p2, q2, rfl, rfl, rfl, h2, r2⟩ := trodAll_cons r1
  obtain ⟨v3, vs3, d3, ds3, p3, q3, rfl, rfl, rfl, h3, r3⟩ := trodAll_cons r2
  obtain ⟨v4, vs4, d4, ds4, p4, q4, rfl, rfl, rfl, h4, r4⟩ := trodAll_cons r3
  obtain ⟨v5, vs5, d5, ds5, p5, q5, rfl, rfl, rfl, h5, r5⟩ := trodAll_cons r4
  obtain ⟨v6, vs6, d6, ds6, p6, q6, rfl, rfl, rfl, h6, r6⟩ := trodAll_cons r5
  obtain ⟨rfl, rfl, rfl⟩ := trodAll_nil r6
  obtain rfl : args = #[v0, v1, v2, v3, v4, v5, v6] := by cases args; simp_all
  obtain ⟨rfl, rfl⟩ := trodVars_none hV
  have k0 := h0
  have lt0 : ∀ x ∈ p0, x.block < W.heap.size := by obtain ⟨m, hm⟩ := k0; exact DataW.trod_lt m _ _ _ hm
  obtain ⟨x0, g0⟩ := opn_ints (hval 0 42 v0 rfl rfl) h0
  have k1 := h1
  have lt1 : ∀ x ∈ p1, x.block < W.heap.size := by obtain ⟨m, hm⟩ := k1; exact DataW.trod_lt m _ _ _ hm
  obtain ⟨x1, g1⟩ := opn_ints (hval 1 42 v1 rfl rfl) h1
  have k2 := h2
  have lt2 : ∀ x ∈ p2, x.block < W.heap.size := by obtain ⟨m, hm⟩ := k2; exact DataW.trod_lt m _ _ _ hm
  obtain ⟨x2, g2⟩ := opn_acts10 (hval 2 53 v2 rfl rfl) h2
  have k3 := h3
  have lt3 : ∀ x ∈ p3, x.block < W.heap.size := by obtain ⟨m, hm⟩ := k3; exact DataW.trod_lt m _ _ _ hm
  obtain ⟨x3, g3⟩ := opn_picks (hval 3 54 v3 rfl rfl) h3
  obtain ⟨a4, rfl, rfl, rfl⟩ := open_bool Try.underlying4 (hval 4 4 v4 rfl rfl) h4
  obtain ⟨a5, rfl, rfl, rfl, w5⟩ := open_int Try.underlying3 (hval 5 3 v5 rfl rfl) h5
  obtain ⟨a6, rfl, rfl, rfl, w6⟩ := open_int Try.underlying3 (hval 6 3 v6 rfl rfl) h6
  clear hA0 hval0
  refine (chooseTells_walk v0 x0 v1 x1 v2 x2 v3 x3 a4 a5 a6 W g0 g1 g2 g3 w5 w6).mono fun e W' ⟨he, bel⟩ => ?_
  subst he
  exact ⟨_, rfl, _, _, _, [], _, [], hW', trodAll_mk1 (shut_bool Try.underlying4 _), (trodAll_cons_mk (Below.trod laidOut (by kernel_rfl) (of_decide_eq_true (by kernel_rfl)) k0 bel lt0) (trodAll_cons_mk (Below.trod laidOut (by kernel_rfl) (of_decide_eq_true (by kernel_rfl)) k1 bel lt1) (trodAll_cons_mk (Below.trod laidOut (by kernel_rfl) (of_decide_eq_true (by kernel_rfl)) k2 bel lt2) (trodAll_cons_mk (Below.trod laidOut (by kernel_rfl) (of_decide_eq_true (by kernel_rfl)) k3 bel lt3) (trodAll_cons_mk (shut_bool Try.underlying4 _) (trodAll_cons_mk (shut_int Try.underlying3 w5) (trodAll_cons_mk (shut_int Try.underlying3 w6) trodAll_mk0))))))), rfl, bel.frame _, fun h => by cases h⟩
theorem over : Rows.chooseTellsRow.holds Try.pinned (OpenSpec.ofChange Rows.chooseTellsSpec) :=
  OpenClaim.holds_of_wide 8 Try.f8 rfl rfl rfl rfl rfl rfl rfl ⟨rfl, rfl, rfl, rfl, rfl⟩ rfl rfl rfl rfl rfl (by kernel_rfl) Try.func8 (by kernel_rfl)
    (of_decide_eq_true (by kernel_rfl)) (by unfold Func.isWrapper; first | (rw [if_pos (by decide +kernel)]; kernel_rfl) | (rw [if_neg (by decide +kernel)]; exact ⟨rfl, rfl⟩))
    (fun os started H enc _ => lifted os started H enc)
end chooseTells
/-- THE STATEMENT. -/
theorem chooseTells_holds : Rows.ChooseTellsSaid := chooseTells.over
#print axioms chooseTells_holds
end Go.Proofs.Ytdemeghhjnehbaa
