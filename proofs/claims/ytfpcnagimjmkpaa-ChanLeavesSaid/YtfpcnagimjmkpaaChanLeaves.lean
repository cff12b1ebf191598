/- Who goes is woken by nothing any more; who stays is woken in the same order as without the one that went, for all that the statement draws. -/
import Derived.Test.YtfpcnagimjmkpaaChanPl
import Derived.Test.YtfpcnagimjmkpaaRound
set_option linter.unusedVariables false
set_option linter.unusedSimpArgs false
namespace Go.Proofs.Ytfpcnagimjmkpaa
open Go.RowKit
set_option maxRecDepth 100000
abbrev lvW (k : Nat) : Wt := ((k : Int), 0, (70 : Int) + (k : Int))
def lvC (s : Bool) (l : List Wt) : ChS := if s then ⟨0, [], [], l, false, false, false⟩ else ⟨0, [], l, [], false, false, false⟩
def lvI (n k i : Nat) : List Nat := ((List.range n).drop i).filter (fun j : Nat => !((j : Int) == (k : Int)))
def lvR (n k i : Nat) : List Wt := (lvI n k i).map lvW
theorem lv_waitR (s : Bool) (i : Nat) : (lvC s ((List.range i).map lvW)).waitR (lvW i) s = 0 := by cases s <;> simp [ChS.waitR, ChS.mute, ChS.free, ChS.queue, lvC]
theorem lv_waitS (s : Bool) (i : Nat) : (lvC s ((List.range i).map lvW)).waitS (lvW i) s = lvC s ((List.range (i + 1)).map lvW) := by
  unfold ChS.waitS; rw [lv_waitR, if_pos rfl]; cases s <;> simp [lvC, List.range_succ]
theorem lv_not (n k : Nat) : notT ((List.range n).map lvW) (k : Int) = lvR n k 0 := by
  unfold notT lvR lvI
  rw [List.filter_map, List.drop_zero]; rfl
theorem lv_not2 (n k : Nat) : notT (lvR n k 0) (k : Int) = lvR n k 0 := by
  rw [← lv_not]; unfold notT; rw [List.filter_filter]; simp
theorem lv_cnt (k : Nat) : ∀ n, (k < n → (lvI n k 0).length + 1 = n) ∧ (n ≤ k → (lvI n k 0).length = n)
  | 0 => ⟨fun h => by omega, fun _ => rfl⟩
  | n + 1 => by
    obtain ⟨h1, h2⟩ := lv_cnt k n
    have e : lvI (n + 1) k 0 = lvI n k 0 ++ (if n = k then [] else [n]) := by
      unfold lvI
      rw [List.drop_zero, List.drop_zero, List.range_succ, List.filter_append]
      by_cases h : n = k
      · subst h; simp
      · have : ¬ (n : Int) = (k : Int) := by omega
        simp [h, this]
    rw [e]
    refine ⟨fun h => ?_, fun h => ?_⟩
    · by_cases hk : n = k
      · subst hk; have := h2 (Nat.le_refl _); simp; omega
      · rw [if_neg hk]; have := h1 (by omega); simp; omega
    · rw [if_neg (by omega)]; have := h2 (by omega); simp; omega
theorem lv_remR (s : Bool) (n k : Nat) (h : k < n) : (lvC s ((List.range n).map lvW)).removeR (k : Int) = 1 := by
  have := (lv_cnt k n).1 h
  have hl : (lvR n k 0).length = (lvI n k 0).length := by simp [lvR]
  unfold ChS.removeR
  cases s
  · rw [show (lvC false ((List.range n).map lvW)).rv = (List.range n).map lvW from rfl, show (lvC false ((List.range n).map lvW)).sd = [] from rfl, lv_not, hl]; simp [notT]; omega
  · rw [show (lvC true ((List.range n).map lvW)).sd = (List.range n).map lvW from rfl, show (lvC true ((List.range n).map lvW)).rv = [] from rfl, lv_not, hl]; simp [notT]; omega
theorem lv_remS (s : Bool) (n k : Nat) : (lvC s ((List.range n).map lvW)).removeS (k : Int) = lvC s (lvR n k 0) := by
  rw [← lv_not]; cases s <;> simp [ChS.removeS, lvC, notT]
theorem lv_remR2 (s : Bool) (n k : Nat) : (lvC s (lvR n k 0)).removeR (k : Int) = 0 := by
  unfold ChS.removeR
  cases s
  · rw [show (lvC false (lvR n k 0)).rv = lvR n k 0 from rfl, show (lvC false (lvR n k 0)).sd = [] from rfl, lv_not2]; simp [notT]
  · rw [show (lvC true (lvR n k 0)).sd = lvR n k 0 from rfl, show (lvC true (lvR n k 0)).rv = [] from rfl, lv_not2]; simp [notT]
theorem lv_remS2 (s : Bool) (n k : Nat) : (lvC s (lvR n k 0)).removeS (k : Int) = lvC s (lvR n k 0) := by
  have h := lv_not2 n k
  cases s
  · show ({ lvC false (lvR n k 0) with rv := notT (lvR n k 0) (k : Int), sd := notT [] (k : Int) } : ChS) = _
    rw [h]; rfl
  · show ({ lvC true (lvR n k 0) with rv := notT [] (k : Int), sd := notT (lvR n k 0) (k : Int) } : ChS) = _
    rw [h]; rfl
theorem lv_drop (n i : Nat) (h : i < n) : (List.range n).drop i = i :: (List.range n).drop (i + 1) := by
  rw [List.drop_eq_getElem_cons (by simpa using h)]; simp
theorem lv_skip (n k : Nat) (h : k < n) : lvR n k k = lvR n k (k + 1) := by
  unfold lvR lvI; rw [lv_drop n k h]; simp
theorem lv_head (n k i : Nat) (h : i < n) (hk : i ≠ k) : lvR n k i = lvW i :: lvR n k (i + 1) := by
  have : ¬ (i : Int) = (k : Int) := by omega
  unfold lvR lvI; rw [lv_drop n i h]; simp [this]
theorem lv_end (n k : Nat) : lvR n k n = [] := by unfold lvR lvI; rw [List.drop_of_length_le (by simp)]; rfl
theorem lv_recvR (n k i : Nat) (h : i < n) (hk : i ≠ k) : (lvC true (lvR n k i)).recvR = (70 + (i : Int), true, true, [((i : Int), 0, 0, true, false)]) := by rw [lv_head n k i h hk]; rfl
theorem lv_recvS (n k i : Nat) (h : i < n) (hk : i ≠ k) : (lvC true (lvR n k i)).recvS = lvC true (lvR n k (i + 1)) := by rw [lv_head n k i h hk]; rfl
theorem lv_sendR (n k i : Nat) (h : i < n) (hk : i ≠ k) : (lvC false (lvR n k i)).sendR 9 = (true, [((i : Int), 0, 9, true, false)], 0) := by rw [lv_head n k i h hk]; rfl
theorem lv_sendS (n k i : Nat) (h : i < n) (hk : i ≠ k) : (lvC false (lvR n k i)).sendS 9 = lvC false (lvR n k (i + 1)) := by rw [lv_head n k i h hk]; rfl
theorem lv_few (s : Bool) (i : Nat) (h : i ≤ 15) : (lvC s ((List.range i).map lvW)).rv.length < 100000 ∧ (lvC s ((List.range i).map lvW)).sd.length < 100000 := by cases s <;> simp [lvC] <;> omega
set_option maxHeartbeats 4000000 in
theorem leaves_true (w : World) (n : Nat) (out : Int) (h1 : 1 ≤ n) (h2 : n ≤ 15) :
    Calls Try.prog 9 #[.int .i64 n, .int .i64 out, .bool true] w fun e w' => e = .returned (.bool true) ∧ Fr Nob w w' := by
  have Haw := Lib.hid (fun W => awake9 W)
  have Hnew := Lib.hid (fun W => chan_new W 0 (by omega))
  have d3 : decide ((n : Int) < 1) = false := decide_eq_false (by omega)
  have d3' : decide (n < 1) = false := decide_eq_false (by omega)
  have d4 : decide ((15 : Int) < n) = false := decide_eq_false (by omega)
  have d4' : decide (15 < n) = false := decide_eq_false (by omega)
  go_enter Try.func9, Try.ntmps9
  go_wp2_with fail
  refine (Hnew.out _).mono ?_
  intro e w1 hnew
  obtain ⟨b, rfl, hone⟩ := One.ofNew hnew
  have Hone : Hid (One w w1 b (lvC true ((List.range 0).map lvW))) := Lib.hid hone
  clear hnew hone
  go_wp2_with fail
  go_loopw [9] (fun vi wr => ∃ i : Nat, vi = .int .i64 i ∧ i ≤ n ∧ Hid (One w wr b (lvC true ((List.range i).map lvW)))) (fun vi _ => n - (intOf vi).toNat)
  case atStart => exact ⟨0, rfl, Nat.zero_le _, Hone⟩
  case round =>
    obtain ⟨i, rfl, hi, H1⟩ := hrel
    by_cases hlt : i < n
    · have l1 : decide ((i : Int) < n) = true := decide_eq_true (by omega)
      have l2 : decide (i < n) = true := decide_eq_true hlt
      have hc := H1.out.wait (lvW i) true 0 _ (lv_waitR true i) (lv_waitS true i) (lv_few true i (by omega))
      have Hc := Lib.hid hc
      clear hc H1 Hone
      go_wp2_with fail
      refine Hc.out.mono ?_
      rintro e w2 ⟨rfl, hone⟩
      have H2 := Lib.hid hone
      clear hone
      go_wp2_with fail
      go_roundw
      case rel => exact ⟨i + 1, by go_num, by omega, H2⟩
      case measure => simp [intOf]; omega
    · have hiw : i = n := by omega
      subst hiw
      obtain ⟨k, hk⟩ : ∃ k : Nat, out % (i : Int) = k := ⟨(out % (i : Int)).toNat, by have := Int.emod_nonneg out (show (i : Int) ≠ 0 by omega); omega⟩
      have hki : k < i := by have := Int.emod_lt_of_pos out (show (0 : Int) < (i : Int) by omega); omega
      have HR := Lib.hid (fun W => alike_round W out i (by omega) (by omega))
      have Hk := Lib.hid hk
      have Hr1 := Lib.hid (H1.out.remove (k : Int) 1 _ (lv_remR true i k hki) (lv_remS true i k))
      clear H1 Hone hk
      go_wp2_with fail
      refine (HR.out _).mono ?_
      rintro e _ ⟨rfl, rfl⟩
      rw [Hk.out]
      go_wp2_with fail
      refine Hr1.out.mono ?_
      rintro e w2 ⟨rfl, hone⟩
      have Hr2 := Lib.hid (hone.remove (k : Int) 0 _ (lv_remR2 true i k) (lv_remS2 true i k))
      clear hone
      go_wp2_with fail
      refine Hr2.out.mono ?_
      rintro e w3 ⟨rfl, hone⟩
      have H2 := Lib.hid hone
      clear hone Hr1 Hr2 HR
      go_wp2_with fail
      go_loopw [11] (fun vj wr => ∃ j : Nat, vj = .int .i64 j ∧ j ≤ i ∧ Hid (One w wr b (lvC true (lvR i k j)))) (fun vj _ => i - (intOf vj).toNat)
      case atStart => exact ⟨0, rfl, Nat.zero_le _, H2⟩
      case round =>
        obtain ⟨j, rfl, hj, H3⟩ := hrel
        by_cases hlt2 : j < i
        · have l1 : decide ((j : Int) < i) = true := decide_eq_true (by omega)
          have l2 : decide (j < i) = true := decide_eq_true hlt2
          by_cases hjk : j = k
          · have Hsk : Hid (lvR i k j = lvR i k (j + 1)) := Lib.hid (by rw [hjk]; exact lv_skip i k hki)
            have q1 : ((j : Int) == (k : Int)) = true := beq_iff_eq.2 (by omega)
            have q2 : (j == k) = true := beq_iff_eq.2 hjk
            clear hjk H2
            go_wp2_with fail
            go_roundw
            case rel => exact ⟨j + 1, by go_num, by omega, by rw [← Hsk.out]; exact H3⟩
            case measure => simp [intOf]; omega
          · have q1 : ((j : Int) == (k : Int)) = false := beq_eq_false_iff_ne.2 (by omega)
            have q2 : (j == k) = false := beq_eq_false_iff_ne.2 hjk
            have Hc := Lib.hid (H3.out.recv (70 + (j : Int)) true true _ 1 _ (lv_recvR i k j hlt2 hjk) (lv_recvS i k j hlt2 hjk) rfl)
            clear hjk H2 H3
            go_wp2_with fail
            refine Hc.out.mono ?_
            rintro e w4 ⟨A4, cp4, rfl, hone, hrd⟩
            obtain ⟨g, o, rfl, hcp, hkk⟩ := rd_one hrd
            obtain ⟨c0, c1, c2, c3, c4⟩ := hkk
            have H4 := Lib.hid hone
            clear hone hrd
            dsimp only at c0 c1 c2 c3 c4
            go_wp2_with fail
            go_roundw
            case rel => exact ⟨j + 1, by go_num, by omega, H4⟩
            case measure => simp [intOf]; omega
        · have hji : j = i := by omega
          subst hji
          have l1 : decide ((j : Int) < j) = false := decide_eq_false (by omega)
          have H4 : Hid (One w wr b (lvC true [])) := Lib.hid (by have := H3.out; rwa [lv_end] at this)
          clear H2 H3
          have Hc1 := Lib.hid (H4.out.can true false rfl)
          go_wp2_with fail
          refine Hc1.out.mono ?_
          rintro e w4 ⟨rfl, hone⟩
          have Hc2 := Lib.hid (hone.can false false rfl)
          clear hone
          go_wp2_with fail
          refine Hc2.out.mono ?_
          rintro e w5 ⟨rfl, hone⟩
          have H5 := Lib.hid hone
          clear hone
          go_wp2_with fail
          refine (Haw.out _).mono ?_
          rintro e w10 ⟨rfl, hf3⟩
          have F3 := Lib.hid (H5.out.fr.trans0 hf3)
          clear hf3
          go_wp2_with fail
          go_ret
          exact ⟨rfl, F3.out⟩
set_option maxHeartbeats 4000000 in
theorem leaves_false (w : World) (n : Nat) (out : Int) (h1 : 1 ≤ n) (h2 : n ≤ 15) :
    Calls Try.prog 9 #[.int .i64 n, .int .i64 out, .bool false] w fun e w' => e = .returned (.bool true) ∧ Fr Nob w w' := by
  have Haw := Lib.hid (fun W => awake9 W)
  have Hnew := Lib.hid (fun W => chan_new W 0 (by omega))
  have d3 : decide ((n : Int) < 1) = false := decide_eq_false (by omega)
  have d3' : decide (n < 1) = false := decide_eq_false (by omega)
  have d4 : decide ((15 : Int) < n) = false := decide_eq_false (by omega)
  have d4' : decide (15 < n) = false := decide_eq_false (by omega)
  go_enter Try.func9, Try.ntmps9
  go_wp2_with fail
  refine (Hnew.out _).mono ?_
  intro e w1 hnew
  obtain ⟨b, rfl, hone⟩ := One.ofNew hnew
  have Hone : Hid (One w w1 b (lvC false ((List.range 0).map lvW))) := Lib.hid hone
  clear hnew hone
  go_wp2_with fail
  go_loopw [9] (fun vi wr => ∃ i : Nat, vi = .int .i64 i ∧ i ≤ n ∧ Hid (One w wr b (lvC false ((List.range i).map lvW)))) (fun vi _ => n - (intOf vi).toNat)
  case atStart => exact ⟨0, rfl, Nat.zero_le _, Hone⟩
  case round =>
    obtain ⟨i, rfl, hi, H1⟩ := hrel
    by_cases hlt : i < n
    · have l1 : decide ((i : Int) < n) = true := decide_eq_true (by omega)
      have l2 : decide (i < n) = true := decide_eq_true hlt
      have hc := H1.out.wait (lvW i) false 0 _ (lv_waitR false i) (lv_waitS false i) (lv_few false i (by omega))
      have Hc := Lib.hid hc
      clear hc H1 Hone
      go_wp2_with fail
      refine Hc.out.mono ?_
      rintro e w2 ⟨rfl, hone⟩
      have H2 := Lib.hid hone
      clear hone
      go_wp2_with fail
      go_roundw
      case rel => exact ⟨i + 1, by go_num, by omega, H2⟩
      case measure => simp [intOf]; omega
    · have hiw : i = n := by omega
      subst hiw
      obtain ⟨k, hk⟩ : ∃ k : Nat, out % (i : Int) = k := ⟨(out % (i : Int)).toNat, by have := Int.emod_nonneg out (show (i : Int) ≠ 0 by omega); omega⟩
      have hki : k < i := by have := Int.emod_lt_of_pos out (show (0 : Int) < (i : Int) by omega); omega
      have HR := Lib.hid (fun W => alike_round W out i (by omega) (by omega))
      have Hk := Lib.hid hk
      have Hr1 := Lib.hid (H1.out.remove (k : Int) 1 _ (lv_remR false i k hki) (lv_remS false i k))
      clear H1 Hone hk
      go_wp2_with fail
      refine (HR.out _).mono ?_
      rintro e _ ⟨rfl, rfl⟩
      rw [Hk.out]
      go_wp2_with fail
      refine Hr1.out.mono ?_
      rintro e w2 ⟨rfl, hone⟩
      have Hr2 := Lib.hid (hone.remove (k : Int) 0 _ (lv_remR2 false i k) (lv_remS2 false i k))
      clear hone
      go_wp2_with fail
      refine Hr2.out.mono ?_
      rintro e w3 ⟨rfl, hone⟩
      have H2 := Lib.hid hone
      clear hone Hr1 Hr2 HR
      go_wp2_with fail
      go_loopw [11] (fun vj wr => ∃ j : Nat, vj = .int .i64 j ∧ j ≤ i ∧ Hid (One w wr b (lvC false (lvR i k j)))) (fun vj _ => i - (intOf vj).toNat)
      case atStart => exact ⟨0, rfl, Nat.zero_le _, H2⟩
      case round =>
        obtain ⟨j, rfl, hj, H3⟩ := hrel
        by_cases hlt2 : j < i
        · have l1 : decide ((j : Int) < i) = true := decide_eq_true (by omega)
          have l2 : decide (j < i) = true := decide_eq_true hlt2
          by_cases hjk : j = k
          · have Hsk : Hid (lvR i k j = lvR i k (j + 1)) := Lib.hid (by rw [hjk]; exact lv_skip i k hki)
            have q1 : ((j : Int) == (k : Int)) = true := beq_iff_eq.2 (by omega)
            have q2 : (j == k) = true := beq_iff_eq.2 hjk
            clear hjk H2
            go_wp2_with fail
            go_roundw
            case rel => exact ⟨j + 1, by go_num, by omega, by rw [← Hsk.out]; exact H3⟩
            case measure => simp [intOf]; omega
          · have q1 : ((j : Int) == (k : Int)) = false := beq_eq_false_iff_ne.2 (by omega)
            have q2 : (j == k) = false := beq_eq_false_iff_ne.2 hjk
            have Hc := Lib.hid (H3.out.send 9 true _ 1 0 _ (lv_sendR i k j hlt2 hjk) (lv_sendS i k j hlt2 hjk) rfl)
            clear hjk H2 H3
            go_wp2_with fail
            refine Hc.out.mono ?_
            rintro e w4 ⟨A4, cp4, rfl, hone, hrd⟩
            obtain ⟨g, o, rfl, hcp, hkk⟩ := rd_one hrd
            obtain ⟨c0, c1, c2, c3, c4⟩ := hkk
            have H4 := Lib.hid hone
            clear hone hrd
            dsimp only at c0 c1 c2 c3 c4
            go_wp2_with fail
            go_roundw
            case rel => exact ⟨j + 1, by go_num, by omega, H4⟩
            case measure => simp [intOf]; omega
        · have hji : j = i := by omega
          subst hji
          have l1 : decide ((j : Int) < j) = false := decide_eq_false (by omega)
          have H4 : Hid (One w wr b (lvC false [])) := Lib.hid (by have := H3.out; rwa [lv_end] at this)
          clear H2 H3
          have Hc1 := Lib.hid (H4.out.can true false rfl)
          go_wp2_with fail
          refine Hc1.out.mono ?_
          rintro e w4 ⟨rfl, hone⟩
          have Hc2 := Lib.hid (hone.can false false rfl)
          clear hone
          go_wp2_with fail
          refine Hc2.out.mono ?_
          rintro e w5 ⟨rfl, hone⟩
          have H5 := Lib.hid hone
          clear hone
          go_wp2_with fail
          refine (Haw.out _).mono ?_
          rintro e w10 ⟨rfl, hf3⟩
          have F3 := Lib.hid (H5.out.fr.trans0 hf3)
          clear hf3
          go_wp2_with fail
          go_ret
          exact ⟨rfl, F3.out⟩
theorem leaves_bad (w : World) (a0 a1 : Int) (a2 : Bool) (h : a0 < 1 ∨ 15 < a0) :
    Calls Try.prog 9 #[.int .i64 a0, .int .i64 a1, .bool a2] w fun e w' => e = .returned (.bool true) ∧ Fr Nob w w' := by
  have Haw := Lib.hid (fun W => awake9 W)
  by_cases h0 : a0 < 1
  · have d0 : decide (a0 < 1) = true := decide_eq_true h0
    clear h h0
    go_enter Try.func9, Try.ntmps9
    go_wp2_with fail
    refine (Haw.out _).mono ?_
    rintro e w2 ⟨rfl, hf2⟩
    have F2 := Lib.hid (hf2)
    clear hf2
    go_wp2_with fail
    go_ret
    exact ⟨rfl, F2.out⟩
  · have d0 : decide (a0 < 1) = false := decide_eq_false h0
    have d1 : decide (15 < a0) = true := decide_eq_true (by omega)
    clear h h0
    go_enter Try.func9, Try.ntmps9
    go_wp2_with fail
    refine (Haw.out _).mono ?_
    rintro e w2 ⟨rfl, hf2⟩
    have F2 := Lib.hid (hf2)
    clear hf2
    go_wp2_with fail
    go_ret
    exact ⟨rfl, F2.out⟩

theorem chanLeaves_walk (a0 a1 : Int) (a2 : Bool) (w : World) (w0 : (Lit.int .i64 a0).wf = true) (w1 : (Lit.int .i64 a1).wf = true) :
    Calls Try.prog 9 #[.int .i64 a0, .int .i64 a1, .bool a2] w fun e w' => e = .returned (.bool true) ∧ Below w.heap.size w w' := by
  have key : Calls Try.prog 9 #[.int .i64 a0, .int .i64 a1, .bool a2] w fun e w' => e = .returned (.bool true) ∧ Fr Nob w w' := by
    by_cases h : a0 < 1 ∨ 15 < a0
    · exact leaves_bad w a0 a1 a2 h
    · obtain ⟨x, rfl⟩ : ∃ n : Nat, a0 = n := ⟨a0.toNat, by omega⟩
      cases a2
      · exact leaves_false w x a1 (by omega) (by omega)
      · exact leaves_true w x a1 (by omega) (by omega)
  exact key.mono fun e w' ⟨h1, h2⟩ => ⟨h1, h2.below (Nat.le_refl _) fun _ q => q.elim⟩

/-! The row: out of the walk above. -/
namespace chanLeaves
open Go.ChangeShapes Go.WideShapes Go.ChangeAt Go.RowKit
open Go.ChangeMaps (open_string shut_string)
theorem own : ownKnob Try.prog.godebug = none := by kernel_rfl
theorem laidOut : laidOutB Try.prog = true := by kernel_rfl
set_option maxRecDepth 100000 in
theorem lifted (os : Os) (started : os.Started) (H : Type) (enc : TypeId × Value → H) :
    ReturnsInHanded {} Try.checked os 9 .any (Rows.chanLeavesSpec.pre6 enc Try.prog Try.f9 Rows.chanLeavesRow.domain false) (Rows.chanLeavesSpec.post enc Try.prog Try.f9 false true false false) := by
  refine returnsInHanded_of_change (C := Try.checked) own started (by kernel_rfl) Try.func9
    (ChangeSpec.witness6 (enc := enc) (C := Try.checked) false ⟨#[], #[.int .i64 0, .int .i64 0, .bool false], []⟩ 8 (by kernel_rfl) (by kernel_rfl) (by kernel_rfl) (by kernel_rfl)) ?_
  intro W base args ds gs before hval0 hW hcnd _
  have hval : ∀ (j : Nat) t v, Try.f9.params[j]? = some t → args[j]? = some v → Value.okWide Try.prog W .any base t v := hval0
  have hW' := hW
  obtain ⟨p, q, hA0, hV, rfl, hfz, hnd⟩ := hW
  have hA : DataW.TrodAll enc Try.prog W 0 (fun _ => true) true Try.f9.params.toList args.toList ds p := hA0
  rw [Try.params9] at hA hval
  obtain ⟨v0, vs0, d0, ds0, p0, q0, hargs, rfl, rfl, h0, r0⟩ := trodAll_cons hA
  obtain ⟨v1, vs1, d1, ds1, p1, q1, rfl, rfl, rfl, h1, r1⟩ := trodAll_cons r0
  obtain ⟨v2, vs2, d2, ds2, p2, q2, rfl, rfl, rfl, h2, r2⟩ := trodAll_cons r1
  obtain ⟨rfl, rfl, rfl⟩ := trodAll_nil r2
  obtain rfl : args = #[v0, v1, v2] := by cases args; simp_all
  obtain ⟨rfl, rfl⟩ := trodVars_none hV
  obtain ⟨a0, rfl, rfl, rfl, w0⟩ := open_int Try.underlying3 (hval 0 3 v0 rfl rfl) h0
  obtain ⟨a1, rfl, rfl, rfl, w1⟩ := open_int Try.underlying3 (hval 1 3 v1 rfl rfl) h1
  obtain ⟨a2, rfl, rfl, rfl⟩ := open_bool Try.underlying4 (hval 2 4 v2 rfl rfl) h2
  clear hA0 hval0
  refine (chanLeaves_walk a0 a1 a2 W w0 w1).mono fun e W' ⟨he, bel⟩ => ?_
  subst he
  exact ⟨_, rfl, _, _, _, [], _, [], hW', trodAll_mk1 (shut_bool Try.underlying4 _), (trodAll_cons_mk (shut_int Try.underlying3 w0) (trodAll_cons_mk (shut_int Try.underlying3 w1) (trodAll_cons_mk (shut_bool Try.underlying4 _) trodAll_mk0))), rfl, bel.frame _, fun h => by cases h⟩
theorem over : Rows.chanLeavesRow.holds Try.pinned (OpenSpec.ofChange Rows.chanLeavesSpec) :=
  OpenClaim.holds_of_wide 9 Try.f9 rfl rfl rfl rfl rfl rfl rfl ⟨rfl, rfl, rfl, rfl, rfl⟩ rfl rfl rfl rfl rfl (by kernel_rfl) Try.func9 (by kernel_rfl)
    (of_decide_eq_true (by kernel_rfl)) (by unfold Func.isWrapper; first | (rw [if_pos (by decide +kernel)]; kernel_rfl) | (rw [if_neg (by decide +kernel)]; exact ⟨rfl, rfl⟩))
    (fun os started H enc _ => lifted os started H enc)
end chanLeaves
/-- THE STATEMENT. -/
theorem chanLeaves_holds : Rows.ChanLeavesSaid := chanLeaves.over
#print axioms chanLeaves_holds
end Go.Proofs.Ytfpcnagimjmkpaa
