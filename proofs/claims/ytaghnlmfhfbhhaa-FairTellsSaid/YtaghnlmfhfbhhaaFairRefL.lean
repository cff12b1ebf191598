/- What the reference's Longest does at looks that are read. -/
import Derived.Test.YtaghnlmfhfbhhaaFairRef
set_option linter.unusedVariables false
set_option linter.unusedSimpArgs false
namespace Go.Proofs.Ytaghnlmfhfbhhaa
open Go.RowKit
set_option maxRecDepth 100000

set_option maxHeartbeats 4000000 in
theorem ref17_longest (w : World) (v : Value) (M : List (Value × Lk)) (h : Looks w v M) (hlen : M.length ≤ 1000000) :
    Calls Try.prog 41 #[v] w fun e w' => e = .returned (.int .i64 (longest (M.map (·.2)) : Int)) ∧ Fr Nob w w' := by
  obtain ⟨⟨_, hl, A, c, rfl, hc1, hc2, hA⟩, hr⟩ := h
  have hat : ∀ k, k < M.length → ∃ m : Value × Lk, (M.map (·.2))[k]? = some m.2 ∧ (M.flatMap lookEn)[k * 2]? = some m.1 ∧ (M.flatMap lookEn)[k * 2 + 1]? = some (.int .i64 m.2.2) ∧ Rd w 1 m.1 m.2.1.length (ints m.2.1) ∧ ((M.map (·.2)).getD k ([], 0)).1 = m.2.1 := fun k hk =>
    ⟨M[k], by simp [hk], (Looks.at (by simp [hk])).1, (Looks.at (by simp [hk])).2, hr _ (List.getElem_mem hk), by simp [List.getD, hk]⟩
  have hup : ∀ k, k < M.length → upto (M.map (·.2)) (k + 1) = inn ((M.map (·.2)).drop k) (upto (M.map (·.2)) k) ((M.map (·.2)).getD k ([], 0)).1 := fun k _ => rfl
  have hle : ∀ k, upto (M.map (·.2)) k ≤ M.length := fun k => by simpa using upto_le (M.map (·.2)) k
  have hdl : ∀ k, ((M.map (·.2)).drop k).length = M.length - k := fun k => by simp
  have hll : longest (M.map (·.2)) = upto (M.map (·.2)) M.length := by unfold longest; rw [List.length_map]
  rw [hll]
  have HA := Lib.hid hA; have HAT := Lib.hid hat; have HU := Lib.hid hup; have HLe := Lib.hid hle; have HD := Lib.hid hdl
  generalize M.length = N at *
  generalize M.map (·.2) = L at *
  clear hA hat hup hle hdl hr hll hl
  unfold maxLen at hc2
  go_enter Try.func41, Try.ntmps41
  go_wp2_with fail
  go_loopw [3, 4] (fun n i wr => ∃ k : Nat, k ≤ N ∧ i = .int .i64 k ∧ n = .int .i64 (upto L k : Int) ∧ Fr Nob w wr) (fun _ i _ => N - (intOf i).toNat)
  case atStart => exact ⟨0, Nat.zero_le _, rfl, rfl, Fr.refl _ _⟩
  case round =>
    obtain ⟨k, hk, rfl, rfl, hfr⟩ := hrel
    by_cases hlt : k < N
    · obtain ⟨g, o, rfl, hg, hc⟩ := HA.out (by omega)
      obtain ⟨m, hmk, h1, h2, h3, h4⟩ := HAT.out k hlt
      have hx0 := hc _ _ h1
      have Hx0 := Lib.hid hx0
      have HC := Lib.hid hc
      have hu := HU.out k hlt
      rw [h4] at hu
      have hle := HLe.out k
      have Hfr := Lib.hid hfr
      have Hu := Lib.hid hu
      have hki : (k : Int) < N := by omega
      obtain ⟨mv, ml, mp⟩ := m
      dsimp only at h1 h2 h3 hx0 h4 Hu
      obtain ⟨_, hml, A2, c2, rfl, hc21, hc22, hA2⟩ := h3
      unfold maxLen at hml hc22
      have hdk : (L.drop k).length ≤ N := by rw [HD.out k]; omega
      have hti : ∀ j, j < ml.length → inn (L.drop k) (upto L k) (ml.take (j + 1)) = max (inn (L.drop k) (upto L k) (ml.take j)) (rowN (L.drop k) (ml.getD j 0)) := fun j hj => inn_snoc _ _ _ _ hj
      have hib : ∀ j, inn (L.drop k) (upto L k) (ml.take j) ≤ N := fun j => inn_le _ _ _ _ hle hdk
      have hD2 : ∀ j, j < ml.length → (ints ml)[j]? = some (.int .i64 (ml.getD j 0)) := fun j hj => ints_get hj
      have htk : ml.take ml.length = ml := List.take_length
      have HA2 := Lib.hid hA2; have HTI := Lib.hid hti; have HIB := Lib.hid hib; have HD2 := Lib.hid hD2; have HTK := Lib.hid htk
      generalize ml.length = T at *
      clear hc h1 h2 h4 hu hfr hmk hA2 hti hib hD2 htk hx0 hdk
      go_wp2_with fail
      go_loopw [3, 5] (fun n i wr => ∃ j : Nat, j ≤ T ∧ i = .int .i64 j ∧ n = .int .i64 (inn (L.drop k) (upto L k) (ml.take j) : Int) ∧ Fr Nob w wr) (fun _ i _ => T - (intOf i).toNat)
      case atStart => exact ⟨0, Nat.zero_le _, rfl, by simp [inn], Hfr.out⟩
      case round =>
        rename_i wr2 _
        obtain ⟨j, hj, rfl, rfl, hfj⟩ := hrel
        have Hfj := Lib.hid hfj
        have hx := hfj.cell (p := ⟨g, o + k * 2, none⟩) id Hx0.out
        by_cases hjt : j < T
        · obtain ⟨g2, o2, rfl, hg2, hc2'⟩ := HA2.out (by omega)
          have ht2 := hfj.cell (p := ⟨g2, o2 + j, none⟩) id (hc2' _ _ (HD2.out j hjt))
          have hti := HTI.out j hjt
          have hib := HIB.out j
          have hjT : (j : Int) < T := by omega
          clear hc2' hfj
          generalize ml.getD j 0 = t at *
          have hrow := rowN_le (L.drop k) t
          rw [HD.out k] at hrow
          generalize inn (L.drop k) (upto L k) (ml.take j) = n at *
          have Hti := Lib.hid hti
          clear hti
          go_wp2_with fail
          go_loopw [7] (fun i wr => ∃ r : Nat, k + r ≤ N ∧ i = .int .i64 r ∧ (∀ q, q < r → ∀ y, (L.drop k)[q]? = some y → passedB y t = true) ∧ Fr Nob w wr) (fun i _ => N - (intOf i).toNat)
          case atStart => exact ⟨0, by omega, rfl, fun q hq => by omega, Hfj.out⟩
          case round =>
            rename_i wr3 _
            obtain ⟨r, hr, rfl, hall, hfq⟩ := hrel
            have Hfq := Lib.hid hfq; have Hall := Lib.hid hall
            clear hall
            by_cases hkr : k + r < N
            · obtain ⟨m2, hm2, q1, q2, q3, _⟩ := HAT.out (k + r) hkr
              have d0 := hfq.cell (p := ⟨g, o + (k + r) * 2, none⟩) id (HC.out _ _ q1)
              have d1 := hfq.cell (p := ⟨g, o + ((k + r) * 2 + 1), none⟩) id (HC.out _ _ q2)
              rw [← Nat.add_assoc] at d1
              have hrun := fun w' (hf : Fr Nob w w') => ref17_runnable w' m2.1 m2.2.1 m2.2.2 t (q3.fr hf)
              have hkr' : (k : Int) + (r : Int) < N := by omega
              have hat2 : (L.drop k)[r]? = some m2.2 := by rw [List.getElem?_drop]; exact hm2
              have hyes : passedB m2.2 t = true → ∀ q, q < r + 1 → ∀ y, (L.drop k)[q]? = some y → passedB y t = true := fun h q hq y hy => by
                by_cases hqr : q < r
                · exact Hall.out q hqr y hy
                · obtain rfl : q = r := by omega
                  rw [hat2] at hy; cases hy; exact h
              have hno : passedB m2.2 t = false → rowN (L.drop k) t = r := fun h => rowN_stop _ _ _ _ hat2 h Hall.out
              obtain ⟨mv2, ml2, mp2⟩ := m2
              dsimp only at d0 d1 hrun q1 q2 q3 hat2 hyes hno
              obtain ⟨_, hml2, A3, c3, rfl, hc31, hc32, hA3⟩ := q3
              obtain ⟨p, hp⟩ : ∃ p : Nat, p = k + r := ⟨_, rfl⟩
              have hpi : (k : Int) + (r : Int) = (p : Int) := by omega
              have hpN : (p : Int) < N := by omega
              rw [← hp] at d0 d1
              have Hp := Lib.hid hp
              have Hrun := Lib.hid hrun; have Hyes := Lib.hid hyes; have Hno := Lib.hid hno
              clear hfq q1 q2 hm2 hA3 hat2 hrun hyes hno hp hkr'
              generalize ml2.length = T2 at *
              by_cases hmem : t ∈ ml2
              · have hd : decide (t ∈ ml2) = true := by simp [hmem]
                rw [hd] at Hrun
                by_cases hpt : mp2 = t
                · have hp0 : passedB (ml2, mp2) t = false := by simp [passedB, hpt]
                  have hstop := Hno.out hp0
                  have e3 : (mp2 != t) = false := by simp [hpt]
                  have Hstop := Lib.hid hstop
                  clear hp0 hstop hd hmem hpt
                  go_wp2_with fail
                  refine (Hrun.out _ Hfq.out).mono ?_
                  rintro e w4 ⟨rfl, hf4⟩
                  have d0 := hf4.cell id d0; have d1 := hf4.cell id d1
                  have Hf4 := Lib.hid (Hfq.out.trans0 hf4)
                  clear hf4
                  go_wp2_with fail
                  go_roundw
                  case rel => exact ⟨j + 1, by omega, by go_num, by rw [Hti.out, Hstop.out]; first | rw [maxIf] | (simp only [maxIf]; done), Hf4.out⟩
                  case measure => simp [intOf]; omega
                · have hp1 : passedB (ml2, mp2) t = true := by simp [passedB, hpt, hmem]
                  have e3 : (mp2 != t) = true := by simp [hpt]
                  have Hgo := Lib.hid (Hyes.out hp1)
                  clear hp1 hd hmem hpt
                  go_wp2_with fail
                  refine (Hrun.out _ Hfq.out).mono ?_
                  rintro e w4 ⟨rfl, hf4⟩
                  have d0 := hf4.cell id d0; have d1 := hf4.cell id d1
                  have Hf4 := Lib.hid (Hfq.out.trans0 hf4)
                  clear hf4
                  go_wp2_with fail
                  go_roundw
                  case rel => exact ⟨r + 1, by omega, by go_num, Hgo.out, Hf4.out⟩
                  case measure => simp [intOf]; omega
              · have hd : decide (t ∈ ml2) = false := by simp [hmem]
                rw [hd] at Hrun
                have hp0 : passedB (ml2, mp2) t = false := by simp [passedB, hmem]
                have Hstop := Lib.hid (Hno.out hp0)
                clear hp0 hd hmem
                go_wp2_with fail
                refine (Hrun.out _ Hfq.out).mono ?_
                rintro e w4 ⟨rfl, hf4⟩
                have Hf4 := Lib.hid (Hfq.out.trans0 hf4)
                clear hf4
                go_wp2_with fail
                go_roundw
                case rel => exact ⟨j + 1, by omega, by go_num, by rw [Hti.out, Hstop.out]; first | rw [maxIf] | (simp only [maxIf]; done), Hf4.out⟩
                case measure => simp [intOf]; omega
            · have hkr' : ¬ (k : Int) + (r : Int) < N := by omega
              have hall2 : rowN (L.drop k) t = r := by
                have hlr : (L.drop k).length = r := by rw [HD.out k]; omega
                rw [← hlr]
                exact rowN_all _ _ fun q hq => Hall.out q (by omega)
              have Hstop := Lib.hid hall2
              clear hall2
              go_wp2_with fail
              go_roundw
              case rel => exact ⟨j + 1, by omega, by go_num, by rw [Hti.out, Hstop.out]; first | rw [maxIf] | (simp only [maxIf]; done), Hfq.out⟩
              case measure => simp [intOf]; omega
        · obtain rfl : j = T := by omega
          go_wp2_with fail
          go_roundw
          case rel => exact ⟨k + 1, by omega, by go_num, by rw [Hu.out, HTK.out], Hfj.out⟩
          case measure => simp [intOf]; omega
    · obtain rfl : k = N := by omega
      have Hfr := Lib.hid hfr
      go_wp2_with fail
      go_ret
      exact ⟨rfl, Hfr.out⟩
end Go.Proofs.Ytaghnlmfhfbhhaa
