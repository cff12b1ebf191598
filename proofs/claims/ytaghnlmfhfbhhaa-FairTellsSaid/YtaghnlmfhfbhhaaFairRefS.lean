/- What the reference's Share does at looks that are read. -/
import Derived.Test.YtaghnlmfhfbhhaaFairRef
set_option linter.unusedVariables false
set_option linter.unusedSimpArgs false
namespace Go.Proofs.Ytaghnlmfhfbhhaa
open Go.RowKit
set_option maxRecDepth 100000

set_option maxHeartbeats 1000000 in
theorem ref17_share (w : World) (v : Value) (M : List (Value × Lk)) (t : Int) (h : Looks w v M) (hlen : M.length ≤ 1000000) :
    Calls Try.prog 43 #[v, .int .i64 t] w fun e w' => e = .returned (.tuple #[.int .i64 (pickedN (M.map (·.2)) t : Int), .int .i64 (readyN (M.map (·.2)) t : Int)]) ∧ Fr Nob w w' := by
  obtain ⟨⟨_, hl, A, c, rfl, hc1, hc2, hA⟩, hr⟩ := h
  have hat : ∀ k, k < M.length → ∃ m : Value × Lk, (M.map (·.2))[k]? = some m.2 ∧ (M.flatMap lookEn)[k * 2]? = some m.1 ∧ (M.flatMap lookEn)[k * 2 + 1]? = some (.int .i64 m.2.2) ∧ Rd w 1 m.1 m.2.1.length (ints m.2.1) := fun k hk =>
    ⟨M[k], by simp [hk], (Looks.at (by simp [hk])).1, (Looks.at (by simp [hk])).2, hr _ (List.getElem_mem hk)⟩
  have hp := fun k => pickedN_le (M.map (·.2)) t k
  have hq := fun k => readyN_le (M.map (·.2)) t k
  have htk : (M.map (·.2)).take M.length = M.map (·.2) := by rw [List.take_of_length_le]; simp
  simp only [List.length_map] at hp hq
  have HA := Lib.hid hA; have HAT := Lib.hid hat; have HP := Lib.hid hp; have HQ := Lib.hid hq; have HTK := Lib.hid htk
  generalize M.length = N at *
  generalize M.map (·.2) = L at *
  clear hA hat hr hp hq htk hl
  unfold maxLen at hc2
  go_enter Try.func43, Try.ntmps43
  go_wp2_with fail
  go_loopw [6, 7, 8] (fun p r i wr => ∃ k : Nat, k ≤ N ∧ i = .int .i64 k ∧ p = .int .i64 (pickedN (L.take k) t : Int) ∧ r = .int .i64 (readyN (L.take k) t : Int) ∧ Fr Nob w wr) (fun _ _ i _ => N - (intOf i).toNat)
  case atStart => exact ⟨0, Nat.zero_le _, rfl, rfl, rfl, Fr.refl _ _⟩
  case round =>
    obtain ⟨k, hk, rfl, rfl, rfl, hfr⟩ := hrel
    by_cases hlt : k < N
    · obtain ⟨g, o, rfl, hg, hc⟩ := HA.out (by omega)
      obtain ⟨m, hm, h1, h2, h3⟩ := HAT.out k hlt
      have hx := hfr.cell (p := ⟨g, o + k * 2, none⟩) id (hc _ _ h1)
      have hy := hfr.cell (p := ⟨g, o + (k * 2 + 1), none⟩) id (hc _ _ h2)
      rw [← Nat.add_assoc] at hy
      have Hfr := Lib.hid hfr
      have hki : (k : Int) < N := by omega
      have hps := pickedN_snoc L t k m.2 hm
      have hqs := readyN_snoc L t k m.2 hm
      have hpl := HP.out k
      have hql := HQ.out k
      have hcon := fun w' (hf : Fr Nob w w') => ref17_runnable w' m.1 m.2.1 m.2.2 t (h3.fr hf)
      obtain ⟨mv, ml, mp⟩ := m
      dsimp only at h1 h2 h3 hx hy hps hqs hcon
      have Hcon := Lib.hid hcon; have Hps := Lib.hid hps; have Hqs := Lib.hid hqs
      obtain ⟨_, hml, A2, c2, rfl, hc21, hc22, hA2⟩ := h3
      unfold maxLen at hml hc22
      clear hc h1 h2 hfr hm hA2 hcon hps hqs
      generalize pickedN (L.take k) t = pn at *
      generalize readyN (L.take k) t = qn at *
      by_cases hpt : mp = t
      · have hpt' : (mp == t) = true := by simp [hpt]
        rw [if_pos hpt] at Hps
        clear hpt
        by_cases hmt : t ∈ ml
        · have hd : decide (t ∈ ml) = true := by simp [hmt]
          rw [if_pos hmt] at Hqs
          rw [hd] at Hcon
          clear hd hmt
          go_wp2_with fail
          refine (Hcon.out _ Hfr.out).mono ?_
          rintro e w3 ⟨rfl, hf3⟩
          have Hf3 := Lib.hid (Hfr.out.trans0 hf3); clear hf3
          go_wp2_with fail
          go_roundw
          case rel => exact ⟨k + 1, by omega, by go_num, by rw [Hps.out]; go_num, by rw [Hqs.out]; go_num, Hf3.out⟩
          case measure => simp [intOf]; omega
        · have hd : decide (t ∈ ml) = false := by simp [hmt]
          rw [if_neg hmt] at Hqs
          rw [hd] at Hcon
          clear hd hmt
          go_wp2_with fail
          refine (Hcon.out _ Hfr.out).mono ?_
          rintro e w3 ⟨rfl, hf3⟩
          have Hf3 := Lib.hid (Hfr.out.trans0 hf3); clear hf3
          go_wp2_with fail
          go_roundw
          case rel => exact ⟨k + 1, by omega, by go_num, by rw [Hps.out]; go_num, by rw [Hqs.out]; rfl, Hf3.out⟩
          case measure => simp [intOf]; omega
      · have hpt' : (mp == t) = false := by simp [hpt]
        rw [if_neg hpt] at Hps
        clear hpt
        by_cases hmt : t ∈ ml
        · have hd : decide (t ∈ ml) = true := by simp [hmt]
          rw [if_pos hmt] at Hqs
          rw [hd] at Hcon
          clear hd hmt
          go_wp2_with fail
          refine (Hcon.out _ Hfr.out).mono ?_
          rintro e w3 ⟨rfl, hf3⟩
          have Hf3 := Lib.hid (Hfr.out.trans0 hf3); clear hf3
          go_wp2_with fail
          go_roundw
          case rel => exact ⟨k + 1, by omega, by go_num, by rw [Hps.out]; rfl, by rw [Hqs.out]; go_num, Hf3.out⟩
          case measure => simp [intOf]; omega
        · have hd : decide (t ∈ ml) = false := by simp [hmt]
          rw [if_neg hmt] at Hqs
          rw [hd] at Hcon
          clear hd hmt
          go_wp2_with fail
          refine (Hcon.out _ Hfr.out).mono ?_
          rintro e w3 ⟨rfl, hf3⟩
          have Hf3 := Lib.hid (Hfr.out.trans0 hf3); clear hf3
          go_wp2_with fail
          go_roundw
          case rel => exact ⟨k + 1, by omega, by go_num, by rw [Hps.out]; rfl, by rw [Hqs.out]; rfl, Hf3.out⟩
          case measure => simp [intOf]; omega
    · obtain rfl : k = N := by omega
      have Hfr := Lib.hid hfr
      clear hfr
      rw [HTK.out]
      go_wp2_with fail
      go_ret2
      exact ⟨rfl, Hfr.out⟩
end Go.Proofs.Ytaghnlmfhfbhhaa
