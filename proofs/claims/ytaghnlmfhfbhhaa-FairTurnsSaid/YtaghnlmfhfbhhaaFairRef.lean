/- What few, flat and the reference's runnable, Longest and Share do at looks that are read. -/
import Derived.Test.YtaghnlmfhfbhhaaFair
set_option linter.unusedVariables false
set_option linter.unusedSimpArgs false
namespace Go.Proofs.Ytaghnlmfhfbhhaa
open Go.RowKit
set_option maxRecDepth 100000

set_option maxHeartbeats 1000000 in
theorem fair_few (w : World) (v : Value) (M : List (Value × Lk)) (h : Looks w v M) :
    Calls Try.prog 38 #[v] w fun e w' => ∃ b, e = .returned (.bool b) ∧ (b = true → M.length ≤ 50) ∧ w' = w := by
  obtain ⟨⟨_, hl, A, c, rfl, hc1, hc2, hA⟩, hr⟩ := h
  have hat : ∀ k, k < M.length → ∃ m : Value × Lk, (M.flatMap lookEn)[k * 2]? = some m.1 ∧ Rd w 1 m.1 m.2.1.length (ints m.2.1) := fun k hk =>
    ⟨M[k], (Looks.at (by simp [hk])).1, hr _ (List.getElem_mem hk)⟩
  have HA := Lib.hid hA; have HAT := Lib.hid hat
  generalize M.length = N at *
  clear hA hat hr
  unfold maxLen at hl hc2
  go_enter Try.func38, Try.ntmps38
  go_wp2_with fail
  go_loopw [3] (fun i wr => ∃ k : Nat, k ≤ N ∧ i = .int .i64 k ∧ k ≤ 60 ∧ wr = w) (fun i _ => 60 - (intOf i).toNat)
  case atStart => exact ⟨0, Nat.zero_le _, rfl, Nat.zero_le _, rfl⟩
  case round =>
    obtain ⟨k, hk, rfl, hk6, rfl⟩ := hrel
    by_cases hlt : k < N
    · by_cases h60 : k < 60
      · obtain ⟨g, o, rfl, hg, hc⟩ := HA.out (by omega)
        obtain ⟨m, h1, h2⟩ := HAT.out k hlt
        have hx := hc _ _ h1
        obtain ⟨mv, ml, mp⟩ := m
        dsimp only at h1 h2 hx
        obtain ⟨_, hml, A2, c2, rfl, hc21, hc22, hA2⟩ := h2
        unfold maxLen at hml
        clear hc h1 hA2
        generalize ml.length = T at *
        by_cases hT : 20 < T
        · go_wp2_with fail
          go_ret
          exact ⟨_, rfl, (fun h => by cases h), rfl⟩
        · go_wp2_with fail
          go_roundw
          case rel => exact ⟨k + 1, by omega, by go_num, by omega, by first | rfl | trivial⟩
          case measure => simp [intOf]; omega
      · have h60' : ¬ (k : Int) < 60 := by omega
        by_cases h50 : N ≤ 50
        · omega
        · have h50' : decide ((N : Int) ≤ 50) = false := by simp; omega
          go_wp2_with fail
          clear h50 h50'
          go_ret
          first | exact ⟨rfl, rfl⟩ | exact ⟨_, rfl, (fun h => by first | cases h | (simp at h)), rfl⟩
    · obtain rfl : k = N := by omega
      by_cases h50 : k ≤ 50
      · go_wp2_with fail
        go_ret
        exact ⟨_, rfl, fun _ => h50, rfl⟩
      · have h50' : decide ((k : Int) ≤ 50) = false := by simp; omega
        go_wp2_with fail
        clear h50 h50'
        go_ret
        first | exact ⟨rfl, rfl⟩ | exact ⟨_, rfl, (fun h => by first | cases h | (simp at h)), rfl⟩

theorem info_look17 : (Try.prog.info? 85).map (fun i => (i.zero, i.size, i.bytes)) = some (some (.agg #[.slice none 0 0, .int .i64 0]), 2, 32) := by kernel_rfl
theorem looks_snoc (M : List (Value × Lk)) (k : Nat) (m : Value × Lk) (h : M[k]? = some m) : (M.take k).flatMap lookEn ++ [m.1, .int .i64 m.2.2] = (M.take (k + 1)).flatMap lookEn := by
  rw [List.take_add_one, List.flatMap_append, h]; simp [lookEn]

set_option maxHeartbeats 1000000 in
theorem fair_flat (w : World) (v : Value) (M : List (Value × Lk)) (h : Looks w v M) (hb : M.length ≤ 50) :
    Calls Try.prog 40 #[v] w fun e w' => ∃ v', e = .returned v' ∧ Fr Nob w w' ∧ Looks w' v' M := by
  have hL := h
  obtain ⟨⟨_, hl, A, c, rfl, hc1, hc2, hA⟩, hr⟩ := h
  have hat : ∀ k, k < M.length → ∃ m : Value × Lk, M[k]? = some m ∧ (M.flatMap lookEn)[k * 2]? = some m.1 ∧ (M.flatMap lookEn)[k * 2 + 1]? = some (.int .i64 m.2.2) ∧ Rd w 1 m.1 m.2.1.length (ints m.2.1) := fun k hk =>
    ⟨M[k], by simp [hk], (Looks.at (by simp [hk])).1, (Looks.at (by simp [hk])).2, hr _ (List.getElem_mem hk)⟩
  have hsn := looks_snoc M
  have htk : M.take M.length = M := List.take_length
  have HA := Lib.hid hA; have HAT := Lib.hid hat; have HS := Lib.hid hsn; have HT := Lib.hid htk; have HR := Lib.hid hr
  generalize hNN : M.length = N at *
  have HN := Lib.hid hNN
  clear hA hat hr hsn htk hL hl hNN
  unfold maxLen at hc2
  go_enter Try.func40, Try.ntmps40
  go_wp2_with fail
  go_loopw [3, 4] (fun vo i wr => ∃ k : Nat, k ≤ N ∧ i = .int .i64 k ∧ ∃ Ao co, vo = .slice Ao k co ∧ Fr (From w.heap.size) w wr ∧ Sl wr (From w.heap.size) 85 2 (.slice Ao k co) k ((M.take k).flatMap lookEn)) (fun _ i _ => N - (intOf i).toNat)
  case atStart => exact ⟨0, Nat.zero_le _, rfl, none, 0, rfl, Fr.refl _ _, Sl.nil _ _ _ _⟩
  case round =>
    obtain ⟨k, hk, rfl, Ao, co, rfl, hfr, hs⟩ := hrel
    by_cases hlt : k < N
    · obtain ⟨g, o, rfl, hg, hc⟩ := HA.out (by omega)
      obtain ⟨m, hm, h1, h2, h3⟩ := HAT.out k hlt
      have c0 := hc _ _ h1
      have c1 := hc _ _ h2
      rw [← Nat.add_assoc] at c1
      have hsn := HS.out k m hm
      have Hsn := Lib.hid hsn; clear hsn
      obtain ⟨mv, ml, mp⟩ := m
      dsimp only at c0 c1 h3 Hsn
      obtain ⟨_, hml, A2, c2, rfl, hc21, hc22, hA2⟩ := h3
      generalize ml.length = T at *
      clear hc h1 h2 hA2 hm
      have hki : (k : Int) < N := by omega
      have C0 := Lib.hid c0; have C1 := Lib.hid c1
      have d0 := hfr.cell (p := ⟨g, o + k * 2, none⟩) (by simp [From]; omega) c0
      have d1 := hfr.cell (p := ⟨g, o + k * 2 + 1, none⟩) (by simp [From]; omega) c1
      have Hs := Lib.hid hs; have Hfr := Lib.hid hfr
      clear c0 c1 hs hfr
      go_wp2_with fail
      go_region_held3 (fun w' => w'.cell? ⟨g, o + k * 2, none⟩ = some (.slice A2 T c2) ∧ w'.cell? ⟨g, o + k * 2 + 1, none⟩ = some (.int .i64 mp))
        (first | go_keep | exact ⟨hfr2.cell (p := ⟨g, o + k * 2, none⟩) (by simp [From]; omega) C0.out, hfr2.cell (p := ⟨g, o + k * 2 + 1, none⟩) (by simp [From]; omega) C1.out⟩)
        ((refine step_append_sl _ (by rfl) _ _ _ (by rfl) (From w.heap.size) 85 _ 2 32 Try.underlying64 info_look17 rfl (by omega) (.slice Ao k co) k ((M.take k).flatMap lookEn) (by rfl) ((Hs.out.alloc _).drew) ⟨wr.heap.size, 0, none⟩ 1 1 [.slice A2 T c2, .int .i64 mp] (by rfl) (by rfl) (news_lit _ [.slice A2 T c2, .int .i64 mp] 85 (0, 0) _ (heap_alloc_new wr _)) (by rfl) (by omega) (by omega) ?_; intro v1 w1 hsl1 hfr1; have hfr2 := ((Hfr.out.alloc _).drew).trans0 hfr1))
      go_wp2
      obtain ⟨A1, cap1, rfl⟩ := hsl1.slice
      go_roundw
      case rel =>
        have hz0 := Hfr.out.size
        refine ⟨k + 1, by omega, by go_num, _, _, rfl, hfr2, ?_⟩
        rw [← Hsn.out]
        exact hsl1.mono (fun k _ q => by rcases q with q | q; exact q; simp at q; simp [From]; omega)
      case measure => simp [intOf]; omega
    · obtain rfl : k = N := by omega
      have Hs := Lib.hid hs; have Hfr := Lib.hid hfr
      clear hs hfr
      go_wp2_with fail
      go_ret
      have hf : Fr Nob w wr := Hfr.out.mono fun k hk q => by unfold From at q; omega
      have hs := Hs.out.rd
      rw [HT.out] at hs
      exact ⟨_, rfl, hf, ⟨by rw [HN.out]; exact hs, fun m hm => (HR.out m hm).fr hf⟩⟩

set_option maxHeartbeats 1000000 in
theorem ref17_runnable (w : World) (r : Value) (l : List Int) (p t : Int) (h : Rd w 1 r l.length (ints l)) :
    Calls Try.prog 50 #[.agg #[r, .int .i64 p], .int .i64 t] w fun e w' => e = .returned (.bool (decide (t ∈ l))) ∧ Fr Nob w w' := by
  obtain ⟨_, hl, A, c, rfl, hc1, hc2, hA⟩ := h
  have hd : ∀ i, i < l.length → (ints l)[i]? = some (.int .i64 (l.getD i 0)) := fun i hi => ints_get hi
  have hin : ∀ i, i < l.length → l.getD i 0 = t → t ∈ l := fun i hi e => by rw [← e]; simp [List.getD, hi]
  have hno : (∀ i, i < l.length → l.getD i 0 ≠ t) → t ∉ l := fun h hm => by
    obtain ⟨i, hi, e⟩ := List.mem_iff_getElem.1 hm
    exact h i hi (by simp [List.getD, hi, e])
  have HA := Lib.hid hA; have HD := Lib.hid hd; have HI := Lib.hid hin; have HNo := Lib.hid hno
  generalize l.length = N at *
  clear hA hd hin hno
  unfold maxLen at hl hc2
  go_enter Try.func50, Try.ntmps50
  go_wp2_with fail
  obtain ⟨wb, hwb⟩ : ∃ wb : World, wb = w.alloc (.cells #[.slice A N c, .int .i64 p] 85) := ⟨_, rfl⟩
  rw [← hwb]
  have hfb : Fr Nob w wb := by rw [hwb]; exact (Fr.refl _ _).alloc _
  have b0 : wb.cell? ⟨w.heap.size, 0, none⟩ = some (.slice A N c) := by rw [hwb]; exact blk_cell (heap_alloc_new w _) 0 rfl
  have Hfb := Lib.hid hfb
  clear hwb hfb
  generalize w.heap.size = pb at *
  go_loopw [5] (fun i wr => ∃ k : Nat, k ≤ N ∧ i = .int .i64 k ∧ (∀ j, j < k → l.getD j 0 ≠ t) ∧ wr = wb) (fun i _ => N - (intOf i).toNat)
  case atStart => exact ⟨0, Nat.zero_le _, rfl, fun j hj => by omega, rfl⟩
  case round =>
    obtain ⟨k, hk, rfl, hall, rfl⟩ := hrel
    have Hall := Lib.hid hall; clear hall
    by_cases hlt : k < N
    · obtain ⟨g, o, rfl, hg, hc⟩ := HA.out (by omega)
      have hx := Hfb.out.cell (p := ⟨g, o + k, none⟩) id (hc k _ (HD.out k hlt))
      have hin := HI.out k hlt
      have hky : ∀ j, j < k + 1 → j < k ∨ j = k := fun j hj => by omega
      have hkj : ∀ j, j < k + 1 → l.getD k 0 ≠ t → l.getD j 0 ≠ t := fun j hj hne => by
        rcases hky j hj with h | h
        · exact Hall.out j h
        · rw [h]; exact hne
      have Hin := Lib.hid hin; have Hkj := Lib.hid hkj
      clear hc hin hky hkj
      generalize l.getD k 0 = y at *
      by_cases hyt : y = t
      · have hmem := Hin.out hyt
        have hd : decide (t ∈ l) = true := by simp [hmem]
        have Hd2 := Lib.hid hd
        subst hyt
        clear hd hmem
        go_wp2_with fail
        go_ret
        exact ⟨by first | simpa using Hd2.out | rw [Hd2.out], Hfb.out⟩
      · have e1 : (y == t) = false := by simp [hyt]
        go_wp2_with fail
        go_roundw
        case rel => exact ⟨k + 1, by omega, by go_num, fun j hj => Hkj.out j hj hyt, by first | rfl | trivial⟩
        case measure => simp [intOf]; omega
    · obtain rfl : k = N := by omega
      have hmem := HNo.out Hall.out
      have hd : decide (t ∈ l) = false := by simp [hmem]
      have Hd2 := Lib.hid hd
      clear hd hmem
      go_wp2_with fail
      go_ret
      exact ⟨by first | simpa using Hd2.out | rw [Hd2.out], Hfb.out⟩

end Go.Proofs.Ytaghnlmfhfbhhaa
