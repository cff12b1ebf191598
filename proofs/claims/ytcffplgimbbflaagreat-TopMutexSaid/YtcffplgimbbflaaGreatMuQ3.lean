/- TopMutex answers true whatever its inputs are: no condition. -/
import Derived.Test.YtcffplgimbbflaaGreatMuQ2
import Derived.Test.YtcffplgimbbflaaGreatRows
set_option linter.unusedVariables false
set_option linter.unusedSimpArgs false
namespace Go.Proofs.YtcffplgimbbflaaGreat
open Go.RowKit
set_option maxRecDepth 100000
set_option maxHeartbeats 4000000 in
theorem topMutex_good (n t : Nat) (v : Value) (l : List Int) (m : Nat) (hm : l.length = m) (W : World) (h1 : 1 ≤ n) (h2 : n ≤ 6) (h3 : 1 ≤ t) (h4 : t ≤ 4) (hl : m ≤ 300) (hrd : Rd W 1 v m (ints l)) :
    Calls Tryz.prog 5 #[inV (n : Int), inV (t : Int), v] W fun e w' => e = .returned (.bool true) ∧ Below W.heap.size W w' := by
  obtain ⟨_, hmax, A, c, rfl, hc1, hc2, hA⟩ := hrd
  have g1 : ¬ (n : Int) < 1 := by omega
  have g2 : ¬ (6 : Int) < n := by omega
  have g3 : ¬ (t : Int) < 1 := by omega
  have g4 : ¬ (4 : Int) < t := by omega
  have g5 : ¬ (300 : Int) < m := by omega
  have HA := Lib.hid hA; have Hm := Lib.hid hm
  clear hA hm
  go_enter Tryz.func5, Tryz.ntmps5
  go_wp2_with fail
  obtain ⟨z0, hz0⟩ : ∃ z0, z0 = W.alloc (.cells (pA1 0 |>.flatMap insEn).toArray 25) := ⟨_, rfl⟩
  have hz0' := hz0
  simp only [pA1, ins, insEn, List.replicate_zero, List.append_nil, List.flatMap_cons, List.flatMap_nil, List.cons_append, List.nil_append] at hz0'
  rw [← hz0']
  have hsl0 : Sl z0 (fun q => W.heap.size ≤ q ∧ q < z0.heap.size) 25 6 (.slice (some ⟨W.heap.size, 0, none⟩) 3 3) 3 ((pA1 0).flatMap insEn) := by
    rw [hz0]; exact Sl.lit W 25 6 _ 3 _ ⟨Nat.le_refl _, by simp⟩ (by unfold maxLen; omega) rfl
  have hf0 : Fr Nob W z0 := by rw [hz0]; exact (Fr.refl Nob W).alloc _
  have Hsl0 := Lib.hid hsl0; have Hf0 := Lib.hid hf0
  clear hz0 hz0' hsl0 hf0
  go_loopw [7, 8] (fun fv i wr => ∃ k : Nat, k ≤ n ∧ i = .int .i64 k ∧ Hid (Fr Nob W wr ∧ Sl wr (fun q => W.heap.size ≤ q ∧ q < wr.heap.size) 25 6 fv (3 + k) ((pA1 k).flatMap insEn))) (fun _ i _ => n - (intOf i).toNat)
  case atStart => exact ⟨0, Nat.zero_le _, rfl, Lib.hid ⟨Hf0.out, Hsl0.out⟩⟩
  case round =>
    obtain ⟨k, hk, rfl, hr⟩ := hrel
    obtain ⟨hfr, hsl⟩ := hr.out
    obtain ⟨Av, cv, rfl⟩ := hsl.slice
    by_cases hlt : k < n
    · have hki : (k : Int) < n := by omega
      have Hfr := Lib.hid hfr; have Hsl := Lib.hid hsl
      clear hr hfr hsl
      go_wp2_with (at_builtin; refine wpList_append_rd _ rfl _ _ _ rfl (fun q => W.heap.size ≤ q ∧ q < wr.heap.size) 25 _ 6 64 Tryz.underlying28 Tryz.info_clone_ins rfl (by omega) (.slice Av (3 + k) cv) (3 + k) ((pA1 k).flatMap insEn) rfl (Hsl.out.alloc _) (.slice (some ⟨wr.heap.size, 0, none⟩) 1 1) 1 ([ins 8 7 1 0].flatMap insEn) rfl (rd_lit (b := wr.heap.size) (cs := [ins 8 7 1 0].flatMap insEn) (T := 25) (heap_alloc_new _ _) 1 6 (by omega) rfl (by omega)) (lit_one _ (by simp [wI])) (by omega) (by omega) ?_; intro v3 w3 hs3 hf3; have Hs3 := Lib.hid hs3; have Hf3 := Lib.hid hf3; clear hs3 hf3)
      go_roundw
      case rel =>
        have z1 := Hfr.out.size; have z2 := Hf3.out.size
        refine ⟨k + 1, by omega, by go_num, Lib.hid ⟨(Hfr.out.alloc _).trans Hf3.out fun q hq a => absurd a.1 (by omega), ?_⟩⟩
        rw [pA1_succ, List.flatMap_append]
        exact Hs3.out.mono fun q hq a => ⟨by rcases a with a | a; exact a.1; simp at a; omega, hq⟩
      case measure => simp [intOf]; omega
    · obtain rfl : k = n := by omega
      have Hfr := Lib.hid hfr; have Hsl := Lib.hid hsl
      clear hr hfr hsl
      go_wp2_with fail
      obtain ⟨fv1, hfv1⟩ : ∃ fv1, fv1 = Value.slice Av (3 + k) cv := ⟨_, rfl⟩
      rw [← hfv1] at Hsl ⊢
      obtain ⟨wA, hwA⟩ : ∃ wA, wA = wr := ⟨_, rfl⟩
      rw [← hwA] at Hfr Hsl ⊢
      clear hwA hfv1 hk hlt
      go_loopw [7, 9] (fun fv i wr => ∃ k2 : Nat, k2 ≤ k ∧ i = .int .i64 k2 ∧ Hid (Fr Nob W wr ∧ Sl wr (fun q => W.heap.size ≤ q ∧ q < wr.heap.size) 25 6 fv (3 + k + k2) ((pA2 k k2).flatMap insEn))) (fun _ i _ => k - (intOf i).toNat)
      case atStart => exact ⟨0, Nat.zero_le _, rfl, Lib.hid ⟨Hfr.out, by rw [pA2_zero]; exact Hsl.out⟩⟩
      case round =>
        clear Hfr Hsl
        obtain ⟨k2, hk2, rfl, hr⟩ := hrel
        obtain ⟨hfr, hsl⟩ := hr.out
        obtain ⟨Av, cv, rfl⟩ := hsl.slice
        by_cases hlt : k2 < k
        · have hki : (k2 : Int) < k := by omega
          have Hfr := Lib.hid hfr; have Hsl := Lib.hid hsl
          clear hr hfr hsl
          go_wp2_with (at_builtin; refine wpList_append_rd _ rfl _ _ _ rfl (fun q => W.heap.size ≤ q ∧ q < wr.heap.size) 25 _ 6 64 Tryz.underlying28 Tryz.info_clone_ins rfl (by omega) (.slice Av (3 + k + k2) cv) (3 + k + k2) ((pA2 k k2).flatMap insEn) rfl (Hsl.out.alloc _) (.slice (some ⟨wr.heap.size, 0, none⟩) 1 1) 1 ([ins 11 1 3 4].flatMap insEn) rfl (rd_lit (b := wr.heap.size) (cs := [ins 11 1 3 4].flatMap insEn) (T := 25) (heap_alloc_new _ _) 1 6 (by omega) rfl (by omega)) (lit_one _ (by simp [wI])) (by omega) (by omega) ?_; intro v3 w3 hs3 hf3; have Hs3 := Lib.hid hs3; have Hf3 := Lib.hid hf3; clear hs3 hf3)
          go_roundw
          case rel =>
            have z1 := Hfr.out.size; have z2 := Hf3.out.size
            refine ⟨k2 + 1, by omega, by go_num, Lib.hid ⟨(Hfr.out.alloc _).trans Hf3.out fun q hq a => absurd a.1 (by omega), ?_⟩⟩
            rw [pA2_succ, List.flatMap_append]
            exact Hs3.out.mono fun q hq a => ⟨by rcases a with a | a; exact a.1; simp at a; omega, hq⟩
          case measure => simp [intOf]; omega
        · obtain rfl : k2 = k := by omega
          have Hfr := Lib.hid hfr; have Hsl := Lib.hid hsl
          clear hr hfr hsl hlt hk2
          go_wp2_with (at_builtin; refine wpList_append_rd _ rfl _ _ _ rfl (fun q => W.heap.size ≤ q ∧ q < wr.heap.size) 25 _ 6 64 Tryz.underlying28 Tryz.info_clone_ins rfl (by omega) (.slice Av (3 + k2 + k2) cv) (3 + k2 + k2) ((pA2 k2 k2).flatMap insEn) rfl (Hsl.out.alloc _) (.slice (some ⟨wr.heap.size, 0, none⟩) 2 2) 2 ([ins 11 0 3 4, ins 6 3 0 0].flatMap insEn) rfl (rd_lit (b := wr.heap.size) (cs := [ins 11 0 3 4, ins 6 3 0 0].flatMap insEn) (T := 25) (heap_alloc_new _ _) 2 6 (by omega) rfl (by omega)) (lit_one _ (by simp [wI])) (by omega) (by omega) ?_; intro v3 w3 hs3 hf3; obtain ⟨AB, cB, rfl⟩ := hs3.slice; have Hs3 := Lib.hid hs3; have Hf3 := Lib.hid hf3; clear hs3 hf3)
          obtain ⟨wB, hwB⟩ : ∃ wB, wB = w3 := ⟨_, rfl⟩
          rw [← hwB] at Hs3 Hf3 ⊢
          have HfB : Hid (Fr Nob W wB) := Lib.hid ((Hfr.out.alloc _).trans Hf3.out fun q hq a => absurd a.1 (by omega))
          have HsB : Hid (Sl wB (fun q => W.heap.size ≤ q ∧ q < wB.heap.size) 25 6 (.slice AB (3 + k2 + k2 + 2) cB) (3 + k2 + k2 + 2) ((pM k2).flatMap insEn)) := Lib.hid (by
            have z1 := Hfr.out.size
            rw [pM_eq, List.flatMap_append]
            exact Hs3.out.mono fun q hq a => ⟨by rcases a with a | a; exact a.1; simp at a; omega, hq⟩)
          clear hwB Hfr Hsl Hs3 Hf3
          go_loopw [10, 11] (fun qv i wr => ∃ k : Nat, k ≤ t ∧ i = .int .i64 k ∧ Hid (Fr Nob wB wr ∧ Sl wr (fun q => wB.heap.size ≤ q ∧ q < wr.heap.size) 25 6 qv (4 * k) ((pWi k).flatMap insEn))) (fun _ i _ => t - (intOf i).toNat)
          case atStart => exact ⟨0, Nat.zero_le _, rfl, Lib.hid ⟨Fr.refl _ _, Sl.nil _ _ _ _⟩⟩
          case round =>
            obtain ⟨k, hk, rfl, hr⟩ := hrel
            obtain ⟨hfr, hsl⟩ := hr.out
            obtain ⟨Av, cv, rfl⟩ := hsl.slice
            by_cases hlt : k < t
            · have hki : (k : Int) < t := by omega
              have Hfr := Lib.hid hfr; have Hsl := Lib.hid hsl
              clear hr hfr hsl
              go_wp2_with (at_builtin; refine wpList_append_rd _ rfl _ _ _ rfl (fun q => wB.heap.size ≤ q ∧ q < wr.heap.size) 25 _ 6 64 Tryz.underlying28 Tryz.info_clone_ins rfl (by omega) (.slice Av (4 * k) cv) (4 * k) ((pWi k).flatMap insEn) rfl (Hsl.out.alloc _) (.slice (some ⟨wr.heap.size, 0, none⟩) 4 4) 4 ([wI 0, wI 1, wI 2, wI 3].flatMap insEn) rfl (rd_lit (b := wr.heap.size) (cs := [wI 0, wI 1, wI 2, wI 3].flatMap insEn) (T := 25) (heap_alloc_new _ _) 4 6 (by omega) rfl (by omega)) (lit_one _ (by simp [wI])) (by omega) (by omega) ?_; intro v3 w3 hs3 hf3; have Hs3 := Lib.hid hs3; have Hf3 := Lib.hid hf3; clear hs3 hf3)
              go_roundw
              case rel =>
                have z1 := Hfr.out.size; have z2 := Hf3.out.size
                refine ⟨k + 1, by omega, by go_num, Lib.hid ⟨(Hfr.out.alloc _).trans Hf3.out fun q hq a => absurd a.1 (by omega), ?_⟩⟩
                rw [pWi_succ, List.flatMap_append, show 4 * (k + 1) = 4 * k + 4 by omega]
                exact Hs3.out.mono fun q hq a => ⟨by rcases a with a | a; exact a.1; simp at a; omega, hq⟩
              case measure => simp [intOf]; omega
            · obtain rfl : k = t := by omega
              have Hfr := Lib.hid hfr; have Hsl := Lib.hid hsl
              clear hr hfr hsl hlt hk
              go_wp2_with (at_builtin; refine wpList_append_rd _ rfl _ _ _ rfl (fun q => wB.heap.size ≤ q ∧ q < wr.heap.size) 25 _ 6 64 Tryz.underlying28 Tryz.info_clone_ins rfl (by omega) (.slice Av (4 * k) cv) (4 * k) ((pWi k).flatMap insEn) rfl (Hsl.out.alloc _) (.slice (some ⟨wr.heap.size, 0, none⟩) 1 1) 1 ([ins 10 1 5 0].flatMap insEn) rfl (rd_lit (b := wr.heap.size) (cs := [ins 10 1 5 0].flatMap insEn) (T := 25) (heap_alloc_new _ _) 1 6 (by omega) rfl (by omega)) (lit_one _ (by simp [wI])) (by omega) (by omega) ?_; intro v3 w3 hs3 hf3; obtain ⟨AC, cC, rfl⟩ := hs3.slice; have Hs3 := Lib.hid hs3; have Hf3 := Lib.hid hf3; clear hs3 hf3)
              have hfC : Fr Nob wB w3 := (Hfr.out.alloc _).trans Hf3.out fun q hq a => absurd a.1 (by omega)
              have hq3 : Rd w3 6 (.slice AC (4 * k + 1) cC) (pW k).length ((pW k).flatMap insEn) := by
                rw [pW_len]; unfold pW; rw [List.flatMap_append]; exact Hs3.out.rd
              have hp3 : Rd w3 6 (.slice AB (3 + k2 + k2 + 2) cB) (pM k2).length ((pM k2).flatMap insEn) := by
                rw [pM_len, show 2 * k2 + 5 = 3 + k2 + k2 + 2 by omega]; exact (HsB.out.fr hfC fun _ _ q => q.elim).rd
              have hf3' : Fr Nob W w3 := HfB.out.trans hfC fun _ _ q => q.elim
              obtain ⟨z1, hz1⟩ : ∃ z1, z1 = w3.alloc (.cells #[.slice AB (3 + k2 + k2 + 2) cB, .slice AC (4 * k + 1) cC] 28) := ⟨_, rfl⟩
              rw [← hz1]
              have hfz : Fr Nob w3 z1 := by rw [hz1]; exact (Fr.refl Nob w3).alloc _
              have hb1 : z1.heap[w3.heap.size]? = some (.cells [.slice AB (3 + k2 + k2 + 2) cB, .slice AC (4 * k + 1) cC].toArray 28 (0, 0)) := by rw [hz1]; exact heap_alloc_new _ _
              have hin : PgIn z1 (.slice (some ⟨w3.heap.size, 0, none⟩) 2 2) (PMu k2 k) [.slice AB (3 + k2 + k2 + 2) cB, .slice AC (4 * k + 1) cC] := PgIn.of rfl (rd_lit hb1 2 1 (by omega) rfl (by omega)) (fun i p hi => by
                match i, hi with
                | 0, hi => cases hi; exact ⟨_, rfl, hp3.fr hfz⟩
                | 1, hi => cases hi; exact ⟨_, rfl, hq3.fr hfz⟩
                | i + 2, hi => simp at hi) (nocs_mu k2 k) ⟨by simp, by simp⟩ (starts_mu h2 h4)
              have Hnew := Lib.hid (world_new hin)
              have Hfz := Lib.hid (hf3'.trans0 hfz)
              clear hz1 hfz hb1 hin hf3' hp3 hq3 hfC Hfr Hsl Hs3 Hf3 HfB HsB
              refine Hnew.out.mono ?_
              rintro e w0 ⟨wb, S0, L, rfl, hf0, ha0, hs0, hsame⟩
              obtain rfl := SameP.eq (nocs_mu k2 k) hsame
              have hg0 : MuR W w0 wb k2 k (.slice none 0 0) 0 ws0 [] := ⟨.inl ⟨rfl, rfl, rfl⟩, ⟨_, S0, Nob, Hfz.out.trans0 hf0, ha0.mono (by omega) (by omega), fun q a => .inr (by have := hs0 q a; have := Hfz.out.size; omega), Sl.nil _ _ _ _, fun q a => a.elim⟩, by simp⟩
              have Hg0 := Lib.hid hg0
              have Hok := Lib.hid (fun dr => pgok1 (nocs_mu k2 k) (plain_mu k2 k) dr)
              clear hf0 ha0 hs0 hsame hg0 Hnew
              go_wp2_with fail
              go_loopw [14, 15] (fun lv i wr => ∃ (j : Nat) (st : WS) (lk : List Ev), j ≤ m ∧ i = .int .i64 j ∧ Hid (MuR W wr wb k2 k lv j st lk)) (fun _ i _ => m - (intOf i).toNat)
              case atStart => exact ⟨0, ws0, [], Nat.zero_le _, rfl, Hg0⟩
              case round =>
                obtain ⟨j, st, lk, hj, rfl, hr⟩ := hrel
                obtain ⟨hinv, ⟨B1, S1, T1, f1, a1, u1, e1, t1⟩, hlen⟩ := hr.out
                obtain ⟨Av, cv, rfl⟩ := e1.slice
                by_cases hlt : j < m
                · obtain ⟨x, hx⟩ : ∃ x, l[j]? = some x := ⟨l[j]'(by rw [Hm.out]; exact hlt), by simp⟩
                  obtain ⟨s, hs, hinv'⟩ := invMu_step h1 h2 h4 (by omega) hinv x 0
                  obtain ⟨g, o, rfl, hgl, hc⟩ := HA.out (by omega)
                  have q0 : wr.cell? ⟨g, o + j, none⟩ = some (inV x) := f1.cell (p := ⟨g, o + j, none⟩) (fun q => q) (hc j (inV x) (by simp [ints, hx]))
                  have hki : (j : Int) < m := by omega
                  have hev := step_few hs
                  have Hst := Lib.hid (world_steps doc1 a1 1 x 0 (Hok.out 0) hs (by omega) (by omega))
                  have Hf1 := Lib.hid f1; have Hu1 := Lib.hid u1; have He1 := Lib.hid e1; have Ht1 := Lib.hid t1; have Hinv := Lib.hid hinv'; have Hev := Lib.hid hev
                  clear hc hx hinv f1 a1 u1 e1 t1 hs hinv' hev hr
                  go_wp2_with fail
                  refine Hst.out.mono ?_
                  rintro e w2 ⟨v2, rfl, hg2⟩
                  have Hg2 := Lib.hid hg2
                  obtain ⟨B2, S2, T2, f2, a2, u2, e2, t2⟩ := hg2
                  have He2 := Lib.hid e2.rd
                  have He1' := Lib.hid (He1.out.fr f2 fun q a b => (Ht1.out q a).2.2 b)
                  clear f2 a2 u2 e2 t2 q0
                  go_wp2_with (at_builtin; refine wpList_append_rd _ rfl _ _ _ rfl T1 43 _ 6 48 Tryz.underlying34 Tryz.info_clone_evs rfl (by omega) (.slice Av lk.length cv) lk.length (evs lk) rfl He1'.out v2 s.ev.length (evs s.ev) rfl He2.out (evs_one _) (by omega) (by have := Hev.out; omega) ?_; intro v3 w3 hs3 hf3; have Hs3 := Lib.hid hs3; have Hf3 := Lib.hid hf3; clear hs3 hf3)
                  go_roundw
                  case rel =>
                    refine ⟨j + 1, s, lk ++ s.ev, by omega, by go_num, Lib.hid ⟨by rw [toldL_app]; exact Hinv.out, ?_, by rw [List.length_append]; have := Hev.out; omega⟩⟩
                    have q := Gath.join (l := lk) Hf1.out Hu1.out Ht1.out Hg2.out Hf3.out Hs3.out rfl
                    obtain ⟨B3, S3, T3, f3, a3, u3, e3, t3⟩ := q
                    exact ⟨B3, S3, T3, f3, a3.mono (by omega) (by unfold costN; split <;> omega), u3, e3, t3⟩
                  case measure => simp [intOf]; omega
                · obtain rfl : j = m := by omega
                  obtain ⟨s, l2, hp, hI2, hl2⟩ := invMu_plays h1 h2 h4 (runsE 400) j st (toldL 0 lk) (fun e he => by unfold runsE at he; rw [List.mem_map] at he; obtain ⟨i, _, rfl⟩ := he; rfl) (by simp [runsE]; omega) hinv
                  have hr4 : (runsE 400).length = 400 := by simp [runsE]
                  rw [hr4] at hI2 hl2
                  have Hmany := Lib.hid (top_many doc1 a1 400 (by omega) (Hok.out 0) hp (by omega) (by omega) (by omega))
                  have Hf1 := Lib.hid f1; have Hu1 := Lib.hid u1; have He1 := Lib.hid e1; have Ht1 := Lib.hid t1
                  have Htold : Hid (toldL 0 (lk ++ l2) = [((k2 * k : Nat) : Int)]) := Lib.hid (by rw [toldL_app]; exact hI2.last (by omega))
                  clear hinv f1 a1 u1 e1 t1 hp hI2 hr
                  go_wp2_with fail
                  refine Hmany.out.mono ?_
                  rintro e w2 ⟨v2, rfl, hg2⟩
                  have Hg2 := Lib.hid hg2
                  obtain ⟨B2, S2, T2, f2, a2, u2, e2, t2⟩ := hg2
                  have He2 := Lib.hid e2.rd
                  have He1' := Lib.hid (He1.out.fr f2 fun q a b => (Ht1.out q a).2.2 b)
                  clear f2 a2 u2 e2 t2
                  obtain ⟨p, hp⟩ : ∃ p : Nat, p = k2 * k := ⟨_, rfl⟩
                  have hpb : p ≤ 24 := by rw [hp]; exact Nat.mul_le_mul h2 h4
                  have x1 : (k2 : Int) * (k : Int) = (p : Int) := by rw [hp]; simp
                  have x2 : IntKind.i64.wrap (p : Int) = (p : Int) := IntWalk.i64_in _ (by omega)
                  rw [← hp] at Htold
                  clear hp hpb
                  go_wp2_with (at_builtin; refine wpList_append_rd _ rfl _ _ _ rfl T1 43 _ 6 48 Tryz.underlying34 Tryz.info_clone_evs rfl (by omega) (.slice Av lk.length cv) lk.length (evs lk) rfl He1'.out v2 l2.length (evs l2) rfl He2.out (evs_one _) (by omega) (by omega) ?_; intro v3 w3 hs3 hf3; have Hs3 := Lib.hid hs3; have Hf3 := Lib.hid hf3; clear hs3 hf3)
                  obtain ⟨B3, S3, T3, f3, a3, u3, e3, t3⟩ := Gath.join (l := lk) Hf1.out Hu1.out Ht1.out Hg2.out Hf3.out Hs3.out rfl
                  have Hot := Lib.hid (order_told w3 v3 (lk ++ l2) _ rfl (by rw [List.length_append]; omega) e3.rd 0)
                  have Hfr := Lib.hid f3
                  clear f3 a3 u3 e3 t3
                  refine Hot.out.mono ?_
                  rintro e w4 ⟨tv, rfl, hf4, ht4⟩
                  rw [Htold.out] at ht4
                  have Ht4 := Lib.hid ht4; have Hf4 := Lib.hid (Hfr.out.trans0 hf4)
                  clear ht4 hf4 Hot
                  go_wp2_with fail
                  have hal := alike_ints_n (w4.alloc (.cells #[inV (p : Int)] 3)) tv (.slice (some ⟨w4.heap.size, 0, none⟩) 1 1) [(p : Int)] 1 rfl (Ht4.out.fr ((Fr.refl Nob w4).alloc _)) (rd_lit (b := w4.heap.size) (cs := ints [(p : Int)]) (T := 3) (heap_alloc_new _ _) 1 1 (by omega) rfl (by omega))
                  refine hal.mono ?_
                  rintro e _ ⟨rfl, nq, rfl⟩
                  go_wp2_with fail
                  refine (top_awake _).mono ?_
                  rintro e w9 ⟨rfl, hf9⟩
                  go_wp2_with fail
                  go_ret
                  exact ⟨rfl, (((Hf4.out.alloc _).trans0 (Fr.ofDrew ⟨nq, rfl⟩)).trans0 hf9).below (Nat.le_refl _) fun _ q => q.elim⟩
theorem topMutex_walk (a0 a1 : Int) (v2 : Value) (x2 : List Int) (W : World) (w0 : (Lit.int .i64 a0).wf = true) (w1 : (Lit.int .i64 a1).wf = true) (g2 : IsInts W v2 x2) :
    Calls Tryz.prog 5 #[.int .i64 a0, .int .i64 a1, v2] W fun e w' => e = .returned (.bool true) ∧ Below W.heap.size W w' := by
  by_cases hbad : a0 < 1 ∨ 6 < a0 ∨ a1 < 1 ∨ 4 < a1 ∨ 300 < x2.length
  · obtain ⟨_, _, A, c, rfl, _⟩ := g2.1
    exact topMutex_bad a0 a1 A _ c W hbad
  · obtain ⟨n, rfl⟩ : ∃ n : Nat, a0 = (n : Int) := ⟨a0.toNat, by omega⟩
    obtain ⟨t, rfl⟩ : ∃ t : Nat, a1 = (t : Int) := ⟨a1.toNat, by omega⟩
    exact topMutex_good n t v2 x2 _ rfl W (by omega) (by omega) (by omega) (by omega) (by omega) g2.1
/-! The row: out of the walk above. -/
namespace topMutex
open Go.ChangeShapes Go.WideShapes Go.ChangeAt Go.RowKit
open Go.ChangeMaps (open_string shut_string)
theorem own : ownKnob Tryz.prog.godebug = none := by kernel_rfl
theorem laidOut : laidOutB Tryz.prog = true := by kernel_rfl
set_option maxRecDepth 100000 in
theorem lifted (os : Os) (started : os.Started) (H : Type) (enc : TypeId × Value → H) :
    ReturnsInHanded {} Tryz.checked os 5 .any (Rows.topMutexSpec.pre6 enc Tryz.prog Tryz.f5 Rows.topMutexRow.domain false) (Rows.topMutexSpec.post enc Tryz.prog Tryz.f5 false true false false) := by
  refine returnsInHanded_of_change (C := Tryz.checked) own started (by kernel_rfl) Tryz.func5
    (ChangeSpec.witness6 (enc := enc) (C := Tryz.checked) false ⟨#[], #[.int .i64 0, .int .i64 0, .slice none 0 0], []⟩ 8 (by kernel_rfl) (by kernel_rfl) (by kernel_rfl) (by kernel_rfl)) ?_
  intro W base args ds gs before hval0 hW hcnd _
  have hval : ∀ (j : Nat) t v, Tryz.f5.params[j]? = some t → args[j]? = some v → Value.okWide Tryz.prog W .any base t v := hval0
  have hW' := hW
  obtain ⟨p, q, hA0, hV, rfl, hfz, hnd⟩ := hW
  have hA : DataW.TrodAll enc Tryz.prog W 0 (fun _ => true) true Tryz.f5.params.toList args.toList ds p := hA0
  rw [Tryz.params5] at hA hval
  obtain ⟨v0, vs0, d0, ds0, p0, q0, hargs, rfl, rfl, h0, r0⟩ := trodAll_cons hA
  obtain ⟨v1, vs1, d1, ds1, p1, q1, rfl, rfl, rfl, h1, r1⟩ := trodAll_cons r0
  obtain ⟨v2, vs2, d2, ds2, p2, q2, rfl, rfl, rfl, h2, r2⟩ := trodAll_cons r1
  obtain ⟨rfl, rfl, rfl⟩ := trodAll_nil r2
  obtain rfl : args = #[v0, v1, v2] := by cases args; simp_all
  obtain ⟨rfl, rfl⟩ := trodVars_none hV
  obtain ⟨a0, rfl, rfl, rfl, w0⟩ := open_int Tryz.underlying3 (hval 0 3 v0 rfl rfl) h0
  obtain ⟨a1, rfl, rfl, rfl, w1⟩ := open_int Tryz.underlying3 (hval 1 3 v1 rfl rfl) h1
  have k2 := h2
  have lt2 : ∀ x ∈ p2, x.block < W.heap.size := by obtain ⟨m, hm⟩ := k2; exact DataW.trod_lt m _ _ _ hm
  obtain ⟨x2, g2⟩ := opn_ints (hval 2 39 v2 rfl rfl) h2
  clear hA0 hval0
  refine (topMutex_walk a0 a1 v2 x2 W w0 w1 g2).mono fun e W' ⟨he, bel⟩ => ?_
  subst he
  exact ⟨_, rfl, _, _, _, [], _, [], hW', trodAll_mk1 (shut_bool Tryz.underlying4 _), (trodAll_cons_mk (shut_int Tryz.underlying3 w0) (trodAll_cons_mk (shut_int Tryz.underlying3 w1) (trodAll_cons_mk (Below.trod laidOut (by kernel_rfl) (of_decide_eq_true (by kernel_rfl)) k2 bel lt2) trodAll_mk0))), rfl, bel.frame _, fun h => by cases h⟩
theorem over : Rows.topMutexRow.holds Tryz.pinned (OpenSpec.ofChange Rows.topMutexSpec) :=
  OpenClaim.holds_of_wide 5 Tryz.f5 rfl rfl rfl rfl rfl rfl rfl ⟨rfl, rfl, rfl, rfl, rfl⟩ rfl rfl rfl rfl rfl (by kernel_rfl) Tryz.func5 (by kernel_rfl)
    (of_decide_eq_true (by kernel_rfl)) (by unfold Func.isWrapper; first | (rw [if_pos (by decide +kernel)]; kernel_rfl) | (rw [if_neg (by decide +kernel)]; exact ⟨rfl, rfl⟩))
    (fun os started H enc _ => lifted os started H enc)
end topMutex
/-- THE STATEMENT. -/
theorem topMutex_holds : Rows.TopMutexSaid := topMutex.over
#print axioms topMutex_holds
end Go.Proofs.YtcffplgimbbflaaGreat
