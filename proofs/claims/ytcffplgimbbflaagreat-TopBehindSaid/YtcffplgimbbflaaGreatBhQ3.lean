/- TopBehind answers true whatever its inputs are: no condition. -/
import Derived.Test.YtcffplgimbbflaaGreatBhQ2
set_option linter.unusedVariables false
set_option linter.unusedSimpArgs false
namespace Go.Proofs.YtcffplgimbbflaaGreat
open Go.RowKit
set_option maxRecDepth 100000
set_option maxHeartbeats 4000000 in
theorem topBehind_good (c o : Int) (W : World) (h1 : 3 ≤ c) (h2 : c ≤ 1000) (h3 : 3 ≤ o) (h4 : o ≤ 1000) :
    Calls Tryz.prog 4 #[inV c, inV o] W fun e w' => e = .returned (.bool true) ∧ Below W.heap.size W w' := by
  have g1 : ¬ c < 3 := by omega
  have g2 : ¬ 1000 < c := by omega
  have g3 : ¬ o < 3 := by omega
  have g4 : ¬ 1000 < o := by omega
  obtain ⟨s, hp⟩ := playB2 h1 h3
  have Hp := Lib.hid hp
  clear hp
  go_enter Tryz.func4, Tryz.ntmps4
  go_wp2_with fail
  obtain ⟨z1, hz1⟩ : ∃ z1, z1 = (W.alloc (.cells ((pB c o).flatMap insEn).toArray 25)).alloc (.cells #[.slice (some ⟨W.heap.size, 0, none⟩) 21 21] 28) := ⟨_, rfl⟩
  have hz1' := hz1
  simp only [pB, ins, insEn, List.flatMap_cons, List.flatMap_nil, List.cons_append, List.nil_append] at hz1'
  rw [← hz1']
  have hfz : Fr Nob W z1 := by rw [hz1]; exact ((Fr.refl Nob W).alloc _).alloc _
  have hb1 : z1.heap[W.heap.size + 1]? = some (.cells [.slice (some ⟨W.heap.size, 0, none⟩) 21 21].toArray 28 (0, 0)) := by rw [hz1]; exact blk_alloc_eq _ (by simp)
  have hb0 : z1.heap[W.heap.size]? = some (.cells ((pB c o).flatMap insEn).toArray 25 (0, 0)) := by rw [hz1, blk_alloc_ne _ (by simp)]; exact heap_alloc_new _ _
  have hin : PgIn z1 (.slice (some ⟨W.heap.size + 1, 0, none⟩) 1 1) [pB c o] [.slice (some ⟨W.heap.size, 0, none⟩) 21 21] := PgIn.of rfl (rd_lit hb1 1 1 (by omega) rfl (by omega)) (fun i p hi => by
    cases i with
    | zero => simp at hi; subst hi; exact ⟨_, rfl, rd_lit hb0 21 6 (by omega) rfl (by omega)⟩
    | succ i => simp at hi) (nocs_bh c o) ⟨by simp, by simp⟩ (starts_bh c o)
  have Hnew := Lib.hid (world_new hin)
  have Hfz := Lib.hid hfz
  clear hz1 hz1' hfz hb1 hb0 hin
  refine Hnew.out.mono ?_
  rintro e w0 ⟨wb, S0, L, rfl, hf0, ha0, hs0, hsame⟩
  obtain rfl := SameP.eq (nocs_bh c o) hsame
  have Hf0 := Lib.hid (Hfz.out.trans0 hf0)
  have Hmany := Lib.hid (top_many doc3 ha0 22 (by omega) (ok_bh c o 0) Hp.out (by simp [evB]) (by omega) (by omega))
  have Hs0 : Hid (∀ q, S0 q → W.heap.size ≤ q) := Lib.hid fun q a => by have := hs0 q a; have := Hfz.out.size; omega
  clear hf0 ha0 hs0 hsame
  go_wp2_with fail
  refine Hmany.out.mono ?_
  rintro e w1 ⟨v1, rfl, B1, S1, T1, f1, a1, u1, e1, t1⟩
  obtain ⟨A1, c1, rfl⟩ := e1.slice
  have Hf1 : Hid (Fr Nob W w1) := Lib.hid (Hf0.out.trans f1 fun q hq a => by have := Hs0.out q a; omega)
  have hsl : Sl w1 T1 43 6 (.slice A1 10 c1) 10 (evs (evB c o)) := e1
  obtain ⟨g, off, c', hv, hg, hgl, hc1, hc2, hcc, _⟩ := hsl.form (by omega)
  injection hv with hA _ hcp
  subst hA; subst hcp
  have Hcc := Lib.hid hcc
  have Hrd := Lib.hid hsl.rd
  unfold maxLen at hc2
  clear f1 a1 u1 e1 t1 hsl hcc hg Hs0 Hmany Hf0 Hfz Hnew
  have hlen : (evB c o).length = 10 := rfl
  go_wp2_with fail
  go_loopw [9, 10] (fun lv i wr => ∃ k : Nat, k ≤ 10 ∧ i = .int .i64 k ∧ Hid (Fr Nob w1 wr ∧ Sl wr (fun q => w1.heap.size ≤ q ∧ q < wr.heap.size) 43 6 lv (lapL ((evB c o).take k)).length (evs (lapL ((evB c o).take k))))) (fun _ i _ => 10 - (intOf i).toNat)
  case atStart => exact ⟨0, Nat.zero_le _, rfl, Lib.hid ⟨Fr.refl _ _, Sl.nil _ _ _ _⟩⟩
  case round =>
    obtain ⟨k, hk, rfl, hr⟩ := hrel
    obtain ⟨hfr, hsl⟩ := hr.out
    obtain ⟨Al, cl, rfl⟩ := hsl.slice
    by_cases hlt : k < 10
    · obtain ⟨x, hx⟩ : ∃ x, (evB c o)[k]? = some x := ⟨(evB c o)[k]'(by rw [hlen]; exact hlt), by simp⟩
      have htk := lapL_take hx
      have hlk : (lapL ((evB c o).take k)).length ≤ 10 := Nat.le_trans (List.length_filter_le _ _) (by simp; omega)
      have hq : ∀ j u, j < 6 → (evEn x)[j]? = some u → wr.cell? ⟨g, off + (k * 6 + j), none⟩ = some u := fun j u hj hu => hfr.cell (p := ⟨g, off + (k * 6 + j), none⟩) (fun q => q) (Hcc.out _ _ ((evs_get _ k j x hx hj).trans hu))
      have q0 := hq 0 _ (by omega) rfl
      have q1 := hq 1 _ (by omega) rfl
      have q2 := hq 2 _ (by omega) rfl
      have q3 := hq 3 _ (by omega) rfl
      have q4 := hq 4 _ (by omega) rfl
      have q5 := hq 5 _ (by omega) rfl
      rw [← Nat.add_assoc] at q1 q2 q3 q4 q5
      rw [Nat.add_zero] at q0
      have hki : (k : Int) < 10 := by omega
      obtain ⟨x0, x1, x2, x3, x4, x5⟩ := x
      dsimp only at q0 q1 q2 q3 q4 q5 htk
      have Hfr := Lib.hid hfr; have Hsl := Lib.hid hsl
      clear hfr hsl hq hx hr
      by_cases e1 : x1 = 7
      · subst e1
        rw [if_pos rfl] at htk
        have Ht := Lib.hid htk
        clear htk
        generalize hN : (lapL ((evB c o).take k)).length = N at *
        have HN := Lib.hid hN
        clear hN
        go_wp2_with (at_builtin; refine wpList_append_sl _ rfl _ _ _ rfl (fun q => w1.heap.size ≤ q ∧ q < wr.heap.size) 43 _ 6 48 Tryz.underlying34 Tryz.info_clone_evs rfl (by omega) (.slice Al N cl) N (evs (lapL ((evB c o).take k))) rfl (Hsl.out.alloc _) ⟨wr.heap.size, 0, none⟩ 1 1 (evEn (x0, 7, x2, x3, x4, x5)) rfl rfl (news_lit _ (evEn (x0, 7, x2, x3, x4, x5)) 43 (0, 0) wr.heap.size (heap_alloc_new _ _)) (fun u hu => evs_one [(x0, 7, x2, x3, x4, x5)] u (by simpa [evs] using hu)) (by unfold maxLen; omega) (by omega) ?_; intro v3 w3 hs3 hf3; have Hs3 := Lib.hid hs3; have Hf3 := Lib.hid hf3; clear hs3 hf3)
        go_roundw
        case rel =>
          have z1 := Hf3.out.size; have z2 := Hfr.out.size
          refine ⟨k + 1, by omega, by go_num, Lib.hid ⟨(Hfr.out.alloc _).trans Hf3.out fun q hq a => by omega, ?_⟩⟩
          rw [Ht.out, List.length_append, HN.out, evs_app]
          have e9 : evs [(x0, 7, x2, x3, x4, x5)] = evEn (x0, 7, x2, x3, x4, x5) := by simp [evs]
          rw [e9]
          exact Hs3.out.mono fun q hq a => by rcases a with a | a; exact ⟨a.1, hq⟩; simp at a; exact ⟨by omega, hq⟩
        case measure => simp [intOf]; omega
      · have e1' : (x1 == 7) = false := by simpa using e1
        rw [if_neg e1, List.append_nil] at htk
        have Ht := Lib.hid htk
        clear htk e1
        go_wp2_with fail
        go_roundw
        case rel => exact ⟨k + 1, by omega, by go_num, Lib.hid ⟨Hfr.out, by rw [Ht.out]; exact Hsl.out⟩⟩
        case measure => simp [intOf]; omega
    · obtain rfl : k = 10 := by omega
      have hl2 : lapL ((evB c o).take 10) = [(4, 7, -1, 1, 1, c), (14, 7, -1, 3, 1, o)] := rfl
      rw [hl2] at hsl
      have Hfr := Lib.hid hfr
      have hsl2 : Sl wr (fun q => w1.heap.size ≤ q ∧ q < wr.heap.size) 43 6 (.slice Al 2 cl) 2 (evs [(4, 7, -1, 1, 1, c), (14, 7, -1, 3, 1, o)]) := hsl
      have Hsl := Lib.hid hsl2
      have Hot := Lib.hid (fun W2 (hW : Fr Nob w1 W2) => order_told W2 (.slice (some ⟨g, off, none⟩) 10 c1) (evB c o) 10 rfl (by omega) (Hrd.out.fr hW) 0)
      clear hr hfr hsl hsl2 hl2 hlt
      rw [show (lapL ((evB c o).take 10)).length = 2 from rfl]
      go_wp2_with fail
      refine (Hot.out wr Hfr.out).mono ?_
      rintro e w4 ⟨tv, rfl, hf4, ht4⟩
      have ht4' : Rd w4 1 tv 7 (ints [1, 0, c, -1, o, c, 0]) := ht4
      have Ht4 := Lib.hid ht4'; have Hf4 := Lib.hid hf4
      clear ht4 ht4' hf4 Hot
      go_wp2_with fail
      have hal := alike_ints_n (w4.alloc (.cells #[inV 1, inV 0, inV c, inV (-1), inV o, inV c, inV 0] 3)) tv (.slice (some ⟨w4.heap.size, 0, none⟩) 7 7) [1, 0, c, -1, o, c, 0] 7 rfl (Ht4.out.fr ((Fr.refl Nob w4).alloc _)) (rd_lit (b := w4.heap.size) (cs := ints [1, 0, c, -1, o, c, 0]) (T := 3) (heap_alloc_new _ _) 7 1 (by omega) rfl (by omega))
      refine hal.mono ?_
      rintro e _ ⟨rfl, nq, rfl⟩
      obtain ⟨w5, hw5⟩ : ∃ w5, w5 = (w4.alloc (.cells #[inV 1, inV 0, inV c, inV (-1), inV o, inV c, inV 0] 3)).drewN nq := ⟨_, rfl⟩
      have hf5 : Fr Nob wr w5 := by rw [hw5]; exact (Hf4.out.alloc _).drewN nq
      try rw [← hw5]
      have Hf5 := Lib.hid hf5
      obtain ⟨g2, o2, c2', hv2, _, hgl2, hc21, hc22, hcc2, _⟩ := (Hsl.out.fr hf5 fun _ _ q => q).form (by omega)
      injection hv2 with hA2 _ hcp2
      subst hA2; subst hcp2
      have r3 := hcc2 3 _ rfl
      have r5 := hcc2 5 _ rfl
      have r9 := hcc2 9 _ rfl
      have r11 := hcc2 11 _ rfl
      dsimp only at r3 r5 r9 r11
      have r9' : w5.cell? ⟨g2, o2 + 6 + 3, none⟩ = some (inV 3) := r9
      have r11' : w5.cell? ⟨g2, o2 + 6 + 5, none⟩ = some (inV o) := r11
      have Haw := Lib.hid (top_awake w5)
      clear hw5 hf5 hal hcc2
      go_wp2_with fail
      refine Haw.out.mono ?_
      rintro e w9 ⟨rfl, hf9⟩
      go_wp2_with fail
      go_ret
      exact ⟨rfl, (((Hf1.out.trans0 Hfr.out).trans0 Hf5.out).trans0 hf9).below (Nat.le_refl _) fun _ q => q.elim⟩
end Go.Proofs.YtcffplgimbbflaaGreat
