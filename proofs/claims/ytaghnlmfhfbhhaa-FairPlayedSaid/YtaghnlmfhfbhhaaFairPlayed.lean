/- FairPlayed answers true whatever its numbers and its list are; its arguments read as they did: no condition. -/
import Derived.Test.YtaghnlmfhfbhhaaFairPl
set_option linter.unusedVariables false
set_option linter.unusedSimpArgs false
namespace Go.Proofs.Ytaghnlmfhfbhhaa
open Go.RowKit
set_option maxRecDepth 100000

set_option maxHeartbeats 8000000 in
theorem fairPlayed_good (n : Nat) (v : Value) (l : List Int) (k : Nat) (w : World) (h : IsInts w v l) (hn : n ≤ 5) (hm : l.length ≤ 40) (hk1 : 1 ≤ k) (hk2 : k ≤ 60) :
    Calls Try.prog 12 #[.int .i64 (n : Int), v, .int .i64 (k : Int)] w fun e w' => e = .returned (.bool true) ∧ Below w.heap.size w w' := by
  obtain ⟨⟨_, hl, A, c, rfl, hc1, hc2, hA⟩, hwf⟩ := h
  have HA := Lib.hid hA
  have hd : ∀ i, i < l.length → (ints l)[i]? = some (.int .i64 (l.getD i 0)) := fun i hi => ints_get hi
  have HD := Lib.hid hd
  generalize hnn : l.length = m at *
  clear hA hwf hl hd hnn
  have g1 : ¬ (n : Int) < 0 := by omega
  have g2 : ¬ (5 : Int) < n := by omega
  have g3 : ¬ (40 : Int) < m := by omega
  have g4 : ¬ (k : Int) < 1 := by omega
  have g5 : ¬ (60 : Int) < k := by omega
  have hmk : ∀ W : World, (Instr.makeSlice 28 (.int .i64 ((n : Int) + 1)) (.int .i64 ((n : Int) + 1))).run Try.prog W = .ok (.slice (some ⟨W.heap.size, 0, none⟩) (n + 1) (n + 1)) (W.alloc (.cells (madeCells #[.int .i64 0] (n + 1)) 3)) :=
    fun W => run_make_row' (P := Try.prog) 28 3 (.int .i64 0) 8 Try.underlying28 info_int3 rfl .i64 .i64 (n + 1) (by omega) (by omega) W
  go_enter Try.func12, Try.ntmps12
  go_wp2_with fail
  obtain ⟨w1, hw1⟩ : ∃ x, x = w.alloc (.cells (madeCells #[.int .i64 0] (n + 1)) 3) := ⟨_, rfl⟩
  rw [← hw1]
  have hf1 : Fr Nob w w1 := by rw [hw1]; exact (Fr.refl _ _).alloc _
  have hs1 : Sl w1 (fun k => k = w.heap.size) 3 1 (.slice (some ⟨w.heap.size, 0, none⟩) (n + 1) (n + 1)) (n + 1) (ints (lefts (n + 1) 0)) := by
    have := Sl.made w 3 (.int .i64 0) (n + 1) (fun k => k = w.heap.size) rfl (by unfold maxLen; omega)
    rw [← hw1] at this
    rw [lefts_zero]; exact this
  have hz1 : w1.heap.size = w.heap.size + 1 := by rw [hw1]; simp
  obtain ⟨sb, hsb⟩ : ∃ sb, sb = w.heap.size := ⟨_, rfl⟩
  rw [← hsb] at hs1 ⊢
  have Hf1 := Lib.hid hf1; have Hs1 := Lib.hid hs1; have Hz1 := Lib.hid hz1; have Hsb := Lib.hid hsb
  obtain ⟨N, hN⟩ : ∃ N, N = n + 1 := ⟨_, rfl⟩
  rw [← hN] at Hs1 ⊢
  have hNn : N ≤ 6 ∧ n < N ∧ (N : Int) = (n : Int) + 1 := by omega
  have HN := Lib.hid hN
  obtain ⟨hN1, hN2, hN3⟩ := hNn
  have HN3 := Lib.hid hN3
  clear hf1 hs1 hz1 hw1 hmk hsb hN hN3
  go_loopw [9] (fun i wr => ∃ j : Nat, i = .int .i64 j ∧ j ≤ N ∧ Fr (From w.heap.size) w wr ∧ wr.heap.size = w1.heap.size ∧ Sl wr (fun k => k = sb) 3 1 (.slice (some ⟨sb, 0, none⟩) N N) N (ints (lefts N j))) (fun i _ => N - (intOf i).toNat)
  case atStart => exact ⟨0, rfl, Nat.zero_le _, Hf1.out.none, rfl, Hs1.out⟩
  case round =>
    obtain ⟨j, rfl, hj, hfr, hz, hs⟩ := hrel
    by_cases hlt : j < N
    · obtain ⟨gw, ow, cw, hv, hTg, hgw, hcw, hcm, hcell, hfz⟩ := hs.form (by omega)
      cases hv
      have hc := hcell j _ (ints_get (by rw [lefts_len]; exact hlt))
      have hfzj := hfz (0 + j)
      rw [Nat.zero_add] at hc hfzj
      generalize (lefts N j).getD j 0 = y0 at hc
      have Hfr := Lib.hid hfr; have Hs := Lib.hid hs; have Hz := Lib.hid hz
      have hle : (j : Int) ≤ n := by have := HN3.out; omega
      have hjN : (j : Int) < N := by omega
      clear hcell hfz hfr hs hz
      go_wp2_with fail
      go_roundw
      case rel =>
        have hst := (Fr.refl (fun k => k = sb) wr).setCell (p := ⟨sb, j, none⟩) (.inl rfl) (.int .i64 (2 + (j : Int)))
        refine ⟨j + 1, by go_num, by omega, Hfr.out.trans0 (hst.mono fun k _ e => by rw [e, Hsb.out]; exact Nat.le_refl _), by simpa using Hz.out, ?_⟩
        have := Hs.out.set j (by omega) (.int .i64 (2 + (j : Int)))
        rw [Nat.zero_add] at this
        rw [← lefts_set N j hlt]
        simpa [ints, List.map_set] using this
      case measure => simp [intOf]; omega
    · obtain rfl : j = N := by omega
      have hgt : ¬ (j : Int) ≤ n := by have := HN3.out; omega
      have hp0 : Played w wr sb j 0 (lefts j j) [] none 0 Nob Nob := by
        have hsz : wr.heap.size = w.heap.size + 1 := by rw [hz, Hz1.out]
        exact ⟨hfr, by rw [Hsb.out, hsz]; omega, fun _ q => q.elim, fun _ q => q.elim, hs, Sl.nil _ _ _ _, fun m hm => by simp at hm⟩
      have Hp0 := Lib.hid hp0
      clear hp0 hfr hs hz
      go_wp2_with fail
      go_loopw [7, 10] (fun vl i wr => ∃ (q : Nat) (lf : List Int) (M : List (Value × Lk)) (Al : Option Addr) (cl : Nat) (T U : Nat → Prop), i = .int .i64 q ∧ vl = .slice Al q cl ∧ q ≤ m ∧ M.length = q ∧ lf.length = j ∧ (∀ t : Nat, t < j → 0 ≤ lf.getD t 0 ∧ lf.getD t 0 ≤ 8 ∧ (pickedN (M.map (·.2)) t : Int) = 2 + (t : Int) - lf.getD t 0) ∧ (∀ x ∈ M.map (·.2), x.2 = -1 ∨ x.2 ∈ x.1) ∧ Played w wr sb j q lf M Al cl T U) (fun _ i _ => m - (intOf i).toNat)
      case atStart => exact ⟨0, lefts j j, [], none, 0, Nob, Nob, rfl, rfl, Nat.zero_le _, rfl, lefts_len j j, fun t ht => by rw [lefts_get j t ht]; simp [pickedN]; omega, fun x hx => by simp at hx, Hp0.out⟩
      case round =>
        obtain ⟨q, lf, M, Al, cl, T, U, rfl, rfl, hq, hM, hlf, hlv, hpk, hpl⟩ := hrel
        have HM := Lib.hid hM; have Hlf := Lib.hid hlf; have Hlv := Lib.hid hlv; have Hpk := Lib.hid hpk; have Hpl := Lib.hid hpl
        clear hM hlf hlv hpk hpl Hp0
        by_cases hlt2 : q < m
        · obtain ⟨g, o, rfl, hg, hc⟩ := HA.out (by omega)
          have hx0 := hc q _ (HD.out q hlt2)
          have Hx0 := Lib.hid hx0
          clear hc hx0
          generalize l.getD q 0 = x at *
          obtain ⟨wB, hwB⟩ : ∃ x, x = wr := ⟨wr, rfl⟩
          subst hwB
          go_wp2_with fail
          go_loopw [11, 12] (fun von t wz => ∃ (s p : Nat) (Ao : Option Addr) (co : Nat), t = .int .i64 s ∧ von = .slice Ao p co ∧ s ≤ j ∧ p ≤ s ∧ (onL lf s).length = p ∧ Fr (From wB.heap.size) wB wz ∧ Sl wz (From wB.heap.size) 3 1 (.slice Ao p co) p (ints (onL lf s))) (fun _ t _ => j - (intOf t).toNat)
          case atStart => exact ⟨0, 0, none, 0, rfl, rfl, Nat.zero_le _, Nat.le_refl _, rfl, Fr.refl _ _, Sl.nil _ _ _ _⟩
          case round =>
            obtain ⟨s, p, Ao, co, rfl, rfl, hs, hps, hol, hfo, hso⟩ := hrel
            have Hol := Lib.hid hol; have Hfo := Lib.hid hfo; have Hso := Lib.hid hso
            clear hol hfo hso
            have hf0 : Fr Nob wB wr := Hfo.out.mono fun k hk q => by unfold From at q; omega
            have HplW := Lib.hid (Hpl.out.fr0 hf0)
            clear hf0
            by_cases hsj : s < j
            · obtain ⟨gw, ow, cw, hv, hTg, hgw, hcw, hcm, hcell, hfz⟩ := HplW.out.left.form (by omega)
              cases hv
              have hc := hcell s _ (ints_get (by rw [Hlf.out]; exact hsj))
              rw [Nat.zero_add] at hc
              have hsn := onL_snoc lf s
              generalize lf.getD s 0 = y at *
              have Hsn := Lib.hid hsn
              have hle : (s : Int) ≤ n := by have := HN3.out; omega
              have hsI : (s : Int) < j := by omega
              clear hcell hfz hsn
              by_cases hy : 0 < y
              · go_wp2_with (at_builtin; refine wpList_append1 _ rfl _ _ _ rfl (From wB.heap.size) 3 _ 1 8 Try.underlying28 info_int3 rfl (by omega) (.slice Ao p co) p (ints (onL lf s)) [.int .i64 s] rfl Hso.out rfl rfl rfl (by omega) (by omega) ?_; intro v3 w3 hs3 hf3 hz3)
                obtain ⟨A3, c3, rfl⟩ := hs3.slice
                have hz := Hfo.out.size
                have Hs3 : Hid (Sl w3 (From wB.heap.size) 3 1 (.slice A3 (p + 1) c3) (p + 1) (ints (onL lf (s + 1)))) := by
                  have := hs3.mono (S' := From wB.heap.size) (fun k hk q => by rcases q with q | q; exact q; unfold From; omega)
                  rw [Hsn.out, if_pos hy]
                  simpa [ints] using Lib.hid this
                have Hf3 := Lib.hid (Hfo.out.trans0 hf3)
                have Hl3 : Hid ((onL lf (s + 1)).length = p + 1) := by rw [Hsn.out, if_pos hy, List.length_append, Hol.out]; exact rfl
                clear hs3 hf3 hz3 hz
                go_wp2_with fail
                go_roundw
                case rel => exact ⟨s + 1, p + 1, _, _, by go_num, rfl, by omega, by omega, Hl3.out, Hf3.out, Hs3.out⟩
                case measure => simp [intOf]; omega
              · have Hl3 : Hid (onL lf (s + 1) = onL lf s) := by rw [Hsn.out, if_neg hy]; exact rfl
                go_wp2_with fail
                go_roundw
                case rel => exact ⟨s + 1, p, _, _, by go_num, rfl, by omega, by omega, by rw [Hl3.out]; exact Hol.out, Hfo.out, by rw [Hl3.out]; exact Hso.out⟩
                case measure => simp [intOf]; omega
            · obtain rfl : s = j := by omega
              have hgt : ¬ (s : Int) ≤ n := by have := HN3.out; omega
              have hx := (Hpl.out.fr.trans0 (Hfo.out.mono fun k _ q => by have := Hpl.out.fr.size; unfold From at *; omega)).cell (p := ⟨g, o + q, none⟩) (by simp [From]; omega) Hx0.out
              have hzB := Hfo.out.size
              by_cases hp0 : p = 0
              · obtain rfl : p = 0 := hp0
                obtain ⟨wx, hwx⟩ : ∃ wx, wx = wr.alloc (.cells #[.slice Ao 0 co, .int .i64 (-1)] 74) := ⟨_, rfl⟩
                have hfx : Fr Nob wr wx := by rw [hwx]; exact (Fr.refl _ _).alloc _
                have Hplx := Lib.hid (HplW.out.fr0 hfx)
                have Hsox := Lib.hid (Hso.out.fr hfx fun _ _ q => q)
                have Hwx := Lib.hid hwx
                have hzx : wr.heap.size + 1 = wx.heap.size := by rw [hwx]; simp
                have hzb : wB.heap.size ≤ wr.heap.size := hzB
                clear hwx hfx
                go_wp2_with (at_builtin; rw [← Hwx.out]; refine wpList_append1 wx rfl _ _ _ rfl T 74 _ 2 32 Try.underlying62 info_look rfl (by omega) (.slice Al q cl) q _ [.slice Ao 0 co, .int .i64 (-1)] rfl Hplx.out.looks (by rw [← hzx]; rfl) rfl rfl (by omega) (by omega) ?_; intro v3 w3 hs3 hf3 hz3)
                obtain ⟨A3, c3, rfl⟩ := hs3.slice
                have HplN := Lib.hid (played_add w wB wx w3 sb s q lf lf M (.slice Ao 0 co) (onL lf s) (-1) Al A3 cl c3 T U Hplx.out hs3 hf3 (by omega) (by rw [Hol.out]; exact Hsox.out) Hpl.out)
                clear hs3 hf3 hz3
                have hon : onL lf s = [] := List.eq_nil_of_length_eq_zero Hol.out
                have Hon := Lib.hid hon
                clear hon
                go_wp2_with fail
                go_roundw
                case rel =>
                  refine ⟨q + 1, lf, M ++ [(.slice Ao 0 co, (onL lf s, -1))], _, _, _, _, by go_num, rfl, by omega, by rw [List.length_append, HM.out]; rfl, Hlf.out, fun t ht => ?_, fun x hx => ?_, HplN.out⟩
                  · have := Hlv.out t ht
                    rw [List.map_append, List.map_cons, List.map_nil, picked_snoc, if_neg (by show ¬ (-1 : Int) = _; omega)]
                    exact this
                  · rw [List.map_append, List.mem_append] at hx
                    rcases hx with hx | hx
                    · exact Hpk.out x hx
                    · simp at hx; subst hx; exact .inl rfl
                case measure => simp [intOf]; omega
              · have hk1 := Int.emod_nonneg x (show (p : Int) ≠ 0 by omega)
                have hk2 := Int.emod_lt_of_pos x (show 0 < (p : Int) by omega)
                have hround := fun W => alike_round W x p (by omega) (by omega)
                obtain ⟨r, hr⟩ := Int.eq_ofNat_of_zero_le hk1
                rw [hr] at hk2 hround
                have hrp : r < p := by omega
                obtain ⟨t, ht, hte, htp⟩ := onL_mem lf s ((onL lf s).getD r 0) (by simp [List.getD, Hol.out, hrp])
                have hog : (ints (onL lf s))[r]? = some (.int .i64 (t : Int)) := by rw [← hte]; exact ints_get (by rw [Hol.out]; exact hrp)
                have htm : (t : Int) ∈ onL lf s := by rw [← hte]; simp [List.getD, Hol.out, hrp]
                have Hround := Lib.hid hround; have Htm := Lib.hid htm
                obtain ⟨y, hy⟩ : ∃ y, y = lf.getD t 0 := ⟨_, rfl⟩
                have Hy := Lib.hid hy
                rw [← hy] at htp
                have hy8 := (Hlv.out t ht).2.1
                rw [← hy] at hy8
                obtain ⟨gon, oon, con, hvo, hgo, hgol, _, hcom, hcello, _⟩ := Hso.out.form (by omega)
                cases hvo
                have c0 := hcello r _ hog
                obtain ⟨gl, ol, cll, hvl, hgl, hgll, _, _, hcelll, hfzl⟩ := HplW.out.left.form (by omega)
                cases hvl
                have hlg : (ints lf)[t]? = some (.int .i64 y) := by rw [hy]; exact ints_get (by rw [Hlf.out]; exact ht)
                have c1 := hcelll t _ hlg
                have f1 := hfzl (0 + t)
                rw [Nat.zero_add] at c1 f1
                clear hk1 hr hround hog htm hte hy hlg hcello hcelll hfzl
                have hsbw := HplW.out.sbB
                have hgos : gon ≠ sb := by have := Hpl.out.sbB; unfold From at hgo; omega
                have hp1 : (0 : Int) < p := by omega
                have htI : (t : Int) < s := by omega
                have hxa := ((Fr.refl Nob wr).alloc (.cells #[.slice (some ⟨gon, oon, none⟩) p co, .int .i64 (-1)] 74)).cell id hx
                go_wp2_with fail
                refine (Hround.out _).mono ?_
                rintro e w' ⟨rfl, rfl⟩
                obtain ⟨wx, hwx⟩ : ∃ wx, wx = wr.alloc (.cells #[.slice (some ⟨gon, oon, none⟩) p co, .int .i64 (-1)] 74) := ⟨_, rfl⟩
                rw [← hwx]
                obtain ⟨xb, hxb⟩ : ∃ xb, xb = wr.heap.size := ⟨_, rfl⟩
                rw [← hxb]
                have hbx : wx.heap[xb]? = some (.cells #[.slice (some ⟨gon, oon, none⟩) p co, .int .i64 (-1)] 74 (0, 0)) := by rw [hwx, hxb]; exact heap_alloc_new _ _
                have hfx : Fr Nob wr wx := by rw [hwx]; exact (Fr.refl _ _).alloc _
                have x0 := blk_cell hbx 0 rfl
                have x1 := blk_cell hbx 1 rfl
                have fx1 := blk_froz hbx 1
                have c0 := hfx.cell id c0
                have c1 := hfx.cell id c1
                have f1 : wx.frozen? ⟨sb, t, none⟩ = false := by rw [hfx.frozen id hsbw.2]; exact f1
                have n1 : sb ≠ xb := by omega
                have n2 : gon ≠ xb := by omega
                have hzx : wx.heap.size = xb + 1 := by rw [hwx, hxb]; simp
                have Hfx := Lib.hid hfx; have Hbx := Lib.hid hbx; have Hzx := Lib.hid hzx; have Hxb := Lib.hid hxb
                clear hwx hfx hbx hzx hxb
                obtain ⟨wy, hwy⟩ : ∃ wy, wy = (wx.setCell ⟨xb, 1, none⟩ (.int .i64 (t : Int))).setCell ⟨sb, t, none⟩ (.int .i64 (y - 1)) := ⟨_, rfl⟩
                obtain ⟨hpy, hfy⟩ := played_set w wr wx sb s q lf M Al cl T U HplW.out Hfx.out xb (by rw [Hxb.out]; exact Nat.le_refl _) t ht (.int .i64 (t : Int)) (y - 1)
                rw [← hwy] at hpy hfy
                have hsoy : Sl wy (From wB.heap.size) 3 1 (.slice (some ⟨gon, oon, none⟩) p co) p (ints (onL lf s)) := by
                  have h1 : Sl wr (fun k => wB.heap.size ≤ k ∧ k < wr.heap.size) 3 1 (.slice (some ⟨gon, oon, none⟩) p co) p (ints (onL lf s)) := Hso.out.mono fun k hk q => ⟨q, hk⟩
                  exact ((h1.fr Hfx.out fun _ _ q => q).fr hfy (fun k a b => by
                    have := Hpl.out.sbB
                    have := Hxb.out
                    rcases b with b | b <;> omega)).mono fun k _ q => q.1
                have hzy : wy.heap.size = wx.heap.size := by rw [hwy]; simp
                have hzyB : wB.heap.size ≤ wy.heap.size := by rw [hzy, Hzx.out, Hxb.out]; omega
                have Hpy := Lib.hid hpy; have Hsoy := Lib.hid hsoy; have Hwy := Lib.hid hwy; have Hzy := Lib.hid hzy
                have hy9 : ¬ y - 1 < -1 := by omega
                clear hpy hfy hsoy hwy hzy
                go_wp2_with (at_builtin; rw [← Hwy.out]; refine wpList_append1 wy rfl _ _ _ rfl T 74 _ 2 32 Try.underlying62 info_look rfl (by omega) (.slice Al q cl) q _ [.slice (some ⟨gon, oon, none⟩) p co, .int .i64 (t : Int)] rfl Hpy.out.looks (by rw [Hzy.out]; rfl) rfl rfl (by omega) (by omega) ?_; intro v3 w3 hs3 hf3 hz3)
                obtain ⟨A3, c3, rfl⟩ := hs3.slice
                have HplN := Lib.hid (played_add w wB wy w3 sb s q lf (lf.set t (y - 1)) M (.slice (some ⟨gon, oon, none⟩) p co) (onL lf s) t Al A3 cl c3 T U Hpy.out hs3 hf3 hzyB (by rw [Hol.out]; exact Hsoy.out) Hpl.out)
                clear hs3 hf3 hz3
                go_wp2_with fail
                go_roundw
                case rel =>
                  refine ⟨q + 1, lf.set t (y - 1), M ++ [(.slice (some ⟨gon, oon, none⟩) p co, (onL lf s, (t : Int)))], _, _, _, _, by go_num, rfl, by omega, by rw [List.length_append, HM.out]; rfl, by rw [List.length_set]; exact Hlf.out, fun t2 ht2 => ?_, fun z hz => ?_, HplN.out⟩
                  · have := Hlv.out t2 ht2
                    have hyy := Hy.out
                    rw [List.map_append, List.map_cons, List.map_nil, picked_snoc]
                    by_cases htt : t = t2
                    · subst htt
                      rw [if_pos rfl]
                      have e1 : (lf.set t (y - 1)).getD t 0 = y - 1 := by simp [List.getD, Hlf.out, ht]
                      rw [e1]
                      push_cast
                      omega
                    · rw [if_neg (by show ¬ (t : Int) = t2; omega)]
                      have e1 : (lf.set t (y - 1)).getD t2 0 = lf.getD t2 0 := by simp [List.getD, List.getElem?_set, htt]
                      rw [e1]
                      exact this
                  · rw [List.map_append, List.mem_append] at hz
                    rcases hz with hz | hz
                    · exact Hpk.out z hz
                    · simp at hz; subst hz; exact .inr Htm.out
                case measure => simp [intOf]; omega
        · obtain rfl : q = m := by omega
          obtain ⟨L, hL⟩ : ∃ L, L = M.map (·.2) := ⟨_, rfl⟩
          have hLlen : L.length = q := by rw [hL, List.length_map]; exact HM.out
          have hlen : M.length ≤ 1000000 := by rw [HM.out]; omega
          have cs := fun w0 (t : Nat) h => fair_share w0 (.slice Al q cl) M (t : Int) h hlen
          have cg := fun w0 h => fair_longest w0 (.slice Al q cl) M h hlen
          have cf := fun w0 kk h => fair_fair w0 (.slice Al q cl) M kk h hlen
          rw [← hL] at cs cg cf Hlv Hpk
          have hpr : ∀ t : Nat, pickedN L t ≤ readyN L t := fun t => picked_ready L t (by omega) Hpk.out
          have hcl : ∀ t, cntN L t ≤ q := fun t => by have := cntN_le L t; omega
          have hlo := longest_le L
          rw [hLlen] at hlo
          have Cs := Lib.hid cs; have Cg := Lib.hid cg; have Cf := Lib.hid cf; have Hpr := Lib.hid hpr; have Hcl := Lib.hid hcl
          have HL0 := Lib.hid (Hpl.out.isLooks HM.out)
          clear cs cg cf hpr hcl hlen hL hLlen
          obtain ⟨wB, hwB⟩ : ∃ x, x = wr := ⟨wr, rfl⟩
          subst hwB
          go_wp2_with fail
          go_loopw [14, 15] (fun sm t wz => ∃ s : Nat, t = .int .i64 s ∧ s ≤ j ∧ sm = .int .i64 (cntN L s : Int) ∧ Fr Nob wB wz) (fun _ t _ => j - (intOf t).toNat)
          case atStart => exact ⟨0, rfl, Nat.zero_le _, by rw [cntN_zero]; rfl, Fr.refl _ _⟩
          case round =>
            obtain ⟨s, rfl, hs, rfl, hfs⟩ := hrel
            have Hfs := Lib.hid hfs
            have HplW := Lib.hid (Hpl.out.fr0 hfs)
            clear hfs
            by_cases hsj : s < j
            · obtain ⟨gl, ol, cll, hvl, hgl, hgll, _, _, hcelll, hfzl⟩ := HplW.out.left.form (by omega)
              cases hvl
              have c1 := hcelll s _ (ints_get (by rw [Hlf.out]; exact hsj))
              rw [Nat.zero_add] at c1
              obtain ⟨v1, v2, v3⟩ := Hlv.out s hsj
              have hpr := Hpr.out s
              have hcl := Hcl.out (s + 1)
              rw [cntN_succ] at hcl
              have hsn := cntN_succ L s
              have hcs := Cs.out wr s (HL0.out.fr Hfs.out)
              have Hcs := Lib.hid hcs; have Hsn := Lib.hid hsn
              clear hcelll hfzl hcs hsn
              generalize cntN L s = cn at *
              generalize pickedN L s = pn at *
              generalize readyN L s = rn at *
              generalize lf.getD s 0 = y at *
              have hle : (s : Int) ≤ n := by have := HN3.out; omega
              have hsI : (s : Int) < j := by omega
              have e1 : ((pn : Int) != 2 + (s : Int) - y) = false := by simp; omega
              have e2 : ¬ (rn : Int) < pn := by omega
              clear v3
              go_wp2_with fail
              refine Hcs.out.mono ?_
              rintro e w3 ⟨rfl, hf3⟩
              have c1 := hf3.cell id c1
              have Hf3 := Lib.hid (Hfs.out.trans0 hf3)
              clear hf3
              go_wp2_with fail
              go_roundw
              case rel => exact ⟨s + 1, by go_num, by omega, by rw [Hsn.out]; go_num, Hf3.out⟩
              case measure => simp [intOf]; omega
            · obtain rfl : s = j := by omega
              have hgt : ¬ (s : Int) ≤ n := by have := HN3.out; omega
              have hcl := Hcl.out s
              have hfk1 : fairB L (k : Int) = true → fairB L ((k : Int) + 1) = true := fun h => by simp [fairB] at h ⊢; omega
              have hlo1 : fairB L ((longest L : Int) + 1) = true := by simp [fairB]; omega
              have hlo2 : longest L ≠ 0 → fairB L (longest L : Int) = false := fun h => by simp [fairB]
              have Hlo1 := Lib.hid hlo1; have Hlo2 := Lib.hid hlo2; have Hfk0 := Lib.hid hfk1
              clear hfk1 hlo1 hlo2
              have hend : ∀ W W', Fr (From w.heap.size) w W → Fr Nob W W' → Below w.heap.size w W' := fun W W' h1 h2 => (h1.trans0 h2.none).below (Nat.le_refl _) fun _ q => q
              have Hend := Lib.hid hend
              clear hend
              have HF := Lib.hid HplW.out.fr
              have HLr := Lib.hid (HL0.out.fr Hfs.out)
              generalize hlog : longest L = lo at *
              have Hlog := Lib.hid hlog; clear hlog
              generalize cntN L s = cn at *
              have i1 : (cn : Int) ≤ q := by omega
              have i2 : (lo : Int) ≤ q := by omega
              go_wp2_with fail
              refine (Cg.out _ HLr.out).mono ?_
              rintro e w4 ⟨rfl, hf4⟩
              first | rw [Hlog.out] | skip
              have Hl4 := Lib.hid (HLr.out.fr hf4); have F4 := Lib.hid (HF.out.trans0 hf4.none); clear hf4
              cases hb : fairB L (k : Int) with
              | false =>
                have Hfk := Lib.hid hb; clear hb
                go_wp2_with fail
                refine (Cf.out _ (k : Int) Hl4.out).mono ?_
                rintro e w5 ⟨rfl, hf5⟩
                rw [Hfk.out]
                have Hl5 := Lib.hid (Hl4.out.fr hf5); have F5 := Lib.hid (F4.out.trans0 hf5.none); clear hf5
                have Hl6 := Hl5; have F6 := F5; obtain ⟨w6, hw6⟩ : ∃ x, x = w5 := ⟨_, rfl⟩; subst hw6
                go_wp2_with fail
                refine (Cf.out _ ((lo : Int) + 1) Hl6.out).mono ?_
                rintro e w7 ⟨rfl, hf7⟩
                rw [Hlo1.out]
                have Hl7 := Lib.hid (Hl6.out.fr hf7); have F7 := Lib.hid (F6.out.trans0 hf7.none); clear hf7
                by_cases hlo0 : lo < 1
                · have hlo0' : (lo : Int) < 1 := by omega
                  go_wp2_with fail
                  refine (fair_awake w7).mono ?_
                  rintro e w9 ⟨rfl, hf9⟩
                  go_wp2_with fail
                  go_ret
                  exact ⟨rfl, Hend.out _ _ F7.out hf9⟩
                · have hlo0' : ¬ (lo : Int) < 1 := by omega
                  have hlf := Hlo2.out (by omega)
                  have Hlf2 := Lib.hid hlf; clear hlf
                  go_wp2_with fail
                  refine (Cf.out _ (lo : Int) Hl7.out).mono ?_
                  rintro e w8 ⟨rfl, hf8⟩
                  rw [Hlf2.out]
                  have F8 := Lib.hid (F7.out.trans0 hf8.none); clear hf8
                  go_wp2_with fail
                  refine (fair_awake w8).mono ?_
                  rintro e w9 ⟨rfl, hf9⟩
                  go_wp2_with fail
                  go_ret
                  exact ⟨rfl, Hend.out _ _ F8.out hf9⟩
              | true =>
                have Hfk := Lib.hid hb; clear hb
                have Hfk1 := Lib.hid (Hfk0.out Hfk.out)
                go_wp2_with fail
                refine (Cf.out _ (k : Int) Hl4.out).mono ?_
                rintro e w5 ⟨rfl, hf5⟩
                rw [Hfk.out]
                have Hl5 := Lib.hid (Hl4.out.fr hf5); have F5 := Lib.hid (F4.out.trans0 hf5.none); clear hf5
                go_wp2_with fail
                refine (Cf.out _ ((k : Int) + 1) Hl5.out).mono ?_
                rintro e w6 ⟨rfl, hf6⟩
                rw [Hfk1.out]
                have Hl6 := Lib.hid (Hl5.out.fr hf6); have F6 := Lib.hid (F5.out.trans0 hf6.none); clear hf6
                go_wp2_with fail
                refine (Cf.out _ ((lo : Int) + 1) Hl6.out).mono ?_
                rintro e w7 ⟨rfl, hf7⟩
                rw [Hlo1.out]
                have Hl7 := Lib.hid (Hl6.out.fr hf7); have F7 := Lib.hid (F6.out.trans0 hf7.none); clear hf7
                by_cases hlo0 : lo < 1
                · have hlo0' : (lo : Int) < 1 := by omega
                  go_wp2_with fail
                  refine (fair_awake w7).mono ?_
                  rintro e w9 ⟨rfl, hf9⟩
                  go_wp2_with fail
                  go_ret
                  exact ⟨rfl, Hend.out _ _ F7.out hf9⟩
                · have hlo0' : ¬ (lo : Int) < 1 := by omega
                  have hlf := Hlo2.out (by omega)
                  have Hlf2 := Lib.hid hlf; clear hlf
                  go_wp2_with fail
                  refine (Cf.out _ (lo : Int) Hl7.out).mono ?_
                  rintro e w8 ⟨rfl, hf8⟩
                  rw [Hlf2.out]
                  have F8 := Lib.hid (F7.out.trans0 hf8.none); clear hf8
                  go_wp2_with fail
                  refine (fair_awake w8).mono ?_
                  rintro e w9 ⟨rfl, hf9⟩
                  go_wp2_with fail
                  go_ret
                  exact ⟨rfl, Hend.out _ _ F8.out hf9⟩

theorem fairPlayed_walk (n : Int) (v : Value) (l : List Int) (k : Int) (w : World) (w0 : (Lit.int .i64 n).wf = true) (h : IsInts w v l) (w2 : (Lit.int .i64 k).wf = true) :
    Calls Try.prog 12 #[.int .i64 n, v, .int .i64 k] w fun e w' => e = .returned (.bool true) ∧ Below w.heap.size w w' := by
  clear w0 w2
  by_cases hb : n < 0 ∨ 5 < n ∨ 40 < l.length ∨ k < 1 ∨ 60 < k
  · exact fairPlayed_bad n v l k w h hb
  · obtain ⟨n, rfl⟩ := Int.eq_ofNat_of_zero_le (show 0 ≤ n by omega)
    obtain ⟨k, rfl⟩ := Int.eq_ofNat_of_zero_le (show 0 ≤ k by omega)
    exact fairPlayed_good n v l k w h (by omega) (by omega) (by omega) (by omega)

/-! The row: out of the walk above. -/
namespace fairPlayed
open Go.ChangeShapes Go.WideShapes Go.ChangeAt Go.RowKit
open Go.ChangeMaps (open_string shut_string)
theorem own : ownKnob Try.prog.godebug = none := by kernel_rfl
theorem laidOut : laidOutB Try.prog = true := by kernel_rfl
set_option maxRecDepth 100000 in
theorem lifted (os : Os) (started : os.Started) (H : Type) (enc : TypeId × Value → H) :
    ReturnsInHanded {} Try.checked os 12 .any (Rows.fairPlayedSpec.pre6 enc Try.prog Try.f12 Rows.fairPlayedRow.domain false) (Rows.fairPlayedSpec.post enc Try.prog Try.f12 false true false false) := by
  refine returnsInHanded_of_change (C := Try.checked) own started (by kernel_rfl) Try.func12
    (ChangeSpec.witness6 (enc := enc) (C := Try.checked) false ⟨#[], #[.int .i64 0, .slice none 0 0, .int .i64 0], []⟩ 8 (by kernel_rfl) (by kernel_rfl) (by kernel_rfl) (by kernel_rfl)) ?_
  intro W base args ds gs before hval0 hW hcnd _
  have hval : ∀ (j : Nat) t v, Try.f12.params[j]? = some t → args[j]? = some v → Value.okWide Try.prog W .any base t v := hval0
  have hW' := hW
  obtain ⟨p, q, hA0, hV, rfl, hfz, hnd⟩ := hW
  have hA : DataW.TrodAll enc Try.prog W 0 (fun _ => true) true Try.f12.params.toList args.toList ds p := hA0
  rw [Try.params12] at hA hval
  obtain ⟨v0, vs0, d0, ds0, p0, q0, hargs, rfl, rfl, h0, r0⟩ := trodAll_cons hA
  obtain ⟨v1, vs1, d1, ds1, p1, q1, rfl, rfl, rfl, h1, r1⟩ := trodAll_cons r0
  obtain ⟨v2, vs2, d2, ds2, p2, q2, rfl, rfl, rfl, h2, r2⟩ := trodAll_cons r1
  obtain ⟨rfl, rfl, rfl⟩ := trodAll_nil r2
  obtain rfl : args = #[v0, v1, v2] := by cases args; simp_all
  obtain ⟨rfl, rfl⟩ := trodVars_none hV
  obtain ⟨a0, rfl, rfl, rfl, w0⟩ := open_int Try.underlying3 (hval 0 3 v0 rfl rfl) h0
  have k1 := h1
  have lt1 : ∀ x ∈ p1, x.block < W.heap.size := by obtain ⟨m, hm⟩ := k1; exact DataW.trod_lt m _ _ _ hm
  obtain ⟨x1, g1⟩ := opn_ints (hval 1 28 v1 rfl rfl) h1
  obtain ⟨a2, rfl, rfl, rfl, w2⟩ := open_int Try.underlying3 (hval 2 3 v2 rfl rfl) h2
  clear hA0 hval0
  refine (fairPlayed_walk a0 v1 x1 a2 W w0 g1 w2).mono fun e W' ⟨he, bel⟩ => ?_
  subst he
  exact ⟨_, rfl, _, _, _, [], _, [], hW', trodAll_mk1 (shut_bool Try.underlying4 _), (trodAll_cons_mk (shut_int Try.underlying3 w0) (trodAll_cons_mk (Below.trod laidOut (by kernel_rfl) (of_decide_eq_true (by kernel_rfl)) k1 bel lt1) (trodAll_cons_mk (shut_int Try.underlying3 w2) trodAll_mk0))), rfl, bel.frame _, fun h => by cases h⟩
theorem over : Rows.fairPlayedRow.holds Try.pinned (OpenSpec.ofChange Rows.fairPlayedSpec) :=
  OpenClaim.holds_of_wide 12 Try.f12 rfl rfl rfl rfl rfl rfl rfl ⟨rfl, rfl, rfl, rfl, rfl⟩ rfl rfl rfl rfl rfl (by kernel_rfl) Try.func12 (by kernel_rfl)
    (of_decide_eq_true (by kernel_rfl)) (by unfold Func.isWrapper; first | (rw [if_pos (by decide +kernel)]; kernel_rfl) | (rw [if_neg (by decide +kernel)]; exact ⟨rfl, rfl⟩))
    (fun os started H enc _ => lifted os started H enc)
end fairPlayed
/-- THE STATEMENT. -/
theorem fairPlayed_holds : Rows.FairPlayedSaid := fairPlayed.over
#print axioms fairPlayed_holds
end Go.Proofs.Ytaghnlmfhfbhhaa
