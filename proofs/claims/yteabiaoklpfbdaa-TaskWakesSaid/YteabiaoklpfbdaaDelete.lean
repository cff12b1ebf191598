/- What slices.Delete (of one element) and slices.Clone do at whole numbers. -/
import Derived.Test.YteabiaoklpfbdaaSlices
import Derived.Test.YteabiaoklpfbdaaAlike
import Derived.Lib.SliceRun
import Derived.WalkSpells
set_option linter.unusedVariables false
set_option linter.unusedSimpArgs false
namespace Go.Proofs.Yteabiaoklpfbdaa
open Go.RowKit
set_option maxRecDepth 100000
theorem Try.info_int' : (Try.prog.info? 3).map (fun i => (i.zero, i.size, i.bytes)) = some (some (.int .i64 0), 1, 8) := by kernel_rfl
theorem Try.zeroInt (w : World) : (zeroValue 3).run Try.prog w = .ok (.int .i64 0) w := by kernel_rfl

set_option maxHeartbeats 2000000 in
theorem delete_ints (w : World) (S : Nat → Prop) (v : Value) (l : List Int) (n i : Nat) (hn : l.length = n) (hi : i < n) (h : Sl w S 3 1 v n (ints l)) :
    Calls Try.prog 45 #[v, .int .i64 (i : Int), .int .i64 ((i : Int) + 1)] w fun e w' => ∃ v', e = .returned v' ∧ Fr S w w' ∧ Sl w' S 3 1 v' (n - 1) (ints (l.eraseIdx i)) := by
  obtain ⟨i0, hi0, hz0, hz1, hz2⟩ := info_parts Try.info_int'
  rcases h.2 with ⟨_, h0⟩ | ⟨g, off, cap, blk, rfl, hg, hb, hnc, hcm, hbs, hcell⟩
  · omega
  have hcell' : ∀ j, j < n → w.cell? ⟨g, off + j, none⟩ = some (.int .i64 (l.getD j 0)) := fun j hj => blk_cell hb _ (hcell j _ (ints_get (by omega)))
  have hfz : ∀ j, w.frozen? ⟨g, j, none⟩ = false := fun j => blk_froz hb j
  obtain ⟨news, hnews⟩ : ∃ news, news = (ints l).drop (i + 1) := ⟨_, rfl⟩
  have hlen : news.length = n - (i + 1) := by rw [hnews]; simp [hn]
  obtain ⟨A, hA, hsrc⟩ : ∃ A : Addr, (if cap = i + 1 then some (⟨g, off, none⟩ : Addr) else some ⟨g, off + (i + 1), none⟩) = some A ∧ Hid (∀ t u, news[t]? = some u → w.drew.cell? (A.add t) = some u) := by
    by_cases h : cap = i + 1
    · refine ⟨⟨g, off, none⟩, by simp [h], fun t u hu => ?_⟩
      have h0 : news.length = 0 := by rw [hlen]; omega
      rw [List.length_eq_zero_iff.1 h0] at hu
      simp at hu
    · refine ⟨⟨g, off + (i + 1), none⟩, by simp [h], fun t u hu => ?_⟩
      rw [hnews, List.getElem?_drop] at hu
      rw [Addr.add_lit, Nat.add_assoc]
      exact blk_cell hb _ (hcell _ u hu)
  have s1 : Hid (news.length = (n - (i + 1)) * 1) := by rw [Nat.mul_one]; exact hlen
  have s2 : Hid (∀ u ∈ news, u.oneCell' = true) := by
    intro u hu
    rw [hnews] at hu
    obtain ⟨x, _, rfl⟩ := List.mem_map.1 (List.mem_of_mem_drop hu)
    rfl
  have s3 : Hid (∀ t, t < news.length → (w.drew.cell? ⟨g, off + i * 1 + t, none⟩).isSome = true ∧ w.drew.frozen? ⟨g, off + i * 1 + t, none⟩ = false) := by
    intro t ht
    rw [hlen] at ht
    rw [Nat.mul_one, Nat.add_assoc]
    exact ⟨by show (w.cell? _).isSome = true; rw [hcell' _ (by omega)]; rfl, hfz _⟩
  obtain ⟨W1, hW1⟩ : ∃ W1, W1 = w.drew.setCells g (off + i * 1) news := ⟨_, rfl⟩
  obtain ⟨blk1, q1, q2, q3, q4⟩ := setCells_blk g 3 (0, 0) news (off + i * 1) w.drew blk hb (by omega)
  have hfr1 : Fr S w W1 := by rw [hW1]; exact (Fr.refl S w).drew.trans0 ((setCells_fr g news _ w.drew).mono fun k _ e => by rw [e]; exact hg)
  rw [← hW1] at q1
  have e1 : i + (n - (i + 1)) = n - 1 := by omega
  have e2 : n - (n - 1) = 1 := by omega
  have hcl : ∀ ty, (Builtin.clear_ #[22] ty #[.slice (some ⟨g, off + (i + (n - (i + 1))), none⟩) (n - (i + (n - (i + 1)))) (cap - (i + (n - (i + 1))))]).run Try.prog W1 = .ok (.tuple #[]) (W1.setCells g (off + (i + (n - (i + 1)))) (List.replicate (n - (i + (n - (i + 1)))) (.int .i64 0))) :=
    fun ty => Lib.run_clear_slice W1 _ _ ty _ Try.underlying22 Try.zeroInt rfl rfl g (off + (i + (n - (i + 1)))) _ _ (by omega) (fun t ht => by
      have hlt : off + (i + (n - (i + 1))) + t < blk1.size := by omega
      rw [blk_cell q1 _ (Array.getElem?_eq_getElem hlt)]; rfl) (fun t ht => blk_froz q1 _)
  have hW : Hid (W1 = w.drew.setCells g (off + i * 1) news) := hW1
  have hic : i ≤ cap := by omega
  have hjc : i + 1 ≤ cap := by omega
  unfold maxLen at hcm
  have Hb1 := Lib.hid q1; have Hfr1 := Lib.hid hfr1; have Hbs := Lib.hid hbs; have Q2 := Lib.hid q2; have Q3 := Lib.hid q3; have Q4 := Lib.hid q4; have Hcell := Lib.hid hcell; have Hnews := Lib.hid hnews; have HL := Lib.hid hlen; have E1 := Lib.hid e1; have E2 := Lib.hid e2; have Hn := Lib.hid hn
  clear hW1 hb hcell hcell' hfz hnews hlen h q1 q2 q3 q4 hfr1 hbs e1 e2 hn
  have hi1 : ((i : Int) == (i : Int) + 1) = false := by simp; omega
  have hi2 : (i : Int) + 1 ≤ (n : Int) := by omega
  have hi3 : (0 : Int) ≤ (i : Int) + 1 := by omega
  go_enter Try.func45, Try.ntmps45
  go_wp2_with fail
  go_region_law (refine step_append_room rfl (.tmp 22) (.tmp 25) 22 rfl 3 i0 1 Try.underlying22 hi0 hz1 g off i cap (by simp [Act.eval, Act.put]) A (n - (i + 1)) (cap - (i + 1)) news (by simp [Act.eval, Act.put]) s1.out hsrc.out s2.out (by omega) s3.out ?_; rw [← hW.out])
  go_wp2
  go_ret
  rw [E1.out, E2.out]
  obtain ⟨blk2, r1, r2, r3, _⟩ := setCells_blk g 3 (0, 0) (List.replicate 1 (.int .i64 0)) (off + (n - 1)) W1 blk1 Hb1.out (by have := Hbs.out; have := Q2.out; simp; omega)
  refine ⟨_, rfl, Hfr1.out.trans0 ((setCells_fr g _ _ W1).mono fun k _ e => by rw [e]; exact hg), ⟨by simp [List.length_eraseIdx, Hn.out, hi], .inr ⟨g, off, cap, blk2, ?_, hg, r1, by omega, by unfold maxLen; omega, by have := Hbs.out; have := Q2.out; omega, fun j u hj => ?_⟩⟩⟩
  · rfl
  · have hj1 := (List.getElem?_eq_some_iff.1 hj).1
    simp [List.length_eraseIdx, Hn.out, hi] at hj1
    rw [r3 _ (by omega)]
    rw [List.getElem?_map, List.getElem?_eraseIdx] at hj
    by_cases hji : j < i
    · rw [if_pos hji] at hj
      rw [Q3.out _ (by omega)]
      exact Hcell.out j u (by rw [List.getElem?_map]; exact hj)
    · rw [if_neg hji] at hj
      have := Q4.out (j - i) u (by rw [Hnews.out, List.getElem?_drop, show i + 1 + (j - i) = j + 1 by omega, List.getElem?_map]; exact hj)
      rwa [show off + i * 1 + (j - i) = off + j by omega] at this

set_option maxHeartbeats 800000 in
theorem clone_ints (w : World) (v : Value) (l : List Int) (n : Nat) (hn : l.length = n) (hb : n ≤ 1000000) (h : Rd w 1 v n (ints l)) :
    Calls Try.prog 47 #[v] w fun e w' => ∃ v', e = .returned v' ∧ Fr Nob w w' ∧ Sl w' (From w.heap.size) 3 1 v' n (ints l) := by
  obtain ⟨hl, _, A, c, rfl, hc1, hc2, hA⟩ := h
  have heq := fun w : World => Lib.run_eql_slice_nil (P := Try.prog) w 22 3
  cases A with
  | none =>
    obtain rfl : n = 0 := by
      rcases Nat.eq_zero_or_pos n with h | h
      · exact h
      · obtain ⟨g, o, h1, _⟩ := hA h; cases h1
    obtain rfl : l = [] := List.eq_nil_of_length_eq_zero hn
    have hk := fun w : World => Lib.run_eql_slice_nil (P := Try.prog) w 22 3 none 0 c 0 0 Try.underlying22
    clear heq hA
    go_enter Try.func47, Try.ntmps47
    go_wp2
    go_ret
    exact ⟨_, rfl, Fr.refl _ _, Sl.nil _ _ _ _⟩
  | some ad =>
    have hk := fun w : World => Lib.run_eql_slice_nil (P := Try.prog) w 22 3 (some ad) n c 0 0 Try.underlying22
    have hnews : ∀ j u, (ints l)[j]? = some u → (w.alloc (.cells #[] 3)).cell? (ad.add j) = some u := fun j u hj => by
      have hjl := (List.getElem?_eq_some_iff.1 hj).1
      obtain ⟨g, o, h1, h2, h3⟩ := hA (by simp at hjl; omega)
      cases h1
      rw [Addr.add_lit]
      exact ((Fr.refl Nob w).alloc _).cell (p := ⟨g, o + j, none⟩) id (h3 j u hj)
    have h0 : Sl (w.alloc (.cells #[] 3)) (From w.heap.size) 3 1 (.slice (some ⟨w.heap.size, 0, none⟩) 0 0) 0 [] :=
      Sl.lit w 3 1 #[] 0 (From w.heap.size) (by simp [From]) (by simp [maxLen]) rfl
    have Hnews := Lib.hid hnews; have H0 := Lib.hid h0; have Hl := Lib.hid hl
    clear heq hA hnews h0 hl
    go_enter Try.func47, Try.ntmps47
    go_wp2_with (at_builtin; refine wpList_append_sl _ rfl _ _ _ rfl (From w.heap.size) 3 _ 1 8 Try.underlying22 Try.info_int' rfl (by omega) (.slice (some ⟨w.heap.size, 0, none⟩) 0 0) 0 [] rfl H0.out ad n c (ints l) rfl Hl.out Hnews.out (ints_oneCell .i64 l) (by unfold maxLen; omega) (by omega) ?_; intro v1 w1 hs1 hf1)
    obtain ⟨A1, c1, rfl⟩ := hs1.slice
    go_ret
    have hz := hf1.size
    simp at hz
    refine ⟨_, rfl, (((Fr.refl Nob w).alloc (.cells #[] 3)).none.trans0 hf1).mono fun k hk q => by unfold From at q; omega, ?_⟩
    rw [Nat.zero_add] at hs1 ⊢
    exact hs1.mono fun k hk q => by rcases q with q | q; exact q; simp at q; unfold From; omega

/-- A number as a place among so many. -/
theorem script_pick (w : World) (k n : Int) (h : 0 < n) (hn : n ≤ 4611686018427387904) :
    Calls Try.prog 49 #[.int .i64 k, .int .i64 n] w fun e w' => e = .returned (.int .i64 (k % n)) ∧ w = w' := by
  have h3 := Int.tmod_lt_of_pos k h
  have h4 := Int.lt_tmod_of_pos k h
  have h1 : ¬ n < 1 := by omega
  by_cases hneg : k.tmod n < 0
  · have h7 : wrap64 (k.tmod n + n) = k.tmod n + n := by unfold wrap64; omega
    have e1 : k.tmod n + n = k % n := by
      have h5 := Int.tmod_eq_of_lt (a := k.tmod n + n) (b := n) (by omega) (by omega)
      rw [← rnd_eq k n h, h5]
    have H7 := Lib.hid (h7.trans e1); clear h7 e1
    go_enter Try.func49, Try.ntmps49
    go_wp2
    go_ret
    refine ⟨?_, rfl⟩
    first | (show Ending.returned (.int .i64 (wrap64 (k.tmod n + n))) = _; rw [H7.out]) | (show Ending.returned (.int .i64 (k.tmod n + n)) = _; rw [← H7.out]; congr 2; unfold wrap64; omega)
  · have e1 : k.tmod n = k % n := by
      have h5 := Int.tmod_eq_of_lt (a := k.tmod n) (b := n) (by omega) (by omega)
      rw [← rnd_eq k n h, Int.tmod_eq_emod_of_nonneg (a := k.tmod n + n) (by omega), Int.add_emod_right, ← Int.tmod_eq_emod_of_nonneg (by omega), h5]
    have H7 := Lib.hid e1; clear e1
    go_enter Try.func49, Try.ntmps49
    go_wp2
    go_ret
    refine ⟨?_, rfl⟩
    show Ending.returned (.int .i64 (k.tmod n)) = _
    rw [H7.out]
end Go.Proofs.Yteabiaoklpfbdaa
