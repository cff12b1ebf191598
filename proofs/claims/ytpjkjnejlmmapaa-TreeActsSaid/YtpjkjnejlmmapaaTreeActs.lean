/- TreeActs answers true whatever the acts are; its argument reads as it did: no condition. -/
import Derived.Test.YtpjkjnejlmmapaaTreeFt
import Derived.Test.YtpjkjnejlmmapaaTreeDet
import Derived.Test.YtpjkjnejlmmapaaRefTree
import Derived.Test.YtpjkjnejlmmapaaOpenActs14
import Derived.Deep.RegionWith
import Derived.Deep.DeepCutAuto
set_option linter.unusedVariables false
set_option linter.unusedSimpArgs false
namespace Go.Proofs.Ytpjkjnejlmmapaa
open Go.RowKit
set_option maxRecDepth 100000

theorem RefT.hdr {w : World} {S : Nat → Prop} {b : Nat} {ns : List Nd} (h : RefT w S b ns) : ∃ A c, w.cell? ⟨b, 0, none⟩ = some (.slice A ns.length c) ∧ b < w.heap.size := by
  obtain ⟨v, hS, hb, hs, ho, hn⟩ := h
  obtain ⟨A, c, rfl⟩ := hs.slice
  exact ⟨A, c, blk_cell hb 0 rfl, lt_of_block hb⟩
theorem RefT.node {w : World} {S : Nat → Prop} {b : Nat} {ns : List Nd} (h : RefT w S b ns) (i : Nat) (p : Int) (l : Bool) (hi : ns[i]? = some (p, l)) : ∃ g off c, w.cell? ⟨b, 0, none⟩ = some (.slice (some ⟨g, off, none⟩) ns.length c) ∧ ns.length ≤ c ∧ c ≤ maxLen ∧ w.cell? ⟨g, off + i * 2, none⟩ = some (.int .i64 p) ∧ w.cell? ⟨g, off + i * 2 + 1, none⟩ = some (.bool l) := by
  obtain ⟨v, hS, hb, hs, ho, hn⟩ := h
  have hil := (List.getElem?_eq_some_iff.1 hi).1
  obtain ⟨q1, q2⟩ := rn_get ns i p l hi
  obtain ⟨g, off, cap, rfl, hSg, hg, hcap, hmax, hcell, _⟩ := hs.form (by omega)
  have e1 := hcell _ _ q1
  have e2 := hcell _ _ q2
  rw [← Nat.add_assoc] at e2
  exact ⟨g, off, cap, blk_cell hb 0 rfl, hcap, hmax, e1, e2⟩
theorem acts14_at (l : List Act14) (k : Nat) (h : k < l.length) : ∃ x y z, (l.flatMap act14En)[k * 3]? = some (.int .i64 x) ∧ (l.flatMap act14En)[k * 3 + 1]? = some (.int .i64 y) ∧ (l.flatMap act14En)[k * 3 + 2]? = some (.bool z) := by
  have h0 : l[k]? = some l[k] := by simp [h]
  exact ⟨_, _, _, flat_get (sz := 3) act14En l (fun _ _ => rfl) k 0 _ h0 (by omega), flat_get (sz := 3) act14En l (fun _ _ => rfl) k 1 _ h0 (by omega), flat_get (sz := 3) act14En l (fun _ _ => rfl) k 2 _ h0 (by omega)⟩

set_option maxHeartbeats 1000000 in
theorem treeActs_bad (v : Value) (l : List Act14) (w : World) (h : IsActs14 w v l) (hb : 60 < l.length) :
    Calls Try.prog 10 #[v] w fun e w' => e = .returned (.bool true) ∧ Below w.heap.size w w' := by
  obtain ⟨⟨_, hl, A, c, rfl, hc1, hc2, hA⟩, hwf⟩ := h
  unfold maxLen at hl
  clear hA hwf
  generalize l.length = m at *
  go_enter Try.func10, Try.ntmps10
  go_wp2_with fail
  refine (tree_awake w).mono ?_
  rintro e w' ⟨rfl, hf⟩
  go_wp2_with fail
  go_ret
  exact ⟨rfl, hf.below (Nat.le_refl _) fun _ q => q.elim⟩

set_option maxHeartbeats 16000000 in
theorem treeActs_good (v : Value) (l : List Act14) (w : World) (h : IsActs14 w v l) (hn : l.length ≤ 60) :
    Calls Try.prog 10 #[v] w fun e w' => e = .returned (.bool true) ∧ Below w.heap.size w w' := by
  obtain ⟨⟨_, hl, A, c, rfl, hc1, hc2, hA⟩, _⟩ := h
  have HA := Lib.hid hA
  have hd := acts14_at l
  have HD := Lib.hid hd
  generalize hN : l.length = N at *
  clear hA hl hd
  unfold maxLen at hc2
  have g3 : ¬ (60 : Int) < N := by omega
  go_enter Try.func10, Try.ntmps10
  go_wp2_with fail
  refine (tree_new w).mono ?_
  rintro e w1 ⟨b, rfl, hf1, hr1⟩
  have F1 := Lib.hid (hf1.none (S := From w.heap.size))
  have R1 := Lib.hid hr1
  have z1 := hf1.size
  clear hf1 hr1
  go_wp2_with fail
  obtain ⟨w2, hw2⟩ : ∃ w2, w2 = w1.alloc (.cells #[.slice none 0 0] 64) := ⟨_, rfl⟩
  have hf2 : Fr Nob w1 w2 := by rw [hw2]; exact (Fr.refl _ _).alloc _
  have hm2 : RefT w2 (fun k => k = w1.heap.size) w1.heap.size [] := by
    rw [hw2]
    exact ⟨.slice none 0 0, rfl, heap_alloc_new _ _, Sl.nil _ _ _ _, fun i x hx => by simp at hx, by simp⟩
  have hz2 : w2.heap.size = w1.heap.size + 1 := by rw [hw2]; simp
  rw [← hw2]
  have F2 := Lib.hid (F1.out.trans0 hf2.none)
  have hR2 := R1.out.fr0 hf2
  obtain ⟨bm, hbm⟩ : ∃ bm, bm = w1.heap.size := ⟨_, rfl⟩
  have T2 : Hid (Two w.heap.size w2 (fun k => w.heap.size ≤ k ∧ k < w1.heap.size) (fun k => k = w1.heap.size)) := ⟨fun k q => ⟨q.1, by omega⟩, fun k q => by omega, fun k p q => by omega⟩
  rw [← hbm] at hm2 hR2 T2 ⊢
  have M2 := Lib.hid hm2
  have R2 := Lib.hid hR2
  clear hf2 hw2 hm2 hR2 hz2 F1 R1 hbm z1
  go_loopw [5] (fun i wr => ∃ (j : Nat) (ns : List Nd) (n : Nat) (S T : Nat → Prop), i = .int .i64 j ∧ j ≤ N ∧ ns.length = n ∧ n ≤ j ∧ Fr (From w.heap.size) w wr ∧ Two w.heap.size wr S T ∧ TreeAt wr S b ns ∧ RefT wr T bm ns) (fun i _ => N - (intOf i).toNat)
  case atStart => exact ⟨0, [], 0, _, _, rfl, Nat.zero_le _, rfl, Nat.le_refl _, F2.out, T2.out, R2.out, M2.out⟩
  case round =>
    obtain ⟨j, ns, n, S, T, rfl, hj, hnn, hnj, hfr, htw, hr, hm⟩ := hrel
    have hz := hfr.size
    have Hfr := Lib.hid hfr; have Htw := Lib.hid htw; have Hr := Lib.hid hr; have Hm := Lib.hid hm; have Hnn := Lib.hid hnn
    clear hfr htw hr hm hnn F2 R2 T2 M2
    by_cases hlt : j < N
    · obtain ⟨g, o, rfl, hg, hc⟩ := HA.out (by omega)
      obtain ⟨kd, na, ys, q0, q1, q2⟩ := HD.out j hlt
      have x0 := Hfr.out.cell (p := ⟨g, o + j * 3, none⟩) (by simp [From]; omega) (hc _ _ q0)
      have x1 := Hfr.out.cell (p := ⟨g, o + (j * 3 + 1), none⟩) (by simp [From]; omega) (hc _ _ q1)
      have x2 := Hfr.out.cell (p := ⟨g, o + (j * 3 + 2), none⟩) (by simp [From]; omega) (hc _ _ q2)
      rw [← Nat.add_assoc] at x1 x2
      clear hc q0 q1 q2
      obtain ⟨wa, hwa⟩ : ∃ wa, wa = wr.alloc (.cells #[.int .i64 kd, .int .i64 na, .bool ys] 66) := ⟨_, rfl⟩
      have hfa : Fr Nob wr wa := by rw [hwa]; exact (Fr.refl _ _).alloc _
      have hba : wa.heap[wr.heap.size]? = some (.cells #[.int .i64 kd, .int .i64 na, .bool ys] 66 (0, 0)) := by rw [hwa]; exact heap_alloc_new _ _
      obtain ⟨ab, hab⟩ : ∃ ab, ab = wr.heap.size := ⟨_, rfl⟩
      have Hwa := Lib.hid hwa; have Hfa := Lib.hid (Hfr.out.trans0 hfa.none); have Hra := Lib.hid (Hr.out.fr0 hfa); have Hma := Lib.hid (Hm.out.fr0 hfa); have Hta := Lib.hid (Htw.out.fr hfa)
      rw [← hab] at hba
      have Hba := Lib.hid hba; have Hab := Lib.hid hab
      have hSab : ∀ k, S k → k ≠ ab := fun k q e => by have := (Htw.out.l k q).2; omega
      have hTab : ∀ k, T k → k ≠ ab := fun k q e => by have := (Htw.out.r k q).2; omega
      have HSab := Lib.hid hSab; have HTab := Lib.hid hTab
      have hza := Hfa.out.size
      clear hwa hfa hba hab hSab hTab
      have hc0 := blk_cell Hba.out 0 rfl
      have hc1 := blk_cell Hba.out 1 rfl
      have hc2' := blk_cell Hba.out 2 rfl
      have a0 : wa.cell? ⟨ab, 0, none⟩ = some (.int .i64 kd) := hc0
      have a1 : wa.cell? ⟨ab, 1, none⟩ = some (.int .i64 na) := hc1
      have a2 : wa.cell? ⟨ab, 2, none⟩ = some (.bool ys) := hc2'
      clear hc0 hc1 hc2'
      have A1 := Lib.hid a1; have A2 := Lib.hid a2
      by_cases hk1 : kd = 1
      · subst hk1
        by_cases hbad : na < -1 ∨ (n : Int) ≤ na
        · have hbad' : na < -1 ∨ (ns.length : Int) ≤ na := by rw [Hnn.out]; exact hbad
          have Hbad := Lib.hid hbad'
          clear hbad hbad'
          go_wp2_with fail
          rw [← Hwa.out, ← Hab.out]
          clear x0 x1 x2
          refine (tree_add_bad _ S b ns na ys Hra.out Hbad.out).mono ?_
          rintro e w4 ⟨rfl, hf4⟩
          have b0 := hf4.cell id a0
          have b1 := hf4.cell id a1
          have b2 := hf4.cell id a2
          have Hf4 := Lib.hid (Hfa.out.trans0 hf4.none); have Hr4 := Lib.hid (Hra.out.fr0 hf4); have Hm4 := Lib.hid (Hma.out.fr0 hf4); have Ht4 := Lib.hid (Hta.out.fr hf4)
          clear hf4 a0 a1 a2
          go_wp2_with fail
          refine (ref_tree_bad _ T bm ns na ys Hm4.out Hbad.out).mono ?_
          rintro e w5 ⟨rfl, hf5⟩
          have b0 := hf5.cell id b0
          have Hf5 := Lib.hid (Hf4.out.trans0 hf5.none); have Hr5 := Lib.hid (Hr4.out.fr0 hf5); have Hm5 := Lib.hid (Hm4.out.fr0 hf5); have Ht5 := Lib.hid (Ht4.out.fr hf5); have Hn5 := Hnn
          clear hf5 b1 b2
          obtain ⟨Al, cl, hdr, _⟩ := Hm5.out.hdr
          rw [Hn5.out] at hdr
          have hlen := fun q : Nat => (tree_len (w5.drewN q) S b ns n Hn5.out (Hr5.out.fr0 ((Fr.refl Nob w5).drewN q))).mono fun e w' h => (⟨h.1, h.2.symm⟩ : e = .returned (.int .i64 (n : Int)) ∧ w' = w5.drewN q)
          have Hlen := Lib.hid hlen
          clear hlen
          go_wp2_with fail
          go_quiet ((go_at_call 41; exact Calls.quiet_of_same (Hlen.out _)))
          go_wp2_with fail
          go_roundw
          case rel => exact ⟨j + 1, ns, n, S, T, by go_num, by omega, Hn5.out, by omega, Hf5.out.drewN _, (Ht5.out.fr ((Fr.refl Nob _).drewN _)), Hr5.out.fr0 ((Fr.refl Nob _).drewN _), Hm5.out.fr0 ((Fr.refl Nob _).drewN _)⟩
          case measure => simp [intOf]; omega
        · by_cases hlone : na = -1 ∨ ys = false
          · have hfin : (ys && decide (0 ≤ na)) = false := by rcases hlone with h | h <;> simp [h]
            have Hlone := Lib.hid hlone; have Hfin := Lib.hid hfin
            clear hlone hfin
            go_wp2_with fail
            rw [← Hwa.out, ← Hab.out]
            clear x0 x1 x2
            refine (tree_add_lone _ S b ns na ys n Hnn.out Hra.out (by omega) (by omega) (by omega) Hlone.out).mono ?_
            rintro e w4 ⟨rfl, hf4, hr4⟩
            have b0 := hf4.cell (p := ⟨ab, 0, none⟩) (fun q => HSab.out _ q rfl) a0
            have b1 := hf4.cell (p := ⟨ab, 1, none⟩) (fun q => HSab.out _ q rfl) a1
            have b2 := hf4.cell (p := ⟨ab, 2, none⟩) (fun q => HSab.out _ q rfl) a2
            have Hf4 := Lib.hid (Hfa.out.trans0 (hf4.fromL Hta.out)); have Hr4 := Lib.hid hr4; have Hm4 := Lib.hid (Hma.out.fr hf4 fun k p q => Hta.out.dis k q p); have Ht4 := Lib.hid (Hta.out.growL hf4.size hza)
            clear hf4 hr4 a0 a1 a2
            go_wp2_with fail
            refine (ref_tree_add _ T bm ns na ys n Hnn.out Hm4.out (by omega) (by omega) (by omega)).mono ?_
            rintro e w5 ⟨rfl, hf5, hm5⟩
            rw [Hfin.out] at hm5
            have b0 := hf5.cell (p := ⟨ab, 0, none⟩) (fun q => HTab.out _ q rfl) b0
            have Hf5 := Lib.hid (Hf4.out.trans0 (hf5.fromR Ht4.out)); have Hr5 := Lib.hid (Hr4.out.fr hf5 fun k p q => Ht4.out.dis k p q); have Hm5 := Lib.hid hm5; have Ht5 := Lib.hid (Ht4.out.growR hf5.size Hf4.out.size)
            have hn5 : ((ns ++ [(na, false)])).length = n + 1 := by rw [List.length_append, Hnn.out]; rfl
            have Hn5 := Lib.hid hn5
            clear hf5 hm5 hn5 b1 b2
            obtain ⟨Al, cl, hdr, _⟩ := Hm5.out.hdr
            rw [Hn5.out] at hdr
            have hlen := fun q : Nat => (tree_len (w5.drewN q) (And' S wa w4) b (ns ++ [(na, false)]) (n + 1) Hn5.out (Hr5.out.fr0 ((Fr.refl Nob w5).drewN q))).mono fun e w' h => (⟨h.1, h.2.symm⟩ : e = .returned (.int .i64 ((n + 1) : Int)) ∧ w' = w5.drewN q)
            have Hlen := Lib.hid hlen
            clear hlen
            go_wp2_with fail
            go_quiet ((go_at_call 41; exact Calls.quiet_of_same (Hlen.out _)))
            go_wp2_with fail
            go_roundw
            case rel => exact ⟨j + 1, (ns ++ [(na, false)]), (n + 1), (And' S wa w4), (And' T w4 w5), by go_num, by omega, Hn5.out, by omega, Hf5.out.drewN _, (Ht5.out.fr ((Fr.refl Nob _).drewN _)), Hr5.out.fr0 ((Fr.refl Nob _).drewN _), Hm5.out.fr0 ((Fr.refl Nob _).drewN _)⟩
            case measure => simp [intOf]; omega
          · obtain ⟨p, rfl⟩ := Int.eq_ofNat_of_zero_le (show 0 ≤ na by omega)
            obtain rfl : ys = true := by cases ys; simp at hlone; rfl
            have hfin : (true && decide (0 ≤ (p : Int))) = true := by simp
            have Hfin := Lib.hid hfin
            clear hlone hfin
            go_wp2_with fail
            rw [← Hwa.out, ← Hab.out]
            clear x0 x1 x2
            refine (tree_add_hang _ S b ns p n Hnn.out Hra.out (by omega) (by omega)).mono ?_
            rintro e w4 ⟨rfl, hf4, hr4⟩
            have b0 := hf4.cell (p := ⟨ab, 0, none⟩) (fun q => HSab.out _ q rfl) a0
            have b1 := hf4.cell (p := ⟨ab, 1, none⟩) (fun q => HSab.out _ q rfl) a1
            have b2 := hf4.cell (p := ⟨ab, 2, none⟩) (fun q => HSab.out _ q rfl) a2
            have Hf4 := Lib.hid (Hfa.out.trans0 (hf4.fromL Hta.out)); have Hr4 := Lib.hid hr4; have Hm4 := Lib.hid (Hma.out.fr hf4 fun k p q => Hta.out.dis k q p); have Ht4 := Lib.hid (Hta.out.growL hf4.size hza)
            clear hf4 hr4 a0 a1 a2
            go_wp2_with fail
            refine (ref_tree_add _ T bm ns (p : Int) true n Hnn.out Hm4.out (by omega) (by omega) (by omega)).mono ?_
            rintro e w5 ⟨rfl, hf5, hm5⟩
            rw [Hfin.out] at hm5
            have b0 := hf5.cell (p := ⟨ab, 0, none⟩) (fun q => HTab.out _ q rfl) b0
            have Hf5 := Lib.hid (Hf4.out.trans0 (hf5.fromR Ht4.out)); have Hr5 := Lib.hid (Hr4.out.fr hf5 fun k p q => Ht4.out.dis k p q); have Hm5 := Lib.hid hm5; have Ht5 := Lib.hid (Ht4.out.growR hf5.size Hf4.out.size)
            have hn5 : ((ns ++ [((p : Int), true)])).length = n + 1 := by rw [List.length_append, Hnn.out]; rfl
            have Hn5 := Lib.hid hn5
            clear hf5 hm5 hn5 b1 b2
            obtain ⟨Al, cl, hdr, _⟩ := Hm5.out.hdr
            rw [Hn5.out] at hdr
            have hlen := fun q : Nat => (tree_len (w5.drewN q) (And' S wa w4) b (ns ++ [((p : Int), true)]) (n + 1) Hn5.out (Hr5.out.fr0 ((Fr.refl Nob w5).drewN q))).mono fun e w' h => (⟨h.1, h.2.symm⟩ : e = .returned (.int .i64 ((n + 1) : Int)) ∧ w' = w5.drewN q)
            have Hlen := Lib.hid hlen
            clear hlen
            go_wp2_with fail
            go_quiet ((go_at_call 41; exact Calls.quiet_of_same (Hlen.out _)))
            go_wp2_with fail
            go_roundw
            case rel => exact ⟨j + 1, (ns ++ [((p : Int), true)]), (n + 1), (And' S wa w4), (And' T w4 w5), by go_num, by omega, Hn5.out, by omega, Hf5.out.drewN _, (Ht5.out.fr ((Fr.refl Nob _).drewN _)), Hr5.out.fr0 ((Fr.refl Nob _).drewN _), Hm5.out.fr0 ((Fr.refl Nob _).drewN _)⟩
            case measure => simp [intOf]; omega
      · have e1 : (kd == 1) = false := beq_eq_false_iff_ne.2 hk1
        by_cases hk2 : kd = 2
        · subst hk2
          by_cases hyes : ∃ (i p : Nat), na = (i : Int) ∧ ns[i]? = some ((p : Int), true)
          · obtain ⟨i, p, rfl, hip⟩ := hyes
            have Hip := Lib.hid hip
            have hln : (ns.set i ((p : Int), false)).length = n := by rw [List.length_set]; exact Hnn.out
            have Hln := Lib.hid hln
            clear hip hln e1 hk1
            have HT := Hra; have HR := Hma
            go_wp2_with fail
            rw [← Hwa.out, ← Hab.out]
            clear x0 x1 x2
            have hcE : wa.cell? ⟨ab, 1, none⟩ = some (.int .i64 (i : Int)) := A1.out
            clear a0 a1 a2
            go_region_held3 (fun W => W.cell? ⟨ab, 1, none⟩ = some (.int .i64 (i : Int)))
              (first | exact hcE | assumption)
              ((first
                | (go_at_call 39; refine (tree_off _ S b ns i p (by first | exact HtR.out | exact HtR.out.fr0 (Fr.refl Nob _).drew) Hip.out).mono ?_; rintro e w4 ⟨rfl, hf, hr⟩; have hcN := hf.cell (p := ⟨ab, 1, none⟩) (fun q => HSab.out _ q rfl) hcE; clear hcE; have hcE := hcN; clear hcN; have Ft := Lib.hid (FR.out.trans0 (hf.fromL TR.out)); have Tfin := Lib.hid hr; have Rfin := Lib.hid (HmR.out.fr hf fun k p q => TR.out.dis k q p); have Twfin := Lib.hid (TR.out.fr hf); clear hf hr)
                | (go_at_call 40; refine (ref_tree_off _ T bm ns i p (by first | exact HmT.out | exact HmT.out.fr0 (Fr.refl Nob _).drew) Hip.out).mono ?_; rintro e w4 ⟨rfl, hf, hm⟩; have hcN := hf.cell (p := ⟨ab, 1, none⟩) (fun q => HTab.out _ q rfl) hcE; clear hcE; have hcE := hcN; clear hcN; have Ft := Lib.hid (FT.out.trans0 (hf.fromR TT.out)); have Rfin := Lib.hid hm; have Tfin := Lib.hid (HtT.out.fr hf fun k p q => TT.out.dis k p q); have Twfin := Lib.hid (TT.out.fr hf); clear hf hm)
                | (go_at_call 39; refine (tree_off _ S b ns i p (by first | exact Hra.out | exact Hra.out.fr0 (Fr.refl Nob wa).drew) Hip.out).mono ?_; rintro e w4 ⟨rfl, hf, hr⟩; have hcN := hf.cell (p := ⟨ab, 1, none⟩) (fun q => HSab.out _ q rfl) hcE; clear hcE; have hcE := hcN; clear hcN; have FT := Lib.hid (Hfa.out.drew.trans0 (hf.fromL Hta.out)); have HtT := Lib.hid hr; have HmT := Lib.hid ((Hma.out.fr0 (Fr.refl Nob wa).drew).fr hf fun k p q => Hta.out.dis k q p); have TT := Lib.hid ((Hta.out.fr (Fr.refl Nob wa).drew).fr hf); clear hf hr)
                | (go_at_call 40; refine (ref_tree_off _ T bm ns i p (by first | exact Hma.out | exact Hma.out.fr0 (Fr.refl Nob wa).drew) Hip.out).mono ?_; rintro e w4 ⟨rfl, hf, hm⟩; have hcN := hf.cell (p := ⟨ab, 1, none⟩) (fun q => HTab.out _ q rfl) hcE; clear hcE; have hcE := hcN; clear hcN; have FR := Lib.hid (Hfa.out.drew.trans0 (hf.fromR Hta.out)); have HmR := Lib.hid hm; have HtR := Lib.hid ((Hra.out.fr0 (Fr.refl Nob wa).drew).fr hf fun k p q => Hta.out.dis k p q); have TR := Lib.hid ((Hta.out.fr (Fr.refl Nob wa).drew).fr hf); clear hf hm)))
            all_goals
              have Hf5 := Ft; have Hr5 := Tfin; have Hm5 := Rfin; have Ht5 := Twfin; have Hn5 := Hln
              clear hcE
              obtain ⟨Al, cl, hdr, _⟩ := Hm5.out.hdr
              rw [Hn5.out] at hdr
              have hlen := fun q : Nat => (tree_len (w4.drewN q) S b (ns.set i ((p : Int), false)) n Hn5.out (Hr5.out.fr0 ((Fr.refl Nob w4).drewN q))).mono fun e w' h => (⟨h.1, h.2.symm⟩ : e = .returned (.int .i64 (n : Int)) ∧ w' = w4.drewN q)
              have Hlen := Lib.hid hlen
              clear hlen
              go_wp2_with fail
              go_quiet ((go_at_call 41; exact Calls.quiet_of_same (Hlen.out _)))
              go_wp2_with fail
              go_roundw
              case rel => exact ⟨j + 1, (ns.set i ((p : Int), false)), n, S, T, by go_num, by omega, Hn5.out, by omega, Hf5.out.drewN _, (Ht5.out.fr ((Fr.refl Nob _).drewN _)), Hr5.out.fr0 ((Fr.refl Nob _).drewN _), Hm5.out.fr0 ((Fr.refl Nob _).drewN _)⟩
              case measure => simp [intOf]; omega
          · have hno : na < 0 ∨ (ns.length : Int) ≤ na ∨ ∃ p, ns[na.toNat]? = some (p, false) := by
              by_cases h0 : na < 0
              · exact .inl h0
              · by_cases h1 : (ns.length : Int) ≤ na
                · exact .inr (.inl h1)
                · obtain ⟨i, rfl⟩ := Int.eq_ofNat_of_zero_le (show 0 ≤ na by omega)
                  have hi : i < ns.length := by omega
                  refine .inr (.inr ?_)
                  have hg : ns[i]? = some ns[i] := by simp [hi]
                  cases hq : ns[i] with
                  | mk p lk =>
                    rw [hq] at hg
                    cases lk with
                    | false => exact ⟨p, by simpa using hg⟩
                    | true =>
                      have := (Hr.out.ok.1 i _ hg).2.2 rfl
                      obtain ⟨p', hp'⟩ := Int.eq_ofNat_of_zero_le this
                      simp at hp'
                      exact absurd ⟨i, p', rfl, by rw [hg, hp']⟩ hyes
            have Hno := Lib.hid hno
            clear hyes hno e1 hk1
            go_wp2_with fail
            rw [← Hwa.out, ← Hab.out]
            clear x0 x1 x2
            have hfE : Fr Nob wa wa := Fr.refl _ _
            have hkeep : ∀ W, Fr Nob wa W → Fr Nob wa W ∧ W.cell? ⟨ab, 1, none⟩ = some (.int .i64 na) := fun W h => ⟨h, h.cell id A1.out⟩
            have Hkeep := Lib.hid hkeep
            clear hkeep a0 a1 a2
            go_region_held3 (fun W => Fr Nob wa W ∧ W.cell? ⟨ab, 1, none⟩ = some (.int .i64 na))
              (exact Hkeep.out _ (by first | exact hfE | exact hfE.drew))
              ((first
                | (go_at_call 39; refine (tree_off_no _ S b ns na (Hra.out.fr0 (by first | exact hfE | exact hfE.drew)) Hno.out).mono ?_; rintro e w4 ⟨rfl, hf⟩; have hfN : Fr Nob wa w4 := Fr.trans0 (by first | exact hfE | exact hfE.drew) hf; clear hf hfE; have hfE := hfN; clear hfN)
                | (go_at_call 40; refine (ref_tree_off_no _ T bm ns na (Hma.out.fr0 (by first | exact hfE | exact hfE.drew)) Hno.out).mono ?_; rintro e w4 ⟨rfl, hf⟩; have hfN : Fr Nob wa w4 := Fr.trans0 (by first | exact hfE | exact hfE.drew) hf; clear hf hfE; have hfE := hfN; clear hfN)))
            all_goals
              have Hf5 := Lib.hid (Hfa.out.trans0 hfE.none); have Hr5 := Lib.hid (Hra.out.fr0 hfE); have Hm5 := Lib.hid (Hma.out.fr0 hfE); have Ht5 := Lib.hid (Hta.out.fr hfE); have Hn5 := Hnn
              clear hfE
              obtain ⟨Al, cl, hdr, _⟩ := Hm5.out.hdr
              rw [Hn5.out] at hdr
              have hlen := fun q : Nat => (tree_len (w4.drewN q) S b ns n Hn5.out (Hr5.out.fr0 ((Fr.refl Nob w4).drewN q))).mono fun e w' h => (⟨h.1, h.2.symm⟩ : e = .returned (.int .i64 (n : Int)) ∧ w' = w4.drewN q)
              have Hlen := Lib.hid hlen
              clear hlen
              go_wp2_with fail
              go_quiet ((go_at_call 41; exact Calls.quiet_of_same (Hlen.out _)))
              go_wp2_with fail
              go_roundw
              case rel => exact ⟨j + 1, ns, n, S, T, by go_num, by omega, Hn5.out, by omega, Hf5.out.drewN _, (Ht5.out.fr ((Fr.refl Nob _).drewN _)), Hr5.out.fr0 ((Fr.refl Nob _).drewN _), Hm5.out.fr0 ((Fr.refl Nob _).drewN _)⟩
              case measure => simp [intOf]; omega
        · have e2 : (kd == 2) = false := beq_eq_false_iff_ne.2 hk2
          clear hk1 hk2
          go_wp2_with fail
          rw [← Hwa.out, ← Hab.out]
          have Hf5 := Hfa; have Hr5 := Hra; have Hm5 := Hma; have Ht5 := Hta; have Hn5 := Hnn
          clear a0 a1 a2 x0 x1 x2
          obtain ⟨Al, cl, hdr, _⟩ := Hm5.out.hdr
          rw [Hn5.out] at hdr
          have hlen := fun q : Nat => (tree_len (wa.drewN q) S b ns n Hn5.out (Hr5.out.fr0 ((Fr.refl Nob wa).drewN q))).mono fun e w' h => (⟨h.1, h.2.symm⟩ : e = .returned (.int .i64 (n : Int)) ∧ w' = wa.drewN q)
          have Hlen := Lib.hid hlen
          clear hlen
          go_wp2_with fail
          go_quiet ((go_at_call 41; exact Calls.quiet_of_same (Hlen.out _)))
          go_wp2_with fail
          go_roundw
          case rel => exact ⟨j + 1, ns, n, S, T, by go_num, by omega, Hn5.out, by omega, Hf5.out.drewN _, (Ht5.out.fr ((Fr.refl Nob _).drewN _)), Hr5.out.fr0 ((Fr.refl Nob _).drewN _), Hm5.out.fr0 ((Fr.refl Nob _).drewN _)⟩
          case measure => simp [intOf]; omega
    · obtain rfl : j = N := by omega
      obtain ⟨w3, rfl⟩ : ∃ w3 : World, w3 = wr := ⟨_, rfl⟩
      have hok := Hr.out.ok.1
      have hdrf : ∀ W, Fr Nob w3 W → ∃ A c, W.cell? ⟨bm, 0, none⟩ = some (.slice A n c) := fun W h => by
        obtain ⟨A, c, h1, _⟩ := (Hm.out.fr0 h).hdr
        exact ⟨A, c, by rw [← Hnn.out]; exact h1⟩
      have Hok := Lib.hid hok; have Hdrf := Lib.hid hdrf
      clear hok hdrf
      go_wp2_with fail
      go_loopw [11] (fun iv wz => ∃ x : Int, iv = .int .i64 x ∧ -1 ≤ x ∧ x ≤ (n : Int) + 1 ∧ Fr Nob w3 wz) (fun iv _ => ((n : Int) + 1 - intOf iv).toNat)
      case atStart => exact ⟨-1, rfl, by omega, by omega, Fr.refl _ _⟩
      case round =>
        obtain ⟨wz, rfl⟩ : ∃ wz : World, wz = wr := ⟨_, rfl⟩
        obtain ⟨x, rfl, hx1, hx2, hfz⟩ := hrel
        obtain ⟨Ah, ch, hdrz⟩ := Hdrf.out wz hfz
        have hdr' : ∀ W, Fr Nob wz W → W.cell? ⟨bm, 0, none⟩ = some (.slice Ah n ch) := fun W h => h.cell id hdrz
        have Hdr := Lib.hid hdr'
        have Hfz := Lib.hid hfz
        have Rz := Lib.hid (Hr.out.fr0 hfz)
        have Mz := Lib.hid (Hm.out.fr0 hfz)
        clear hfz hdr'
        by_cases hxn : x ≤ n
        · by_cases hin : 0 ≤ x ∧ x < n
          · obtain ⟨i, rfl⟩ := Int.eq_ofNat_of_zero_le hin.1
            have hi : i < n := by omega
            obtain ⟨p, lk, hip⟩ : ∃ p lk, ns[i]? = some (p, lk) := ⟨ns[i]'(by rw [Hnn.out]; exact hi) |>.1, ns[i]'(by rw [Hnn.out]; exact hi) |>.2, by rw [List.getElem?_eq_getElem (by rw [Hnn.out]; exact hi)]⟩
            have hnode := fun W h => (Mz.out.fr0 (w' := W) h).node i p lk hip
            have Hnode := Lib.hid hnode
            have hwl : (walk ns i).length ≤ n := by have := walk_len ns Hok.out i (by rw [Hnn.out]; exact hi); rw [Hnn.out] at this; exact this
            have hun := fun W (y : Int) h => tree_under W S b ns y i h (by rw [Hnn.out]; exact hi)
            have Hun := Lib.hid hun; have Hip := Lib.hid hip
            obtain ⟨wl, hwle⟩ : ∃ wl, wl = walk ns i := ⟨_, rfl⟩
            obtain ⟨kl, hkle⟩ : ∃ kl, kl = kids ns i := ⟨_, rfl⟩
            obtain ⟨m, hm⟩ : ∃ m, wl.length = m := ⟨_, rfl⟩
            obtain ⟨mk, hmk⟩ : ∃ mk, kl.length = mk := ⟨_, rfl⟩
            rw [← hwle] at Hun hwl
            rw [hm] at hwl
            have Hwe := Lib.hid hwle; have Hke := Lib.hid hkle; have Hme := Lib.hid hm; have Hmk := Lib.hid hmk
            clear hnode hun hip hin hwle hkle hm hmk
            have hi1 : (i : Int) < n := by omega
            have hi2 : (0 : Int) ≤ i := by omega
            go_wp2_with fail
            refine (tree_parent wz _ b ns i p lk Hip.out Rz.out).mono ?_
            rintro e w4 ⟨rfl, hf4⟩
            have hdr4 := Hdr.out w4 hf4
            have F4 := Lib.hid hf4
            clear hf4 hdrz
            go_wp2_with fail
            refine (ref_walk bm ns n i w4 _ (by rw [Hnn.out]; omega) (by rw [Hnn.out]; exact hi) (Mz.out.fr0 F4.out)).mono ?_
            rintro e w5 ⟨vw, rfl, hf5, hs5⟩
            rw [← Hwe.out, Hme.out] at hs5
            obtain ⟨Aw, cw, rfl⟩ := hs5.slice
            have F5 := Lib.hid (F4.out.trans0 hf5)
            have W5 := Lib.hid hs5.rd
            obtain ⟨g5, o5, c5, n0, hcap, hmax, n1, n2⟩ := Hnode.out w5 F5.out
            rw [Hnn.out] at n0 hcap
            unfold maxLen at hmax
            have hpp : (p != p) = false := by simp
            have hlk : (lk != lk) = false := by simp
            clear hf5 hs5 hdr4 F4
            go_wp2_with fail
            refine (tree_kids w5 _ b ns i (by rw [Hnn.out]; exact hi) (Rz.out.fr0 F5.out)).mono ?_
            rintro e w6 ⟨vk, rfl, hf6, hs6⟩
            rw [← Hke.out, Hmk.out] at hs6
            obtain ⟨Ak, ck, rfl⟩ := hs6.slice
            have F6 := Lib.hid (F5.out.trans0 hf6)
            have W6 := Lib.hid (W5.out.fr hf6)
            have K6 := Lib.hid hs6.rd
            clear hf6 hs6 n0 n1 n2 hcap hmax hpp hlk F5 W5
            go_wp2_with fail
            refine (ref_kids w6 _ bm ns i (Mz.out.fr0 F6.out)).mono ?_
            rintro e w7 ⟨vk2, rfl, hf7, hs7⟩
            rw [← Hke.out, Hmk.out] at hs7
            obtain ⟨Ak2, ck2, rfl⟩ := hs7.slice
            have F7 := Lib.hid (F6.out.trans0 hf7)
            have W7 := Lib.hid (W6.out.fr hf7)
            have K7 := Lib.hid (K6.out.fr hf7)
            have L7 := Lib.hid hs7.rd
            clear hf7 hs7 F6 W6 K6
            go_wp2_with fail
            refine (alike_ints_n w7 _ _ kl mk Hmk.out K7.out L7.out).mono ?_
            rintro e w8 ⟨rfl, hq8⟩
            have hf8 := Fr.ofDrew hq8
            have F8 := Lib.hid (F7.out.trans0 hf8)
            have W8 := Lib.hid (W7.out.fr hf8)
            clear hf8 hq8 F7 W7 K7 L7
            go_wp2_with fail
            refine (tree_walk b ns n i w8 _ (by rw [Hnn.out]; omega) (by rw [Hnn.out]; exact hi) (Rz.out.fr0 F8.out)).mono ?_
            rintro e w9 ⟨vv, rfl, hf9, hs9⟩
            rw [← Hwe.out, Hme.out] at hs9
            obtain ⟨Av, cv, rfl⟩ := hs9.slice
            have F9 := Lib.hid (F8.out.trans0 hf9)
            have W9 := Lib.hid (W8.out.fr hf9)
            have V9 := Lib.hid hs9.rd
            clear hf9 hs9 F8 W8
            go_wp2_with fail
            refine (alike_ints_n w9 _ _ wl m Hme.out V9.out W9.out).mono ?_
            rintro e w10 ⟨rfl, hq10⟩
            have hf10 := Fr.ofDrew hq10
            have F10 := Lib.hid (F9.out.trans0 hf10)
            have hwl' := W9.out.fr hf10
            have R10 := Lib.hid (Rz.out.fr0 F10.out)
            have hmm := Hme.out
            clear hf10 hq10 F9 W9 V9
            have hwl0 := hwl
            clear hwl
            have hwl := hwl'
            clear hwl'
            obtain ⟨x, hx⟩ : ∃ x : Int, x = (i : Int) := ⟨_, rfl⟩
            have hdr10 := Hdr.out w10 F10.out
            have Hwl := Lib.hid hwl
            have Hmm := Lib.hid hmm
            have hms := mem_take_snoc (wl)
            have hmn : ∀ y, decide (y ∈ (wl).take m) = decide (y ∈ wl) := fun y => by rw [← Hmm.out, List.take_length]
            have hgw : ∀ k, k < m → (ints (wl))[k]? = some (.int .i64 ((wl).getD k 0)) := fun k hk => ints_get (by rw [Hmm.out]; exact hk)
            have Hms := Lib.hid hms; have Hmn := Lib.hid hmn; have Hgw := Lib.hid hgw
            clear hwl hmm hms hmn hgw
            go_wp2_with fail
            go_loopw [17] (fun kv wq => ∃ y : Int, kv = .int .i64 y ∧ -1 ≤ y ∧ y ≤ (n : Int) + 1 ∧ Fr Nob w10 wq) (fun kv _ => ((n : Int) + 1 - intOf kv).toNat)
            case atStart => exact ⟨-1, rfl, by omega, by omega, Fr.refl _ _⟩
            case round =>
              obtain ⟨wq, rfl⟩ : ∃ wq : World, wq = wr := ⟨_, rfl⟩
              obtain ⟨y, rfl, hy1, hy2, hfq⟩ := hrel
              have hdr11 := Hdr.out wq (F10.out.trans0 hfq)
              have Hfq := Lib.hid hfq
              have Rq := Lib.hid (R10.out.fr0 hfq)
              clear hfq hdr10
              by_cases hyn : y ≤ n
              · go_wp2_with fail
                go_loop [18, 19] (fun hv jv => ∃ (q : Nat) (hb : Bool), jv = .int .i64 q ∧ q ≤ m ∧ hv = .bool hb ∧ Hid (hb = decide (y ∈ (wl).take q))) (fun _ jv => m - (intOf jv).toNat)
                case atStart => exact ⟨0, false, rfl, Nat.zero_le _, rfl, Lib.hid rfl⟩
                case round =>
                  obtain ⟨q, hb, rfl, hq, rfl, hhb⟩ := hrel
                  by_cases hlt3 : q < m
                  · obtain ⟨_, _, A', c', hv, hc1', hc2', hA'⟩ := Hwl.out.fr Hfq.out
                    cases hv
                    obtain ⟨gq, oq, rfl, hgq, hcq⟩ := hA' (by omega)
                    have hz := hcq q _ (Hgw.out q hlt3)
                    have hsm := Hms.out y q (by rw [Hmm.out]; exact hlt3)
                    rw [← hhb.out] at hsm
                    generalize (wl).getD q 0 = z at *
                    have Hsm := Lib.hid hsm
                    have hqi : (q : Int) < m := by omega
                    clear hA' hcq hsm
                    cases hb with
                    | true =>
                      have Hib : Hid (true = decide (y ∈ (wl).take (q + 1))) := by rw [Hsm.out]; exact Lib.hid rfl
                      go_wp2_with fail
                      go_round
                      case rel => exact ⟨q + 1, true, by go_num, by omega, rfl, Hib⟩
                      case measure => simp [intOf]; omega
                    | false =>
                      have Hib : Hid ((z == y) = decide (y ∈ (wl).take (q + 1))) := by rw [Hsm.out]; exact Lib.hid (by simp)
                      generalize hzy : (z == y) = zy at *
                      go_wp2_with fail
                      go_round
                      case rel => exact ⟨q + 1, zy, by go_num, by omega, rfl, Hib⟩
                      case measure => simp [intOf]; omega
                  · have hqm : q = m := by omega
                    have hhb2 := hhb.out
                    rw [hqm, Hmn.out] at hhb2
                    have hu := Hun.out wq y Rq.out
                    rw [← hhb2] at hu
                    have Hu := Lib.hid hu
                    clear hu hhb hhb2
                    cases hb <;> (
                      go_wp2_with fail
                      refine Hu.out.mono ?_
                      rintro e w11 ⟨rfl, hf11⟩
                      have Hf11 := Lib.hid (Hfq.out.trans0 hf11)
                      clear hf11
                      go_wp2_with fail
                      go_roundw
                      case rel => exact ⟨y + 1, by go_num, by omega, by omega, Hf11.out⟩
                      case measure => simp [intOf]; omega)
              · go_wp2_with fail
                go_roundw
                case rel => exact ⟨x + 1, by go_num, by omega, by omega, (Hfz.out.trans0 F10.out).trans0 Hfq.out⟩
                case measure => simp [intOf]; omega
          · have hout : x < 0 ∨ (n : Int) ≤ x := by omega
            have hout' : x < 0 ∨ (ns.length : Int) ≤ x := by rw [Hnn.out]; exact hout
            have hk0 : kids ns x = [] := by
              by_cases hxneg : x < 0
              · exact kids_neg ns Hok.out x hxneg
              · obtain ⟨q, rfl⟩ := Int.eq_ofNat_of_zero_le (show 0 ≤ x by omega)
                exact kids_out ns Hok.out q (by rw [Hnn.out]; omega)
            have hun : ∀ W (y : Int), TreeAt W S b ns → Calls Try.prog 47 #[.pointer (some ⟨b, 0, none⟩), .int .i64 y, .int .i64 x] W fun e w' => e = .returned (.bool (decide (y ∈ ([] : List Int)))) ∧ Fr Nob W w' :=
              fun W y h => (tree_under_no W S b ns y x h hout').mono fun e w' q => ⟨by rw [q.1]; simp, q.2⟩
            have Hun := Lib.hid hun; have Hout := Lib.hid hout; have Hout' := Lib.hid hout'; have Hk0 := Lib.hid hk0
            have hxx : x = -1 ∨ x = n := by omega
            have hno : decide (0 ≤ x) = false ∨ (decide (0 ≤ x) = true ∧ decide (x < (n : Int)) = false) := by
              rcases hxx with h | h
              · left; simp; omega
              · right; constructor <;> simp <;> omega
            have Hxx := Lib.hid hxx
            clear hun hout hout' hk0 hxx hin
            go_wp2_with fail
            refine (tree_parent_no wz _ b ns x n Hnn.out Rz.out Hout.out).mono ?_
            rintro e w4 ⟨rfl, rfl⟩
            go_upto_region 25 with fail
            go_cut [15] (fun s wx => s = .bool false ∧ wz = wx)
            case first =>
              rcases hno with h1 | ⟨h1, h2⟩
              · go_wp2_with fail
                go_meet
                exact ⟨rfl, rfl⟩
              · go_wp2_with fail
                go_meet
                exact ⟨rfl, rfl⟩
            case rest =>
              obtain ⟨rfl, rfl⟩ := hcut
              clear hno
              go_wp2_with fail
              refine (ref_walk_out wz _ bm ns x Mz.out Hout'.out).mono ?_
              rintro e w5 ⟨rfl, hf5⟩
              have F5 := Lib.hid hf5
              clear hf5 hdrz
              go_wp2_with fail
              refine (tree_kids_no w5 _ b ns x n Hnn.out (Rz.out.fr0 F5.out) Hout.out).mono ?_
              rintro e w6 ⟨rfl, rfl⟩
              go_wp2_with fail
              refine (ref_kids w5 _ bm ns x (Mz.out.fr0 F5.out)).mono ?_
              rintro e w7 ⟨vk2, rfl, hf7, hs7⟩
              rw [Hk0.out] at hs7
              obtain ⟨Ak2, ck2, rfl⟩ := hs7.slice
              have F7 := Lib.hid (F5.out.trans0 hf7)
              have L7 := Lib.hid hs7.rd
              have N7 := Lib.hid ((Sl.nil w7 Nob 3 1).rd)
              clear hf7 hs7 F5
              go_wp2_with fail
              refine (alike_ints_n w7 _ _ [] 0 rfl N7.out L7.out).mono ?_
              rintro e w8 ⟨rfl, hq8⟩
              have hf8 := Fr.ofDrew hq8
              have F8 := Lib.hid (F7.out.trans0 hf8)
              clear hf8 hq8 F7 L7 N7
              go_wp2_with fail
              refine (tree_walk_no w8 _ b ns x n Hnn.out (Rz.out.fr0 F8.out) Hout.out).mono ?_
              rintro e w9 ⟨rfl, hf9⟩
              have F9 := Lib.hid (F8.out.trans0 hf9)
              have N9 := Lib.hid ((Sl.nil w9 Nob 3 1).rd)
              clear hf9 F8
              go_wp2_with fail
              refine (alike_ints_n w9 _ _ [] 0 rfl N9.out N9.out).mono ?_
              rintro e w10 ⟨rfl, hq10⟩
              have hf10 := Fr.ofDrew hq10
              have F10 := Lib.hid (F9.out.trans0 hf10)
              have hwl := N9.out.fr hf10
              have R10 := Lib.hid (Rz.out.fr0 F10.out)
              have hmm : ([] : List Int).length = 0 := rfl
              clear hf10 hq10 F9 N9
              have hdr10 := Hdr.out w10 F10.out
              have Hwl := Lib.hid hwl
              have Hmm := Lib.hid hmm
              have hms := mem_take_snoc (([] : List Int))
              have hmn : ∀ y, decide (y ∈ (([] : List Int)).take 0) = decide (y ∈ ([] : List Int)) := fun y => by rw [← Hmm.out, List.take_length]
              have hgw : ∀ k, k < 0 → (ints (([] : List Int)))[k]? = some (.int .i64 ((([] : List Int)).getD k 0)) := fun k hk => ints_get (by rw [Hmm.out]; exact hk)
              have Hms := Lib.hid hms; have Hmn := Lib.hid hmn; have Hgw := Lib.hid hgw
              clear hwl hmm hms hmn hgw
              go_wp2_with fail
              go_loopw [17] (fun kv wq => ∃ y : Int, kv = .int .i64 y ∧ -1 ≤ y ∧ y ≤ (n : Int) + 1 ∧ Fr Nob w10 wq) (fun kv _ => ((n : Int) + 1 - intOf kv).toNat)
              case atStart => exact ⟨-1, rfl, by omega, by omega, Fr.refl _ _⟩
              case round =>
                obtain ⟨wq, rfl⟩ : ∃ wq : World, wq = wr := ⟨_, rfl⟩
                obtain ⟨y, rfl, hy1, hy2, hfq⟩ := hrel
                have hdr11 := Hdr.out wq (F10.out.trans0 hfq)
                have Hfq := Lib.hid hfq
                have Rq := Lib.hid (R10.out.fr0 hfq)
                clear hfq hdr10
                by_cases hyn : y ≤ n
                · go_wp2_with fail
                  go_loop [18, 19] (fun hv jv => ∃ (q : Nat) (hb : Bool), jv = .int .i64 q ∧ q ≤ 0 ∧ hv = .bool hb ∧ Hid (hb = decide (y ∈ (([] : List Int)).take q))) (fun _ jv => 0 - (intOf jv).toNat)
                  case atStart => exact ⟨0, false, rfl, Nat.zero_le _, rfl, Lib.hid rfl⟩
                  case round =>
                    obtain ⟨q, hb, rfl, hq, rfl, hhb⟩ := hrel
                    by_cases hlt3 : q < 0
                    · omega
                    · have hqm : q = 0 := by omega
                      have hhb2 := hhb.out
                      rw [hqm, Hmn.out] at hhb2
                      have hu := Hun.out wq y Rq.out
                      rw [← hhb2] at hu
                      have Hu := Lib.hid hu
                      clear hu hhb hhb2
                      cases hb <;> (
                        go_wp2_with fail
                        refine Hu.out.mono ?_
                        rintro e w11 ⟨rfl, hf11⟩
                        have Hf11 := Lib.hid (Hfq.out.trans0 hf11)
                        clear hf11
                        go_wp2_with fail
                        go_roundw
                        case rel => exact ⟨y + 1, by go_num, by omega, by omega, Hf11.out⟩
                        case measure => simp [intOf]; omega)
                · go_wp2_with fail
                  go_roundw
                  case rel => exact ⟨x + 1, by go_num, by omega, by omega, (Hfz.out.trans0 F10.out).trans0 Hfq.out⟩
                  case measure => simp [intOf]; omega
        · go_wp2_with fail
          refine (tree_awake wz).mono ?_
          rintro e w9 ⟨rfl, hf9⟩
          go_wp2_with fail
          go_ret
          exact ⟨rfl, ((Hfr.out.trans0 Hfz.out.none).trans0 hf9.none).below (Nat.le_refl _) fun _ q => q⟩


theorem treeActs_walk (v : Value) (l : List Act14) (w : World) (h : IsActs14 w v l) :
    Calls Try.prog 10 #[v] w fun e w' => e = .returned (.bool true) ∧ Below w.heap.size w w' := by
  by_cases hb : 60 < l.length
  · exact treeActs_bad v l w h hb
  · exact treeActs_good v l w h (by omega)


/-! The row: out of the walk above. -/
namespace treeActs
open Go.ChangeShapes Go.WideShapes Go.ChangeAt Go.RowKit
open Go.ChangeMaps (open_string shut_string)
theorem own : ownKnob Try.prog.godebug = none := by kernel_rfl
theorem laidOut : laidOutB Try.prog = true := by kernel_rfl
set_option maxRecDepth 100000 in
theorem lifted (os : Os) (started : os.Started) (H : Type) (enc : TypeId × Value → H) :
    ReturnsInHanded {} Try.checked os 10 .any (Rows.treeActsSpec.pre6 enc Try.prog Try.f10 Rows.treeActsRow.domain false) (Rows.treeActsSpec.post enc Try.prog Try.f10 false true false false) := by
  refine returnsInHanded_of_change (C := Try.checked) own started (by kernel_rfl) Try.func10
    (ChangeSpec.witness6 (enc := enc) (C := Try.checked) false ⟨#[], #[.slice none 0 0], []⟩ 8 (by kernel_rfl) (by kernel_rfl) (by kernel_rfl) (by kernel_rfl)) ?_
  intro W base args ds gs before hval0 hW hcnd _
  have hval : ∀ (j : Nat) t v, Try.f10.params[j]? = some t → args[j]? = some v → Value.okWide Try.prog W .any base t v := hval0
  have hW' := hW
  obtain ⟨p, q, hA0, hV, rfl, hfz, hnd⟩ := hW
  have hA : DataW.TrodAll enc Try.prog W 0 (fun _ => true) true Try.f10.params.toList args.toList ds p := hA0
  rw [Try.params10] at hA hval
  obtain ⟨v0, vs0, d0, ds0, p0, q0, hargs, rfl, rfl, h0, r0⟩ := trodAll_cons hA
  obtain ⟨rfl, rfl, rfl⟩ := trodAll_nil r0
  obtain rfl : args = #[v0] := by cases args; simp_all
  obtain ⟨rfl, rfl⟩ := trodVars_none hV
  have k0 := h0
  have lt0 : ∀ x ∈ p0, x.block < W.heap.size := by obtain ⟨m, hm⟩ := k0; exact DataW.trod_lt m _ _ _ hm
  obtain ⟨x0, g0⟩ := opn_acts14 (hval 0 58 v0 rfl rfl) h0
  clear hA0 hval0
  refine (treeActs_walk v0 x0 W g0).mono fun e W' ⟨he, bel⟩ => ?_
  subst he
  exact ⟨_, rfl, _, _, _, [], _, [], hW', trodAll_mk1 (shut_bool Try.underlying4 _), (trodAll_cons_mk (Below.trod laidOut (by kernel_rfl) (of_decide_eq_true (by kernel_rfl)) k0 bel lt0) trodAll_mk0), rfl, bel.frame _, fun h => by cases h⟩
theorem over : Rows.treeActsRow.holds Try.pinned (OpenSpec.ofChange Rows.treeActsSpec) :=
  OpenClaim.holds_of_wide 10 Try.f10 rfl rfl rfl rfl rfl rfl rfl ⟨rfl, rfl, rfl, rfl, rfl⟩ rfl rfl rfl rfl rfl (by kernel_rfl) Try.func10 (by kernel_rfl)
    (of_decide_eq_true (by kernel_rfl)) (by unfold Func.isWrapper; first | (rw [if_pos (by decide +kernel)]; kernel_rfl) | (rw [if_neg (by decide +kernel)]; exact ⟨rfl, rfl⟩))
    (fun os started H enc _ => lifted os started H enc)
end treeActs
/-- THE STATEMENT. -/
theorem treeActs_holds : Rows.TreeActsSaid := treeActs.over
#print axioms treeActs_holds
end Go.Proofs.Ytpjkjnejlmmapaa
