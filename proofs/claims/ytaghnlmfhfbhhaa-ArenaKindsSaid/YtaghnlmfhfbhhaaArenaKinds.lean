/- ArenaKinds answers true whatever its texts and its number are; its arguments read as they did: no condition. -/
import Derived.Test.YtaghnlmfhfbhhaaOpen
import Derived.Test.YtaghnlmfhfbhhaaArena
import Derived.Test.YtaghnlmfhfbhhaaArenaAwake
import Derived.Test.YtaghnlmfhfbhhaaAlike
set_option linter.unusedVariables false
set_option linter.unusedSimpArgs false
namespace Go.Proofs.Ytaghnlmfhfbhhaa
open Go.RowKit
set_option maxRecDepth 100000

/-- The pairs (length, place) of the first n texts, as cells. -/
def lenAt (l : List ByteArray) (n : Nat) : List Value := (List.range n).flatMap fun j => [.int .i64 (((l.getD j ByteArray.empty).size : Nat) : Int), .int .i64 (j : Int)]
theorem lenAt_snoc (l : List ByteArray) (n : Nat) : lenAt l n ++ [.int .i64 (((l.getD n ByteArray.empty).size : Nat) : Int), .int .i64 (n : Int)] = lenAt l (n + 1) := by
  unfold lenAt; rw [List.range_succ, List.flatMap_append]; simp
theorem lenAt_get (l : List ByteArray) (n k : Nat) (h : k < n) : (lenAt l n)[k * 2]? = some (.int .i64 (((l.getD k ByteArray.empty).size : Nat) : Int)) ∧ (lenAt l n)[k * 2 + 1]? = some (.int .i64 (k : Int)) := by
  unfold lenAt
  have h0 : (List.range n)[k]? = some k := by simp [h]
  exact ⟨flat_get (sz := 2) _ (List.range n) (fun _ _ => rfl) k 0 k h0 (by omega), flat_get (sz := 2) _ (List.range n) (fun _ _ => rfl) k 1 k h0 (by omega)⟩
theorem strs_snoc (l : List ByteArray) (n : Nat) (h : n < l.length) : (l.take n).map Value.string ++ [.string (l.getD n ByteArray.empty)] = (l.take (n + 1)).map Value.string := by
  rw [List.take_add_one, List.map_append]; simp [List.getD, h]
theorem strs_get (l : List ByteArray) (k : Nat) (h : k < l.length) : (l.map Value.string)[k]? = some (.string (l.getD k ByteArray.empty)) := by simp [List.getD, h]

set_option maxHeartbeats 1000000 in
theorem arenaKinds_big (v : Value) (l : List ByteArray) (at' : Int) (w : World) (h : IsStrs w v l) (hb : 40 < l.length) :
    Calls Try.prog 4 #[v, .int .i64 at'] w fun e w' => e = .returned (.bool true) ∧ Below w.heap.size w w' := by
  obtain ⟨⟨_, hl, A, c, rfl, hc1, hc2, hA⟩, hwf⟩ := h
  unfold maxLen at hl
  clear hA hwf
  generalize l.length = n at *
  go_enter Try.func4, Try.ntmps4
  go_wp2_with fail
  refine (arena_awake w).mono ?_
  rintro e w' ⟨rfl, hf⟩
  go_wp2_with fail
  go_ret
  exact ⟨rfl, hf.below (Nat.le_refl _) fun _ q => q.elim⟩

set_option maxHeartbeats 4000000 in
theorem arenaKinds_small (v : Value) (l : List ByteArray) (at' : Int) (w : World) (h : IsStrs w v l) (hb : l.length ≤ 40) :
    Calls Try.prog 4 #[v, .int .i64 at'] w fun e w' => e = .returned (.bool true) ∧ Below w.heap.size w w' := by
  obtain ⟨⟨_, hl, A, c, rfl, hc1, hc2, hA⟩, hwf⟩ := h
  have HA := Lib.hid hA
  have hd : ∀ i, i < l.length → (l.map Value.string)[i]? = some (.string (l.getD i ByteArray.empty)) := fun i hi => strs_get l i hi
  have hs1 : ∀ i, i < l.length → (l.take i).map Value.string ++ [.string (l.getD i ByteArray.empty)] = (l.take (i + 1)).map Value.string := fun i hi => strs_snoc l i hi
  have hwl : ∀ i, i < l.length → (l.getD i ByteArray.empty).size ≤ maxLen := fun i hi => by simpa [List.getD, hi] using hwf _ (List.getElem_mem hi)
  have HD := Lib.hid hd; have HS := Lib.hid hs1; have HW := Lib.hid hwl
  have htk : (l.take l.length) = l := List.take_length
  have HT := Lib.hid htk
  generalize hnn : l.length = n at *
  clear hA hwf hl hd hs1 hnn hwl htk
  have h3 : ¬ (40 : Int) < n := by omega
  go_enter Try.func4, Try.ntmps4
  go_wp2_with fail
  refine (arena_str_new_good 40 w (by omega) (by omega)).mono ?_
  rintro e w1 ⟨a, rfl, hf1, ha1⟩
  go_wp2_with fail
  refine (arena_pair_new_good 40 w1 (by omega) (by omega)).mono ?_
  rintro e w2 ⟨b, rfl, hf2, hb2⟩
  have ha2 := ha1.fr hf2 fun _ _ q => q
  have hz1 := hf1.size
  have hz2 := hf2.size
  have Ht2 : Hid (Two w.heap.size w2 (fun k => w.heap.size ≤ k ∧ k < w1.heap.size) (fun k => w1.heap.size ≤ k ∧ k < w2.heap.size)) := ⟨fun k q => ⟨q.1, by omega⟩, fun k q => ⟨by omega, q.2⟩, fun k p q => by omega⟩
  have Hf2 := Lib.hid (hf1.trans0 hf2); have Ha2 := Lib.hid ha2; have Hb2 := Lib.hid hb2
  clear hf1 hf2 ha1 ha2 hb2 hz1 hz2
  go_wp2_with fail
  go_loopw [9] (fun i wr => ∃ j : Nat, i = .int .i64 j ∧ j ≤ n ∧ ∃ S T, Fr (From w.heap.size) w wr ∧ Two w.heap.size wr S T ∧ ArenaAt 80 9 1 wr S a 40 j ((l.take j).map Value.string) ∧ ArenaAt 82 29 2 wr T b 40 j (lenAt l j)) (fun i _ => n - (intOf i).toNat)
  case atStart => exact ⟨0, rfl, by omega, _, _, Hf2.out.none, Ht2, Ha2.out, Hb2.out⟩
  case round =>
    obtain ⟨j, rfl, hj, S, T, hfr, htw, ha, hb'⟩ := hrel
    have Hfr := Lib.hid hfr; have Htw := Lib.hid htw; have Ha := Lib.hid ha; have Hb := Lib.hid hb'
    clear hfr htw ha hb'
    by_cases hlt : j < n
    · obtain ⟨g, o, rfl, hg, hc⟩ := HA.out (by omega)
      have hx0 := hc j _ (HD.out j hlt)
      have hx := Hfr.out.cell (p := ⟨g, o + j, none⟩) (by simp [From]; omega) hx0
      have Hx0 := Lib.hid hx0
      have hs2 := HS.out j hlt
      have hl2 := lenAt_snoc l j
      have hsm := HW.out j hlt
      clear hc hx0
      generalize l.getD j ByteArray.empty = x at *
      have Hs2 := Lib.hid hs2; have Hl2 := Lib.hid hl2
      clear hs2 hl2
      unfold maxLen at hsm
      by_cases hbig : 100 < x.size
      · go_wp2_with fail
        refine (arena_awake wr).mono ?_
        rintro e w' ⟨rfl, hf⟩
        go_wp2_with fail
        go_ret
        exact ⟨rfl, (Hfr.out.trans0 hf.none).below (Nat.le_refl _) fun _ q => q⟩
      · go_wp2_with fail
        refine (arena_str_add wr _ a 40 j _ x Ha.out (by omega)).mono ?_
        rintro e w3 ⟨rfl, hf3, ha3⟩
        have Hfr3 := Lib.hid (Hfr.out.trans0 (hf3.fromL Htw.out))
        have Htw3 := Lib.hid (Htw.out.growL hf3.size (Hfr.out.size))
        have Hb3 := Lib.hid (Hb.out.fr hf3 fun k p q => Htw.out.dis k q p)
        rw [Hs2.out] at ha3
        have Ha3 := Lib.hid ha3
        have hx := Hfr3.out.cell (p := ⟨g, o + j, none⟩) (by simp [From]; omega) Hx0.out
        clear hf3 ha3
        go_wp2_with fail
        refine (arena_pair_add w3 _ b 40 j _ (x.size : Int) (j : Int) Hb3.out (by omega)).mono ?_
        rintro e w4 ⟨rfl, hf4, hb4⟩
        have Hfr4 := Lib.hid (Hfr3.out.trans0 (hf4.fromR Htw3.out))
        have Htw4 := Lib.hid (Htw3.out.growR hf4.size (Hfr3.out.size))
        have Ha4 := Lib.hid (Ha3.out.fr hf4 fun k p q => Htw3.out.dis k p q)
        rw [Hl2.out] at hb4
        have Hb4 := Lib.hid hb4
        clear hf4 hb4
        go_wp2_with fail
        go_roundw
        case rel => exact ⟨j + 1, by go_num, by omega, _, _, Hfr4.out, Htw4.out, Ha4.out, Hb4.out⟩
        case measure => simp [intOf]; omega
    · obtain rfl : j = n := by omega
      by_cases h0 : j = 0
      · subst h0
        go_wp2_with fail
        refine (arena_str_left wr _ a 40 0 _ Ha.out).mono ?_
        rintro e w3 ⟨rfl, hq⟩
        have Hf3 := Lib.hid (Fr.ofDrew hq); clear hq
        go_wp2_with fail
        refine (arena_awake w3).mono ?_
        rintro e w' ⟨rfl, hf⟩
        go_wp2_with fail
        go_ret
        exact ⟨rfl, ((Hfr.out.trans0 Hf3.out.none).trans0 hf.none).below (Nat.le_refl _) fun _ q => q⟩
      · have e0 : ((j : Int) == 0) = false := by simp; omega
        go_wp2_with fail
        refine (alike_round wr at' j (by omega) (by omega)).mono ?_
        rintro e w3 ⟨rfl, rfl⟩
        have hk1 := Int.emod_nonneg at' (show (j : Int) ≠ 0 by omega)
        have hk2 := Int.emod_lt_of_pos at' (show 0 < (j : Int) by omega)
        obtain ⟨k, hk⟩ := Int.eq_ofNat_of_zero_le hk1
        rw [hk] at hk2 ⊢
        clear hk hk1
        have hkj : k < j := by omega
        have hg2 := lenAt_get l j k hkj
        have hg1 := HD.out k hkj
        have ha5 := Ha.out
        rw [HT.out] at ha5
        have Ha5 := Lib.hid ha5; clear ha5
        obtain ⟨g, o, rfl, hg, hc⟩ := HA.out (by omega)
        have hx0 := hc k _ hg1
        have hsm := HW.out k hkj
        clear hc
        generalize l.getD k ByteArray.empty = x at *
        unfold maxLen at hsm
        have Hx0 := Lib.hid hx0; have Hg1 := Lib.hid hg1; have Hg2 := Lib.hid hg2
        clear hx0 hg1 hg2
        go_wp2_with fail
        refine (arena_str_get wr _ a 40 j _ k x Ha5.out hkj Hg1.out).mono ?_
        rintro e w4 ⟨rfl, hf4⟩
        have Hfr4 := Lib.hid (Hfr.out.trans0 hf4.none)
        have Ha6 := Lib.hid (Ha5.out.fr hf4 fun _ _ q => q)
        have Hb4 := Lib.hid (Hb.out.fr hf4 fun _ _ q => q)
        clear hf4
        go_wp2_with fail
        refine (arena_pair_get w4 _ b 40 j _ k (x.size : Int) (k : Int) Hb4.out hkj Hg2.out.1 Hg2.out.2).mono ?_
        rintro e w5 ⟨rfl, hf5⟩
        have Hfr5 := Lib.hid (Hfr4.out.trans0 hf5.none)
        have Ha7 := Lib.hid (Ha6.out.fr hf5 fun _ _ q => q)
        have hx := Hfr5.out.cell (p := ⟨g, o + k, none⟩) (by simp [From]; omega) Hx0.out
        clear hf5
        go_wp2_with fail
        obtain ⟨W, hW⟩ : ∃ W, W = w5.alloc (.cells #[.int .i64 (x.size : Int), .int .i64 (k : Int)] 29) := ⟨_, rfl⟩
        rw [← hW]
        have hfW : Fr Nob w5 W := by rw [hW]; exact (Fr.refl Nob w5).alloc _
        have hbW : W.heap[w5.heap.size]? = some (.cells #[.int .i64 (x.size : Int), .int .i64 (k : Int)] 29 (0, 0)) := by rw [hW]; exact heap_alloc_new _ _
        clear hW
        have x0 := blk_cell hbW 0 rfl
        have x1 := blk_cell hbW 1 rfl
        have hx := (Hfr5.out.trans0 hfW.none).cell (p := ⟨g, o + k, none⟩) (by simp [From]; omega) Hx0.out
        have HfW := Lib.hid hfW
        have HaW := Lib.hid (Ha7.out.fr hfW fun _ _ q => q)
        clear hfW hbW
        generalize w5.heap.size = p at *
        have e1 : IntKind.i64.wrap ((40 : Int) - j) = 40 - j := IntWalk.i64_in _ (by omega)
        have heq := run_eql_arr (P := Try.prog) 29 3 2 [(x.size : Int), (k : Int)] Try.underlying29 Try.underlying3 (by kernel_rfl) rfl
        simp only [ints, List.map_cons, List.map_nil] at heq
        go_region_held3 (fun w' => w'.cell? ⟨g, o + k, none⟩ = some (.string x) ∧ w'.cell? ⟨p, 0, none⟩ = some (.int .i64 (x.size : Int)) ∧ w'.cell? ⟨p, 1, none⟩ = some (.int .i64 (k : Int)))
          (first | exact ⟨hf7.cell id hx, hf7.cell id x0, hf7.cell id x1⟩ | exact ⟨hf6.cell id hx, hf6.cell id x0, hf6.cell id x1⟩ | exact ⟨hx, x0, x1⟩)
          ((first | (go_at_call 25; refine (arena_str_left _ S a 40 j _ (HaW.out.fr ((Fr.refl Nob W).drew) (fun _ _ q => q))).mono ?_; rintro e w6 ⟨rfl, hq6⟩; have hf6 := (Fr.refl Nob W).drew.trans0 (Fr.ofDrew hq6); clear hq6) | (go_at_call 14; refine (arena_awake _).mono ?_; rintro e w7 ⟨rfl, hf7'⟩; have hf7 := hf6.trans0 hf7'; clear hf7')))
        go_wp2_with fail
        go_ret
        exact ⟨rfl, ((Hfr5.out.trans0 HfW.out.none).trans0 hf7.none).below (Nat.le_refl _) fun _ q => q⟩

theorem arenaKinds_walk (v : Value) (l : List ByteArray) (at' : Int) (w : World) (h : IsStrs w v l) (w1 : (Lit.int .i64 at').wf = true) :
    Calls Try.prog 4 #[v, .int .i64 at'] w fun e w' => e = .returned (.bool true) ∧ Below w.heap.size w w' := by
  by_cases hb : 40 < l.length
  · exact arenaKinds_big v l at' w h hb
  · exact arenaKinds_small v l at' w h (by omega)

/-! The row: out of the walk above. -/
namespace arenaKinds
open Go.ChangeShapes Go.WideShapes Go.ChangeAt Go.RowKit
open Go.ChangeMaps (open_string shut_string)
theorem own : ownKnob Try.prog.godebug = none := by kernel_rfl
theorem laidOut : laidOutB Try.prog = true := by kernel_rfl
set_option maxRecDepth 100000 in
theorem lifted (os : Os) (started : os.Started) (H : Type) (enc : TypeId × Value → H) :
    ReturnsInHanded {} Try.checked os 4 .any (Rows.arenaKindsSpec.pre6 enc Try.prog Try.f4 Rows.arenaKindsRow.domain false) (Rows.arenaKindsSpec.post enc Try.prog Try.f4 false true false false) := by
  refine returnsInHanded_of_change (C := Try.checked) own started (by kernel_rfl) Try.func4
    (ChangeSpec.witness6 (enc := enc) (C := Try.checked) false ⟨#[], #[.slice none 0 0, .int .i64 0], []⟩ 8 (by kernel_rfl) (by kernel_rfl) (by kernel_rfl) (by kernel_rfl)) ?_
  intro W base args ds gs before hval0 hW hcnd _
  have hval : ∀ (j : Nat) t v, Try.f4.params[j]? = some t → args[j]? = some v → Value.okWide Try.prog W .any base t v := hval0
  have hW' := hW
  obtain ⟨p, q, hA0, hV, rfl, hfz, hnd⟩ := hW
  have hA : DataW.TrodAll enc Try.prog W 0 (fun _ => true) true Try.f4.params.toList args.toList ds p := hA0
  rw [Try.params4] at hA hval
  obtain ⟨v0, vs0, d0, ds0, p0, q0, hargs, rfl, rfl, h0, r0⟩ := trodAll_cons hA
  obtain ⟨v1, vs1, d1, ds1, p1, q1, rfl, rfl, rfl, h1, r1⟩ := trodAll_cons r0
  obtain ⟨rfl, rfl, rfl⟩ := trodAll_nil r1
  obtain rfl : args = #[v0, v1] := by cases args; simp_all
  obtain ⟨rfl, rfl⟩ := trodVars_none hV
  have k0 := h0
  have lt0 : ∀ x ∈ p0, x.block < W.heap.size := by obtain ⟨m, hm⟩ := k0; exact DataW.trod_lt m _ _ _ hm
  obtain ⟨x0, g0⟩ := opn_strs (hval 0 37 v0 rfl rfl) h0
  obtain ⟨a1, rfl, rfl, rfl, w1⟩ := open_int Try.underlying3 (hval 1 3 v1 rfl rfl) h1
  clear hA0 hval0
  refine (arenaKinds_walk v0 x0 a1 W g0 w1).mono fun e W' ⟨he, bel⟩ => ?_
  subst he
  exact ⟨_, rfl, _, _, _, [], _, [], hW', trodAll_mk1 (shut_bool Try.underlying4 _), (trodAll_cons_mk (Below.trod laidOut (by kernel_rfl) (of_decide_eq_true (by kernel_rfl)) k0 bel lt0) (trodAll_cons_mk (shut_int Try.underlying3 w1) trodAll_mk0)), rfl, bel.frame _, fun h => by cases h⟩
theorem over : Rows.arenaKindsRow.holds Try.pinned (OpenSpec.ofChange Rows.arenaKindsSpec) :=
  OpenClaim.holds_of_wide 4 Try.f4 rfl rfl rfl rfl rfl rfl rfl ⟨rfl, rfl, rfl, rfl, rfl⟩ rfl rfl rfl rfl rfl (by kernel_rfl) Try.func4 (by kernel_rfl)
    (of_decide_eq_true (by kernel_rfl)) (by unfold Func.isWrapper; first | (rw [if_pos (by decide +kernel)]; kernel_rfl) | (rw [if_neg (by decide +kernel)]; exact ⟨rfl, rfl⟩))
    (fun os started H enc _ => lifted os started H enc)
end arenaKinds
/-- THE STATEMENT. -/
theorem arenaKinds_holds : Rows.ArenaKindsSaid := arenaKinds.over
#print axioms arenaKinds_holds
end Go.Proofs.Ytaghnlmfhfbhhaa
