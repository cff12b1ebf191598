/- TreeUnder answers true whatever its list and its two numbers are; its arguments read as they did: no condition. -/
import Derived.Test.YtpjkjnejlmmapaaTreeFt
set_option linter.unusedVariables false
set_option linter.unusedSimpArgs false
namespace Go.Proofs.Ytpjkjnejlmmapaa
open Go.RowKit
set_option maxRecDepth 100000

set_option maxHeartbeats 1000000 in
theorem treeUnder_bad (v : Value) (l : List Int) (x y : Int) (w : World) (h : IsInts w v l) (hb : 60 < l.length) :
    Calls Try.prog 13 #[v, .int .i64 x, .int .i64 y] w fun e w' => e = .returned (.bool true) ∧ Below w.heap.size w w' := by
  obtain ⟨⟨_, hl, A, c, rfl, hc1, hc2, hA⟩, hwf⟩ := h
  unfold maxLen at hl
  clear hA hwf
  generalize l.length = m at *
  go_enter Try.func13, Try.ntmps13
  go_wp2_with fail
  refine (tree_awake w).mono ?_
  rintro e w' ⟨rfl, hf⟩
  go_wp2_with fail
  go_ret
  exact ⟨rfl, hf.below (Nat.le_refl _) fun _ q => q.elim⟩

set_option maxHeartbeats 8000000 in
theorem treeUnder_good (v : Value) (l : List Int) (xa ya : Int) (w : World) (h : IsInts w v l) (hn : l.length ≤ 60) :
    Calls Try.prog 13 #[v, .int .i64 xa, .int .i64 ya] w fun e w' => e = .returned (.bool true) ∧ Below w.heap.size w w' := by
  obtain ⟨⟨_, hl, A, c, rfl, hc1, hc2, hA⟩, _⟩ := h
  have HA := Lib.hid hA
  have hd : ∀ i, i < l.length → (ints l)[i]? = some (.int .i64 (l.getD i 0)) := fun i hi => ints_get hi
  have HD := Lib.hid hd
  generalize l.length = m at *
  clear hA hl hd
  unfold maxLen at hc2
  have g3 : ¬ (60 : Int) < m := by omega
  go_enter Try.func13, Try.ntmps13
  go_wp2_with fail
  refine (tree_new w).mono ?_
  rintro e w1 ⟨b, rfl, hf1, hr1⟩
  have F1 := Lib.hid (hf1.none (S := From w.heap.size))
  have z1 := hf1.size
  have R1 := Lib.hid (hr1.mono (S' := From w.heap.size) fun k _ q => q.1)
  clear hf1 hr1
  go_wp2_with fail
  refine (tree_add_lone w1 _ b [] (-1) false 0 rfl R1.out (by omega) (by omega) (by omega) (.inl rfl)).mono ?_
  rintro e w2 ⟨rfl, hf2, hr2⟩
  have F2 := Lib.hid (F1.out.trans0 hf2)
  have z2 := Nat.le_trans z1 hf2.size
  have R2 : Hid (TreeAt w2 (fun k => w.heap.size ≤ k ∧ k < w2.heap.size) b (ftree l 0)) := hr2.mono fun k hk q => ⟨there14 z1 k q, hk⟩
  clear hf2 hr2 F1 R1
  go_wp2_with fail
  obtain ⟨w3, hw3⟩ : ∃ w3, w3 = w2.alloc (.cells #[.int .i64 (-1)] 3) := ⟨_, rfl⟩
  have hl3 : Sl w3 (fun k => k = w2.heap.size) 3 1 (.slice (some ⟨w2.heap.size, 0, none⟩) 1 1) 1 (ints (ups (ftree l 0))) := by rw [hw3]; exact Sl.lit w2 3 1 #[.int .i64 (-1)] 1 _ rfl (by simp [maxLen]) rfl
  have hf3 : Fr Nob w2 w3 := by rw [hw3]; exact (Fr.refl _ _).alloc _
  have hz3 : w3.heap.size = w2.heap.size + 1 := by rw [hw3]; simp
  rw [← hw3]
  have F3 := Lib.hid (F2.out.trans0 hf3.none)
  have R3 := Lib.hid (R2.out.fr0 hf3)
  have L3 := Lib.hid hl3
  have T3 : Hid (Two w.heap.size w3 (fun k => w.heap.size ≤ k ∧ k < w2.heap.size) (fun k => k = w2.heap.size)) := ⟨fun k q => ⟨q.1, by omega⟩, fun k q => by omega, fun k p q => by omega⟩
  clear hf3 hw3 hl3 hz3 F2 R2 z1
  go_loopw [8, 9] (fun u i wr => ∃ (j : Nat) (A : Option Addr) (c : Nat) (S T : Nat → Prop), u = .slice A (j + 1) c ∧ i = .int .i64 j ∧ j ≤ m ∧ Fr (From w.heap.size) w wr ∧ Two w.heap.size wr S T ∧ TreeAt wr S b (ftree l j) ∧ Sl wr T 3 1 (.slice A (j + 1) c) (j + 1) (ints (ups (ftree l j)))) (fun _ i _ => m - (intOf i).toNat)
  case atStart => exact ⟨0, _, _, _, _, rfl, rfl, Nat.zero_le _, F3.out, T3.out, R3.out, L3.out⟩
  case round =>
    obtain ⟨j, Au, cu, S, T, rfl, rfl, hj, hfr, htw, hr, hu⟩ := hrel
    have hz := hfr.size
    have Hfr := Lib.hid hfr; have Htw := Lib.hid htw; have Hr := Lib.hid hr; have Hu := Lib.hid hu
    clear hfr htw hr hu F3 T3 R3 L3
    by_cases hlt : j < m
    · obtain ⟨g, o, rfl, hg, hc⟩ := HA.out (by omega)
      have hx := Hfr.out.cell (p := ⟨g, o + j, none⟩) (by simp [From]; omega) (hc j _ (HD.out j hlt))
      clear hc
      have hft : ftree l (j + 1) = ftree l j ++ [(l.getD j 0 % ((j : Int) + 1), true)] := rfl
      generalize l.getD j 0 = x at *
      have hk1 := Int.emod_nonneg x (show ((j : Int) + 1) ≠ 0 by omega)
      have hk2 := Int.emod_lt_of_pos x (show 0 < ((j : Int) + 1) by omega)
      have hrnd := fun W => alike_round W x ((j : Int) + 1) (by omega) (by omega)
      generalize x % ((j : Int) + 1) = q at *
      obtain ⟨q, rfl⟩ := Int.eq_ofNat_of_zero_le hk1
      have Hrnd := Lib.hid hrnd; have Hft := Lib.hid hft
      clear hrnd hft
      go_wp2_with fail
      refine (Hrnd.out _).mono ?_
      rintro e w4 ⟨rfl, rfl⟩
      go_wp2_with fail
      refine (tree_add_hang wr _ b (ftree l j) q (j + 1) (ftree_len l j) Hr.out (by omega) (by omega)).mono ?_
      rintro e w4 ⟨rfl, hf4, hr4⟩
      rw [← Hft.out] at hr4
      have hz4 := hf4.size
      have hu4 := Hu.out.fr hf4 Htw.out.disR
      have ht4 : Two w.heap.size w4 (And' S wr w4) T := Htw.out.growL hz4 hz
      have hfr4 := Hfr.out.trans0 (hf4.fromL Htw.out)
      have Hr4 := Lib.hid hr4; have Hu4 := Lib.hid hu4; have Ht4 := Lib.hid ht4; have Hf4 := Lib.hid hfr4
      clear hf4 hr4 hu4 ht4 hfr4 hz4
      go_wp2_with (at_builtin; refine wpList_append1 _ rfl _ _ _ rfl T 3 _ 1 8 Try.underlying26 info_intU rfl (by omega) (.slice Au (j + 1) cu) (j + 1) (ints (ups (ftree l j))) [.int .i64 (q : Int)] rfl Hu4.out rfl rfl rfl (by omega) (by omega) ?_; intro v5 w5 hs5 hf5 hz5)
      have hz5' := hf5.size
      have hz4 := Hf4.out.size
      have hu5 : Sl w5 (And' T w4 w5) 3 1 v5 (j + 1 + 1) (ints (ups (ftree l (j + 1)))) := by
        rw [Hft.out, ups_snoc]; simpa [ints] using hs5.mono (fun k hk r => there k hk r)
      obtain ⟨A5, c5, rfl⟩ := hu5.slice
      have Hr5 := Lib.hid (Hr4.out.fr hf5 fun k a d => Ht4.out.dis k a d)
      have Ht5 := Lib.hid (Ht4.out.growR hz5' hz4)
      have Hf5 := Lib.hid (Hf4.out.trans0 (hf5.fromR Ht4.out))
      have Hu5 := Lib.hid hu5
      clear hs5 hf5 hz5 hz5' hu5 hz4
      go_wp2_with fail
      go_roundw
      case rel => exact ⟨j + 1, _, _, _, _, rfl, by go_num, by omega, Hf5.out, Ht5.out, Hr5.out, Hu5.out⟩
      case measure => simp [intOf]; omega
    · obtain rfl : j = m := by omega
      obtain ⟨ns, hns⟩ : ∃ ns, ns = ftree l j := ⟨_, rfl⟩
      have hok : TreeOk ns := by rw [hns]; exact ftree_ok l j
      have hlen : ns.length = j + 1 := by rw [hns]; exact ftree_len l j
      have hr := Hr.out; have hu := Hu.out.rd
      rw [← hns] at hr hu
      have hx1 := Int.emod_nonneg xa (show ((j : Int) + 1) ≠ 0 by omega)
      have hx2 := Int.emod_lt_of_pos xa (show 0 < ((j : Int) + 1) by omega)
      have hy1 := Int.emod_nonneg ya (show ((j : Int) + 1) ≠ 0 by omega)
      have hy2 := Int.emod_lt_of_pos ya (show 0 < ((j : Int) + 1) by omega)
      have hrx := fun W => alike_round W xa ((j : Int) + 1) (by omega) (by omega)
      have hry := fun W => alike_round W ya ((j : Int) + 1) (by omega) (by omega)
      generalize xa % ((j : Int) + 1) = x at *
      generalize ya % ((j : Int) + 1) = y at *
      obtain ⟨x, rfl⟩ := Int.eq_ofNat_of_zero_le hx1
      obtain ⟨y, rfl⟩ := Int.eq_ofNat_of_zero_le hy1
      have hug : ∀ k, k < ns.length → (ints (ups ns))[k]? = some (.int .i64 (upOf ns k)) := fun k hk => by rw [ints_get (by rw [ups_len]; exact hk), ups_get ns k hk]
      have Hok := Lib.hid hok; have Hlen := Lib.hid hlen; have Hr := Lib.hid hr; have Hu := Lib.hid hu; have Hrx := Lib.hid hrx; have Hry := Lib.hid hry; have Hug := Lib.hid hug
      clear hok hlen hr hu hrx hry hug hns
      go_wp2_with fail
      refine (Hrx.out _).mono ?_
      rintro e w4 ⟨rfl, rfl⟩
      go_wp2_with fail
      refine (Hry.out _).mono ?_
      rintro e w4 ⟨rfl, rfl⟩
      obtain ⟨r, hr⟩ : ∃ r, r = undB ns y x := ⟨_, rfl⟩
      have Hrr := Lib.hid hr
      clear hr
      go_wp2_with fail
      go_loop [15, 16] (fun un kv => ∃ (k : Int) (ub : Bool), kv = .int .i64 k ∧ un = .bool ub ∧ -1 ≤ k ∧ k ≤ j ∧ Hid ((ub || undB ns y k) = r)) (fun _ kv => (intOf kv + 1).toNat)
      case atStart => exact ⟨x, false, rfl, rfl, by omega, by omega, by rw [Hrr.out]; exact Lib.hid rfl⟩
      case round =>
        obtain ⟨k, ub, rfl, rfl, hk1, hk2, hub⟩ := hrel
        by_cases hk0 : 0 ≤ k
        · obtain ⟨k, rfl⟩ := Int.eq_ofNat_of_zero_le hk0
          obtain ⟨_, _, A', c', hv, hc1', hc2', hA'⟩ := Hu.out
          cases hv
          obtain ⟨g, o, rfl, hg, hc⟩ := hA' (by omega)
          have hx := hc k _ (Hug.out k (by rw [Hlen.out]; omega))
          have hup1 := upOf_lt ns Hok.out k
          have hup2 := upOf_ge ns Hok.out k
          have hst : k ≠ y → undB ns y k = undB ns y (upOf ns k) := undB_step ns Hok.out y k
          have Hst := Lib.hid hst
          clear hA' hc hst
          generalize upOf ns k = u at *
          by_cases hky : k = y
          · subst hky
            have hself := undB_self ns Hok.out k
            have hre : true = r := by have := hub.out; rw [hself, Bool.or_true] at this; exact this
            have Hre := Lib.hid hre
            clear hself hre
            have e1 : ((k : Int) == (k : Int)) = true := by simp
            cases ub <;> (
              go_wp2_with fail
              go_round
              case rel => exact ⟨u, true, rfl, rfl, by omega, by omega, by rw [← Hre.out]; exact Lib.hid rfl⟩
              case measure => simp [intOf]; omega)
          · have e1 : ((k : Int) == (y : Int)) = false := beq_eq_false_iff_ne.2 (by omega)
            have Hub2 : Hid ((ub || undB ns y u) = r) := by rw [← Hst.out hky]; exact hub
            cases ub <;> (
              go_wp2_with fail
              go_round
              case rel => exact ⟨u, _, rfl, rfl, by omega, by omega, Hub2⟩
              case measure => simp [intOf]; omega)
        · have hur : ub = r := by have := hub.out; rw [undB_neg ns y k (by omega), Bool.or_false] at this; exact this
          subst hur
          have hu1 := fun W h => tree_under W S b ns (x : Int) y h (by rw [Hlen.out]; omega)
          have hu2 := fun W h => tree_under W S b ns (x : Int) x h (by rw [Hlen.out]; omega)
          have hu3 := fun W h => tree_under W S b ns (y : Int) x h (by rw [Hlen.out]; omega)
          have hu4 := fun W h => tree_under W S b ns ((j : Int) + 1) 0 h (by rw [Hlen.out]; omega)
          rw [← undB_mem] at hu1 hu2 hu3
          have hu0 := fun W h => tree_under_no W S b ns 0 (-1) h (.inl (by omega))
          have hself := undB_self ns Hok.out x
          rw [hself] at hu2
          have hmu : decide (((j : Int) + 1) ∈ walk ns 0) = false := by
            rw [show ((j : Int) + 1) = ((j + 1 : Nat) : Int) from by omega, ← undB_mem]
            unfold undB
            rw [decide_eq_false_iff_not]
            rintro ⟨_, hm⟩
            have := ((mem_walk ns Hok.out _ _).1 hm).lt (by rw [Hlen.out]; omega)
            rw [Hlen.out] at this
            simp at this
          rw [hmu] at hu4
          have hanti := und_anti ns Hok.out x y
          rw [← Hrr.out] at hu1 hanti
          have Hu1 := Lib.hid hu1; have Hu2 := Lib.hid hu2; have Hu3 := Lib.hid hu3; have Hu4 := Lib.hid hu4; have Hu0 := Lib.hid hu0; have Hanti := Lib.hid hanti
          clear hu1 hu2 hu3 hu4 hu0 hself hmu hanti hub
          by_cases hxy : x = y
          · have exy : ((x : Int) == (y : Int)) = true := by simp [hxy]
            have Hxy := Lib.hid hxy
            clear hxy
            cases ub <;> (
              go_wp2_with fail
              refine (Hu1.out _ Hr.out).mono ?_
              rintro e w5 ⟨rfl, hf5⟩
              have F5 := Lib.hid (Hfr.out.trans0 hf5.none)
              have R5 := Lib.hid (Hr.out.fr0 hf5)
              clear hf5
              go_wp2_with fail
              refine (Hu2.out _ R5.out).mono ?_
              rintro e w6 ⟨rfl, hf6⟩
              have F6 := Lib.hid (F5.out.trans0 hf6.none)
              have R6 := Lib.hid (R5.out.fr0 hf6)
              clear hf6
              go_wp2_with fail
              refine (Hu4.out _ R6.out).mono ?_
              rintro e w8 ⟨rfl, hf8⟩
              have F8 := Lib.hid (F6.out.trans0 hf8.none)
              have R8 := Lib.hid (R6.out.fr0 hf8)
              clear hf8
              go_wp2_with fail
              refine (Hu0.out _ R8.out).mono ?_
              rintro e w9 ⟨rfl, hf9⟩
              have F9 := Lib.hid (F8.out.trans0 hf9.none)
              clear hf9
              go_wp2_with fail
              refine (tree_awake w9).mono ?_
              rintro e w10 ⟨rfl, hf10⟩
              go_wp2_with fail
              go_ret
              exact ⟨rfl, (F9.out.trans0 hf10.none).below (Nat.le_refl _) fun _ q => q⟩)
          · have exy : ((x : Int) == (y : Int)) = false := beq_eq_false_iff_ne.2 (by omega)
            have Hxy := Lib.hid hxy
            clear hxy
            cases ub with
            | false =>
              go_wp2_with fail
              refine (Hu1.out _ Hr.out).mono ?_
              rintro e w5 ⟨rfl, hf5⟩
              have F5 := Lib.hid (Hfr.out.trans0 hf5.none)
              have R5 := Lib.hid (Hr.out.fr0 hf5)
              clear hf5
              go_wp2_with fail
              refine (Hu2.out _ R5.out).mono ?_
              rintro e w6 ⟨rfl, hf6⟩
              have F6 := Lib.hid (F5.out.trans0 hf6.none)
              have R6 := Lib.hid (R5.out.fr0 hf6)
              clear hf6
              go_wp2_with fail
              refine (Hu4.out _ R6.out).mono ?_
              rintro e w8 ⟨rfl, hf8⟩
              have F8 := Lib.hid (F6.out.trans0 hf8.none)
              have R8 := Lib.hid (R6.out.fr0 hf8)
              clear hf8
              go_wp2_with fail
              refine (Hu0.out _ R8.out).mono ?_
              rintro e w9 ⟨rfl, hf9⟩
              have F9 := Lib.hid (F8.out.trans0 hf9.none)
              clear hf9
              go_wp2_with fail
              refine (tree_awake w9).mono ?_
              rintro e w10 ⟨rfl, hf10⟩
              go_wp2_with fail
              go_ret
              exact ⟨rfl, (F9.out.trans0 hf10.none).below (Nat.le_refl _) fun _ q => q⟩
            | true =>
              have h3 := Hanti.out rfl Hxy.out
              have hu3 := Hu3.out
              rw [h3] at hu3
              have Hu3' := Lib.hid hu3
              clear h3 hu3
              go_wp2_with fail
              refine (Hu1.out _ Hr.out).mono ?_
              rintro e w5 ⟨rfl, hf5⟩
              have F5 := Lib.hid (Hfr.out.trans0 hf5.none)
              have R5 := Lib.hid (Hr.out.fr0 hf5)
              clear hf5
              go_wp2_with fail
              refine (Hu2.out _ R5.out).mono ?_
              rintro e w6 ⟨rfl, hf6⟩
              have F6 := Lib.hid (F5.out.trans0 hf6.none)
              have R6 := Lib.hid (R5.out.fr0 hf6)
              clear hf6
              go_wp2_with fail
              refine (Hu3'.out _ R6.out).mono ?_
              rintro e w7 ⟨rfl, hf7⟩
              have F7 := Lib.hid (F6.out.trans0 hf7.none)
              have R7 := Lib.hid (R6.out.fr0 hf7)
              clear hf7
              go_wp2_with fail
              refine (Hu4.out _ R7.out).mono ?_
              rintro e w8 ⟨rfl, hf8⟩
              have F8 := Lib.hid (F7.out.trans0 hf8.none)
              have R8 := Lib.hid (R7.out.fr0 hf8)
              clear hf8
              go_wp2_with fail
              refine (Hu0.out _ R8.out).mono ?_
              rintro e w9 ⟨rfl, hf9⟩
              have F9 := Lib.hid (F8.out.trans0 hf9.none)
              clear hf9
              go_wp2_with fail
              refine (tree_awake w9).mono ?_
              rintro e w10 ⟨rfl, hf10⟩
              go_wp2_with fail
              go_ret
              exact ⟨rfl, (F9.out.trans0 hf10.none).below (Nat.le_refl _) fun _ q => q⟩

theorem treeUnder_walk (v : Value) (l : List Int) (x y : Int) (w : World) (h : IsInts w v l) (w0 : (Lit.int .i64 x).wf = true) (w1 : (Lit.int .i64 y).wf = true) :
    Calls Try.prog 13 #[v, .int .i64 x, .int .i64 y] w fun e w' => e = .returned (.bool true) ∧ Below w.heap.size w w' := by
  clear w0 w1
  by_cases hb : 60 < l.length
  · exact treeUnder_bad v l x y w h hb
  · exact treeUnder_good v l x y w h (by omega)

/-! The row: out of the walk above. -/
namespace treeUnder
open Go.ChangeShapes Go.WideShapes Go.ChangeAt Go.RowKit
open Go.ChangeMaps (open_string shut_string)
theorem own : ownKnob Try.prog.godebug = none := by kernel_rfl
theorem laidOut : laidOutB Try.prog = true := by kernel_rfl
set_option maxRecDepth 100000 in
theorem lifted (os : Os) (started : os.Started) (H : Type) (enc : TypeId × Value → H) :
    ReturnsInHanded {} Try.checked os 13 .any (Rows.treeUnderSpec.pre6 enc Try.prog Try.f13 Rows.treeUnderRow.domain false) (Rows.treeUnderSpec.post enc Try.prog Try.f13 false true false false) := by
  refine returnsInHanded_of_change (C := Try.checked) own started (by kernel_rfl) Try.func13
    (ChangeSpec.witness6 (enc := enc) (C := Try.checked) false ⟨#[], #[.slice none 0 0, .int .i64 0, .int .i64 0], []⟩ 8 (by kernel_rfl) (by kernel_rfl) (by kernel_rfl) (by kernel_rfl)) ?_
  intro W base args ds gs before hval0 hW hcnd _
  have hval : ∀ (j : Nat) t v, Try.f13.params[j]? = some t → args[j]? = some v → Value.okWide Try.prog W .any base t v := hval0
  have hW' := hW
  obtain ⟨p, q, hA0, hV, rfl, hfz, hnd⟩ := hW
  have hA : DataW.TrodAll enc Try.prog W 0 (fun _ => true) true Try.f13.params.toList args.toList ds p := hA0
  rw [Try.params13] at hA hval
  obtain ⟨v0, vs0, d0, ds0, p0, q0, hargs, rfl, rfl, h0, r0⟩ := trodAll_cons hA
  obtain ⟨v1, vs1, d1, ds1, p1, q1, rfl, rfl, rfl, h1, r1⟩ := trodAll_cons r0
  obtain ⟨v2, vs2, d2, ds2, p2, q2, rfl, rfl, rfl, h2, r2⟩ := trodAll_cons r1
  obtain ⟨rfl, rfl, rfl⟩ := trodAll_nil r2
  obtain rfl : args = #[v0, v1, v2] := by cases args; simp_all
  obtain ⟨rfl, rfl⟩ := trodVars_none hV
  have k0 := h0
  have lt0 : ∀ x ∈ p0, x.block < W.heap.size := by obtain ⟨m, hm⟩ := k0; exact DataW.trod_lt m _ _ _ hm
  obtain ⟨x0, g0⟩ := opn_ints (hval 0 26 v0 rfl rfl) h0
  obtain ⟨a1, rfl, rfl, rfl, w1⟩ := open_int Try.underlying3 (hval 1 3 v1 rfl rfl) h1
  obtain ⟨a2, rfl, rfl, rfl, w2⟩ := open_int Try.underlying3 (hval 2 3 v2 rfl rfl) h2
  clear hA0 hval0
  refine (treeUnder_walk v0 x0 a1 a2 W g0 w1 w2).mono fun e W' ⟨he, bel⟩ => ?_
  subst he
  exact ⟨_, rfl, _, _, _, [], _, [], hW', trodAll_mk1 (shut_bool Try.underlying4 _), (trodAll_cons_mk (Below.trod laidOut (by kernel_rfl) (of_decide_eq_true (by kernel_rfl)) k0 bel lt0) (trodAll_cons_mk (shut_int Try.underlying3 w1) (trodAll_cons_mk (shut_int Try.underlying3 w2) trodAll_mk0))), rfl, bel.frame _, fun h => by cases h⟩
theorem over : Rows.treeUnderRow.holds Try.pinned (OpenSpec.ofChange Rows.treeUnderSpec) :=
  OpenClaim.holds_of_wide 13 Try.f13 rfl rfl rfl rfl rfl rfl rfl ⟨rfl, rfl, rfl, rfl, rfl⟩ rfl rfl rfl rfl rfl (by kernel_rfl) Try.func13 (by kernel_rfl)
    (of_decide_eq_true (by kernel_rfl)) (by unfold Func.isWrapper; first | (rw [if_pos (by decide +kernel)]; kernel_rfl) | (rw [if_neg (by decide +kernel)]; exact ⟨rfl, rfl⟩))
    (fun os started H enc _ => lifted os started H enc)
end treeUnder
/-- THE STATEMENT. -/
theorem treeUnder_holds : Rows.TreeUnderSaid := treeUnder.over
#print axioms treeUnder_holds
end Go.Proofs.Ytpjkjnejlmmapaa
