/- ReadyBehind answers true whatever its number and its list are; its arguments read as they did: no condition. -/
import Derived.Test.YtpjkjnejlmmapaaOpen
import Derived.Test.YtpjkjnejlmmapaaMore
import Derived.Test.YtpjkjnejlmmapaaReadyAwake
set_option linter.unusedVariables false
set_option linter.unusedSimpArgs false
namespace Go.Proofs.Ytpjkjnejlmmapaa
open Go.RowKit
set_option maxRecDepth 100000

def iota (j : Nat) : List Int := (List.range j).map fun (i : Nat) => (i : Int)
theorem iota_len (j : Nat) : (iota j).length = j := by simp [iota]
theorem iota_snoc (j : Nat) : iota j ++ [(j : Int)] = iota (j + 1) := by simp [iota, List.range_succ]
theorem iota_mem (j : Nat) (x : Int) : x ∈ iota j ↔ 0 ≤ x ∧ x < j := by
  simp only [iota, List.mem_map, List.mem_range]
  constructor
  · rintro ⟨a, h, rfl⟩; omega
  · rintro ⟨h1, h2⟩; exact ⟨x.toNat, by omega, by omega⟩
theorem iota_nodup (j : Nat) : (iota j).Nodup := by
  unfold iota
  rw [List.Nodup, List.pairwise_map]
  exact List.nodup_range.imp fun h e => h (Int.ofNat.inj e)
theorem filter_take (q : List Int) (t : Int) (k : Nat) (hk : k < q.length) : (q.take (k + 1)).filter (· != t) = if q.getD k 0 = t then (q.take k).filter (· != t) else (q.take k).filter (· != t) ++ [q.getD k 0] := by
  rw [List.take_add_one, List.filter_append]
  have : q[k]?.toList = [q.getD k 0] := by simp [List.getD, hk]
  rw [this]
  generalize q.getD k 0 = y
  split
  · next h => simp [h]
  · next h => simp [h]

set_option maxHeartbeats 1000000 in
theorem readyBehind_bad (n : Int) (v : Value) (l : List Int) (w : World) (h : IsInts w v l) (hb : n < 1 ∨ 40 < n ∨ 60 < l.length) :
    Calls Try.prog 5 #[.int .i64 n, v] w fun e w' => e = .returned (.bool true) ∧ Below w.heap.size w w' := by
  obtain ⟨⟨_, hl, A, c, rfl, hc1, hc2, hA⟩, hwf⟩ := h
  unfold maxLen at hl
  clear hA hwf
  have hb2 : n < 1 ∨ 40 < n ∨ (60 : Int) < (l.length : Int) := by omega
  generalize l.length = m at *
  clear hb
  go_enter Try.func5, Try.ntmps5
  go_wp2_with fail
  all_goals
    refine (ready_awake w).mono ?_
    rintro e w' ⟨rfl, hf⟩
    go_wp2_with fail
    go_ret
    exact ⟨rfl, hf.below (Nat.le_refl _) fun _ q => q.elim⟩

set_option maxHeartbeats 4000000 in
theorem readyBehind_good (n : Nat) (v : Value) (l : List Int) (w : World) (h : IsInts w v l) (h1 : 1 ≤ n) (h2 : n ≤ 40) (hn : l.length ≤ 60) :
    Calls Try.prog 5 #[.int .i64 (n : Int), v] w fun e w' => e = .returned (.bool true) ∧ Below w.heap.size w w' := by
  obtain ⟨⟨_, hl, A, c, rfl, hc1, hc2, hA⟩, hwf⟩ := h
  have HA := Lib.hid hA
  have hd : ∀ i, i < l.length → (ints l)[i]? = some (.int .i64 (l.getD i 0)) := fun i hi => ints_get hi
  have HD := Lib.hid hd
  generalize hnn : l.length = m at *
  clear hA hwf hl hd hnn
  have g1 : ¬ (n : Int) < 1 := by omega
  have g2 : ¬ (40 : Int) < n := by omega
  have g3 : ¬ (60 : Int) < m := by omega
  go_enter Try.func5, Try.ntmps5
  go_wp2_with fail
  refine (ready_new w).mono ?_
  rintro e w1 ⟨b, rfl, hf1, hr1⟩
  have Hf1 := Lib.hid hf1; have Hr1 := Lib.hid hr1; clear hf1 hr1
  go_wp2_with fail
  go_loopw [6, 7] (fun wt i wr => ∃ j : Nat, i = .int .i64 j ∧ j ≤ n ∧ ∃ A c S T, wt = .slice A j c ∧ Fr (From w.heap.size) w wr ∧ Two w.heap.size wr S T ∧ ReadyAt wr S b (iota j) ∧ Sl wr T 3 1 (.slice A j c) j (ints (iota j))) (fun _ i _ => n - (intOf i).toNat)
  case atStart => exact ⟨0, rfl, Nat.zero_le _, none, 0, _, Nob, rfl, Hf1.out.none, ⟨fun k q => q, fun k q => q.elim, fun k a b => b⟩, Hr1.out, Sl.nil _ _ _ _⟩
  case round =>
    obtain ⟨j, rfl, hj, A1, c1, S, T, rfl, hfr, htw, hr, hw⟩ := hrel
    have Hfr := Lib.hid hfr; have Htw := Lib.hid htw; have Hr := Lib.hid hr; have Hw := Lib.hid hw
    clear hfr htw hr hw
    by_cases hlt : j < n
    · go_wp2_with fail
      refine (ready_add wr _ b _ j Hr.out (by omega) (by rw [iota_mem]; omega) (by rw [iota_len]; omega)).mono ?_
      rintro e w2 ⟨rfl, hf2, hr2⟩
      rw [iota_snoc] at hr2
      have Hw2 := Lib.hid (Hw.out.fr hf2 Htw.out.disR)
      have Ht2 := Lib.hid (Htw.out.growL hf2.size Hfr.out.size)
      have Hfr2 := Lib.hid (Hfr.out.trans0 (hf2.fromL Htw.out))
      have Hr2 := Lib.hid hr2
      clear hf2 hr2
      go_wp2_with (at_builtin; refine wpList_append1 _ rfl _ _ _ rfl T 3 _ 1 8 Try.underlying26 Try.info_int' rfl (by omega) (.slice A1 j c1) j (ints (iota j)) [.int .i64 j] rfl Hw2.out rfl rfl rfl (by omega) (by omega) ?_; intro v3 w3 hs3 hf3 hz3)
      obtain ⟨A3, c3, rfl⟩ := hs3.slice
      have hw3 : Sl w3 (And' T w2 w3) 3 1 (.slice A3 (j + 1) c3) (j + 1) (ints (iota (j + 1))) := by
        rw [← iota_snoc]; simpa [ints] using hs3.mono (fun k hk q => there k hk q)
      have Hr3 := Lib.hid (Hr2.out.fr hf3 fun k a b => Ht2.out.dis k a b)
      have Ht3 := Lib.hid (Ht2.out.growR hf3.size Hfr2.out.size)
      have Hfr3 := Lib.hid (Hfr2.out.trans0 (hf3.fromR Ht2.out))
      have Hw3 := Lib.hid hw3
      clear hs3 hf3 hz3 hw3
      go_wp2_with fail
      go_roundw
      case rel => exact ⟨j + 1, by go_num, by omega, _, _, _, _, rfl, Hfr3.out, Ht3.out, Hr3.out, Hw3.out⟩
      case measure => simp [intOf]; omega
    · obtain rfl : j = n := by omega
      have hq0 : ∀ x, x ∈ iota j ↔ 0 ≤ x ∧ x < (j : Int) := fun x => iota_mem j x
      have Hq0 := Lib.hid hq0; clear hq0
      go_wp2_with fail
      go_loopw [6, 8] (fun wt i wr => ∃ (q : List Int) (k : Nat), q.length = j ∧ q.Nodup ∧ (∀ x, x ∈ q ↔ 0 ≤ x ∧ x < (j : Int)) ∧ k ≤ m ∧ i = .int .i64 k ∧ ∃ A c S T, wt = .slice A j c ∧ Fr (From w.heap.size) w wr ∧ Two w.heap.size wr S T ∧ ReadyAt wr S b q ∧ Sl wr T 3 1 (.slice A j c) j (ints q)) (fun _ i _ => m - (intOf i).toNat)
      case atStart => exact ⟨iota j, 0, iota_len j, iota_nodup j, Hq0.out, Nat.zero_le _, rfl, _, _, _, _, rfl, Hfr.out, Htw.out, Hr.out, Hw.out⟩
      case round =>
        clear Hfr Htw Hr Hw
        rename_i wr9 _
        obtain ⟨q, k, hql, hqd, hqm, hk, rfl, A', c', S, T, rfl, hfr, htw, hr, hw⟩ := hrel
        have Hfr := Lib.hid hfr; have Htw := Lib.hid htw; have Hr := Lib.hid hr; have Hw := Lib.hid hw; have Hql := Lib.hid hql; have Hqd := Lib.hid hqd; have Hqm := Lib.hid hqm
        clear hfr htw hr hw hql hqd hqm
        by_cases hlt : k < m
        · obtain ⟨g, o, rfl, hg, hc⟩ := HA.out (by omega)
          have hx := Hfr.out.cell (p := ⟨g, o + k, none⟩) (by simp [From]; omega) (hc k _ (HD.out k hlt))
          clear hc
          generalize l.getD k 0 = x at hx
          go_wp2_with fail
          refine (alike_round _ x j (by omega) (by omega)).mono ?_
          rintro e w2 ⟨rfl, rfl⟩
          have hk1 := Int.emod_nonneg x (show (j : Int) ≠ 0 by omega)
          have hk2 := Int.emod_lt_of_pos x (show 0 < (j : Int) by omega)
          generalize x % (j : Int) = t at *
          have ht : t ∈ q := (Hqm.out t).2 ⟨hk1, hk2⟩
          have ht2 : t ∉ q.erase t := fun h => (List.Nodup.mem_erase_iff Hqd.out).1 h |>.1 rfl
          have Hlen : Hid ((q.erase t).length = j - 1) := by rw [List.length_erase_of_mem ht, Hql.out]; exact rfl
          have Ht := Lib.hid ht; have Ht2 := Lib.hid ht2
          clear ht ht2
          go_wp2_with fail
          refine (ready_remove wr _ b q t Hr.out Ht.out).mono ?_
          rintro e w3 ⟨rfl, hf3, hr3⟩
          have Hw3 := Lib.hid (Hw.out.fr hf3 Htw.out.disR)
          have Ht3 := Lib.hid (Htw.out.fr hf3)
          have Hfr3 := Lib.hid (Hfr.out.trans0 (hf3.fromL Htw.out))
          have Hr3 := Lib.hid hr3
          clear hf3 hr3
          go_wp2_with fail
          refine (ready_remove_no w3 _ b _ t Hr3.out Ht2.out).mono ?_
          rintro e w4 ⟨rfl, hf4⟩
          have Hw4 := Lib.hid (Hw3.out.fr hf4 fun _ _ q => q)
          have Ht4 := Lib.hid (Ht3.out.fr hf4)
          have Hfr4 := Lib.hid (Hfr3.out.trans0 hf4.none)
          have Hr4 := Lib.hid (Hr3.out.fr0 hf4)
          clear hf4
          go_wp2_with fail
          refine (ready_add w4 _ b _ t Hr4.out hk1 Ht2.out (by rw [Hlen.out]; omega)).mono ?_
          rintro e w5 ⟨rfl, hf5, hr5⟩
          have Hw5 := Lib.hid (Hw4.out.fr hf5 Ht4.out.disR)
          have Ht5 := Lib.hid (Ht4.out.growL hf5.size Hfr4.out.size)
          have Hfr5 := Lib.hid (Hfr4.out.trans0 (hf5.fromL Ht4.out))
          have Hr5 := Lib.hid hr5
          clear hf5 hr5
          go_wp2_with fail
          go_loopw [10, 11] (fun vl i wr => ∃ (f : List Int) (k p : Nat), f = (q.take k).filter (· != t) ∧ f.length = p ∧ p ≤ k ∧ k ≤ j ∧ i = .int .i64 k ∧ ∃ A c, vl = .slice A p c ∧ Fr (From w5.heap.size) w5 wr ∧ Sl wr (From w5.heap.size) 3 1 (.slice A p c) p (ints f)) (fun _ i _ => j - (intOf i).toNat)
          case atStart => exact ⟨[], 0, 0, rfl, rfl, Nat.le_refl _, Nat.zero_le _, rfl, none, 0, rfl, Fr.refl _ _, Sl.nil _ _ _ _⟩
          case round =>
            rename_i wr8 _
            obtain ⟨f, k', p, hfe, hfl, hpk, hkj, rfl, A6, c6, rfl, hfr6, hs6⟩ := hrel
            have hf6 : Fr Nob w5 wr := hfr6.mono fun k hk q => by unfold From at q; omega
            have Hw6 := Lib.hid (Hw5.out.fr hf6 fun _ _ q => q)
            have Hf6 := Lib.hid hf6; have Hfr6 := Lib.hid hfr6; have Hs6 := Lib.hid hs6
            have Hfe := Lib.hid hfe; have Hfl := Lib.hid hfl
            clear hf6 hfr6 hs6 hfe hfl
            by_cases hlt6 : k' < j
            · obtain ⟨gw, ow, cw, hv, hTg, hgw, hcw, hcm, hcell, _⟩ := Hw6.out.form (by omega)
              cases hv
              have hy := hcell k' _ (ints_get (by rw [Hql.out]; exact hlt6))
              have hst := filter_take q t k' (by rw [Hql.out]; exact hlt6)
              rw [← Hfe.out] at hst
              generalize q.getD k' 0 = y at *
              have Hst := Lib.hid hst
              clear hcell hst
              by_cases hyt : y = t
              · subst hyt
                go_wp2_with fail
                go_roundw
                case rel => exact ⟨f, k' + 1, p, by rw [Hst.out, if_pos rfl], Hfl.out, by omega, by omega, by go_num, _, _, rfl, Hfr6.out, Hs6.out⟩
                case measure => simp [intOf]; omega
              · have e1 : (y == t) = false := by simpa using hyt
                go_wp2_with (at_builtin; refine wpList_append1 _ rfl _ _ _ rfl (From w5.heap.size) 3 _ 1 8 Try.underlying26 Try.info_int' rfl (by omega) (.slice A6 p c6) p (ints f) [.int .i64 y] rfl Hs6.out rfl rfl rfl (by omega) (by omega) ?_; intro v3 w3 hs3 hf3 hz3)
                obtain ⟨A3, c3, rfl⟩ := hs3.slice
                have Hs3 : Hid (Sl w3 (From w5.heap.size) 3 1 (.slice A3 (p + 1) c3) (p + 1) (ints (f ++ [y]))) := by
                  have hz := Hfr6.out.size
                  have := hs3.mono (S' := From w5.heap.size) (fun k hk q => by rcases q with q | q; exact q; unfold From; omega)
                  simpa [ints] using Lib.hid this
                have Hf3 := Lib.hid (Hfr6.out.trans0 hf3)
                clear hs3 hf3 hz3
                go_wp2_with fail
                go_roundw
                case rel => exact ⟨f ++ [y], k' + 1, p + 1, by rw [Hst.out, if_neg hyt], by simp [Hfl.out], by omega, by omega, by go_num, _, _, rfl, Hf3.out, Hs3.out⟩
                case measure => simp [intOf]; omega
            · obtain rfl : k' = j := by omega
              have hfq : f = q.erase t := by rw [Hfe.out, ← Hql.out, List.take_length, List.Nodup.erase_eq_filter Hqd.out]
              have hpj : p = k' - 1 := by rw [← Hfl.out, hfq, Hlen.out]
              have Hfq := Lib.hid hfq
              clear hfq
              go_wp2_with (at_builtin; refine wpList_append1 _ rfl _ _ _ rfl (From w5.heap.size) 3 _ 1 8 Try.underlying26 Try.info_int' rfl (by omega) (.slice A6 p c6) p (ints f) [.int .i64 t] rfl Hs6.out rfl rfl rfl (by omega) (by omega) ?_; intro v3 w3 hs3 hf3 hz3)
              obtain ⟨A3, c3, rfl⟩ := hs3.slice
              have hz := Hfr6.out.size
              have hz5 := Hfr5.out.size
              have hpp : p + 1 = k' := by omega
              have Hs3 : Hid (Sl w3 (fun k => w5.heap.size ≤ k ∧ k < w3.heap.size) 3 1 (.slice A3 k' c3) k' (ints (q.erase t ++ [t]))) := by
                rw [← Hfq.out, ← hpp]
                have := hs3.mono (S' := fun k => w5.heap.size ≤ k ∧ k < w3.heap.size) (fun k hk q => by rcases q with q | q; exact ⟨q, hk⟩; exact ⟨by omega, hk⟩)
                simpa [ints] using Lib.hid this
              have hf7 : Fr Nob w5 w3 := (Hfr6.out.trans0 hf3).mono fun k hk q => by unfold From at q; omega
              have Hr7 := Lib.hid (Hr5.out.fr0 hf7)
              have Hf7 := Lib.hid (Hfr5.out.trans0 hf7.none)
              have Ht7 : Hid (Two w.heap.size w3 (And' S w4 w5) (fun k => w5.heap.size ≤ k ∧ k < w3.heap.size)) := ⟨fun k q => by have := Ht5.out.l k q; have := hf7.size; omega, fun k q => by omega, fun k a b => by have := Ht5.out.l k a; omega⟩
              rw [hpp]
              clear hs3 hf3 hz3 hf7 hpp hpj
              go_wp2_with fail
              go_roundw
              case rel =>
                refine ⟨q.erase t ++ [t], k + 1, ?_, ?_, ?_, by omega, by go_num, _, _, _, _, rfl, Hf7.out, Ht7.out, Hr7.out, Hs3.out⟩
                · simp [Hlen.out]; omega
                · refine List.nodup_append.2 ⟨Hqd.out.erase t, by simp, ?_⟩
                  intro a ha b hb
                  simp at hb
                  rintro rfl
                  exact Ht2.out (hb ▸ ha)
                · intro x
                  simp only [List.mem_append, List.mem_singleton, List.Nodup.mem_erase_iff Hqd.out]
                  rw [Hqm.out x]
                  constructor
                  · rintro (h | h)
                    · exact h.2
                    · subst h; exact ⟨hk1, hk2⟩
                  · intro h
                    by_cases hxt : x = t
                    · exact .inr hxt
                    · exact .inl ⟨hxt, h⟩
              case measure => simp [intOf]; omega
        · go_wp2_with fail
          refine (ready_all wr _ b q j Hql.out Hr.out).mono ?_
          rintro e w2 ⟨v2, rfl, hf2, hs2⟩
          obtain ⟨A2, c2, rfl⟩ := hs2.slice
          have Hw2 := Lib.hid (Hw.out.fr hf2 fun _ _ q => q)
          have Hf2 := Lib.hid (Hfr.out.trans0 hf2.none)
          have Hs2 := Lib.hid hs2
          clear hf2 hs2
          go_wp2_with fail
          refine (alike_ints_n w2 _ _ q j Hql.out Hs2.out.rd Hw2.out.rd).mono ?_
          rintro e w3 ⟨rfl, hq3⟩
          have Hf3 := Lib.hid (Hf2.out.trans0 (Fr.ofDrew hq3).none)
          clear hq3
          go_wp2_with fail
          refine (ready_awake w3).mono ?_
          rintro e w4 ⟨rfl, hf4⟩
          go_wp2_with fail
          go_ret
          exact ⟨rfl, (Hf3.out.trans0 hf4.none).below (Nat.le_refl _) fun _ q => q⟩

theorem readyBehind_walk (n : Int) (v : Value) (l : List Int) (w : World) (w0 : (Lit.int .i64 n).wf = true) (h : IsInts w v l) :
    Calls Try.prog 5 #[.int .i64 n, v] w fun e w' => e = .returned (.bool true) ∧ Below w.heap.size w w' := by
  by_cases hb : n < 1 ∨ 40 < n ∨ 60 < l.length
  · exact readyBehind_bad n v l w h hb
  · obtain ⟨k, rfl⟩ := Int.eq_ofNat_of_zero_le (show 0 ≤ n by omega)
    exact readyBehind_good k v l w h (by omega) (by omega) (by omega)

/-! The row: out of the walk above. -/
namespace readyBehind
open Go.ChangeShapes Go.WideShapes Go.ChangeAt Go.RowKit
open Go.ChangeMaps (open_string shut_string)
theorem own : ownKnob Try.prog.godebug = none := by kernel_rfl
theorem laidOut : laidOutB Try.prog = true := by kernel_rfl
set_option maxRecDepth 100000 in
theorem lifted (os : Os) (started : os.Started) (H : Type) (enc : TypeId × Value → H) :
    ReturnsInHanded {} Try.checked os 5 .any (Rows.readyBehindSpec.pre6 enc Try.prog Try.f5 Rows.readyBehindRow.domain false) (Rows.readyBehindSpec.post enc Try.prog Try.f5 false true false false) := by
  refine returnsInHanded_of_change (C := Try.checked) own started (by kernel_rfl) Try.func5
    (ChangeSpec.witness6 (enc := enc) (C := Try.checked) false ⟨#[], #[.int .i64 0, .slice none 0 0], []⟩ 8 (by kernel_rfl) (by kernel_rfl) (by kernel_rfl) (by kernel_rfl)) ?_
  intro W base args ds gs before hval0 hW hcnd _
  have hval : ∀ (j : Nat) t v, Try.f5.params[j]? = some t → args[j]? = some v → Value.okWide Try.prog W .any base t v := hval0
  have hW' := hW
  obtain ⟨p, q, hA0, hV, rfl, hfz, hnd⟩ := hW
  have hA : DataW.TrodAll enc Try.prog W 0 (fun _ => true) true Try.f5.params.toList args.toList ds p := hA0
  rw [Try.params5] at hA hval
  obtain ⟨v0, vs0, d0, ds0, p0, q0, hargs, rfl, rfl, h0, r0⟩ := trodAll_cons hA
  obtain ⟨v1, vs1, d1, ds1, p1, q1, rfl, rfl, rfl, h1, r1⟩ := trodAll_cons r0
  obtain ⟨rfl, rfl, rfl⟩ := trodAll_nil r1
  obtain rfl : args = #[v0, v1] := by cases args; simp_all
  obtain ⟨rfl, rfl⟩ := trodVars_none hV
  obtain ⟨a0, rfl, rfl, rfl, w0⟩ := open_int Try.underlying3 (hval 0 3 v0 rfl rfl) h0
  have k1 := h1
  have lt1 : ∀ x ∈ p1, x.block < W.heap.size := by obtain ⟨m, hm⟩ := k1; exact DataW.trod_lt m _ _ _ hm
  obtain ⟨x1, g1⟩ := opn_ints (hval 1 26 v1 rfl rfl) h1
  clear hA0 hval0
  refine (readyBehind_walk a0 v1 x1 W w0 g1).mono fun e W' ⟨he, bel⟩ => ?_
  subst he
  exact ⟨_, rfl, _, _, _, [], _, [], hW', trodAll_mk1 (shut_bool Try.underlying4 _), (trodAll_cons_mk (shut_int Try.underlying3 w0) (trodAll_cons_mk (Below.trod laidOut (by kernel_rfl) (of_decide_eq_true (by kernel_rfl)) k1 bel lt1) trodAll_mk0)), rfl, bel.frame _, fun h => by cases h⟩
theorem over : Rows.readyBehindRow.holds Try.pinned (OpenSpec.ofChange Rows.readyBehindSpec) :=
  OpenClaim.holds_of_wide 5 Try.f5 rfl rfl rfl rfl rfl rfl rfl ⟨rfl, rfl, rfl, rfl, rfl⟩ rfl rfl rfl rfl rfl (by kernel_rfl) Try.func5 (by kernel_rfl)
    (of_decide_eq_true (by kernel_rfl)) (by unfold Func.isWrapper; first | (rw [if_pos (by decide +kernel)]; kernel_rfl) | (rw [if_neg (by decide +kernel)]; exact ⟨rfl, rfl⟩))
    (fun os started H enc _ => lifted os started H enc)
end readyBehind
/-- THE STATEMENT. -/
theorem readyBehind_holds : Rows.ReadyBehindSaid := readyBehind.over
#print axioms readyBehind_holds
end Go.Proofs.Ytpjkjnejlmmapaa
