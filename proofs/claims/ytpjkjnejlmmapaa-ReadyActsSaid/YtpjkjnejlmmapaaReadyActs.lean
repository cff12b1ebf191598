/- ReadyActs answers true whatever its acts are; its arguments read as they did: no condition. -/
import Derived.Test.YtpjkjnejlmmapaaOpen
import Derived.Test.YtpjkjnejlmmapaaMore
import Derived.Test.YtpjkjnejlmmapaaReadyAwake
import Derived.IntWalk
set_option linter.unusedVariables false
set_option linter.unusedSimpArgs false
namespace Go.Proofs.Ytpjkjnejlmmapaa
open Go.RowKit
set_option maxRecDepth 100000

theorem take_snoc (q : List Int) (k : Nat) (hk : k < q.length) : q.take (k + 1) = q.take k ++ [q.getD k 0] := by
  rw [List.take_add_one]; simp [List.getD, hk]
theorem ix_hit (q : List Int) (x : Int) (k : Nat) (hd : q.Nodup) (hk : k < q.length) (hx : q.getD k 0 = x) : ixOf (q.take (k + 1)) x = k := by
  refine ixOf_at (q.take (k + 1)) x k (by simp; omega) ?_ ?_
  · rw [take_snoc q k hk]; simp [List.getD, List.getElem?_append, Nat.min_eq_left (Nat.le_of_lt hk)]; simpa [List.getD] using hx
  · rw [List.take_take, Nat.min_eq_left (by omega)]; exact ixo_hit q x k hd hk hx
theorem ix_miss (q : List Int) (x : Int) (k : Nat) (hk : k < q.length) (hx : q.getD k 0 ≠ x) : ixOf (q.take (k + 1)) x = ixOf (q.take k) x := by
  rw [take_snoc q k hk]
  generalize q.getD k 0 = y at *
  unfold ixOf
  by_cases hm : x ∈ q.take k
  · rw [if_pos (List.mem_append_left _ hm), if_pos hm, List.idxOf_append, if_pos hm]
  · rw [if_neg, if_neg hm]
    intro h
    rcases List.mem_append.1 h with h | h
    · exact hm h
    · simp at h; exact hx h.symm

set_option maxHeartbeats 1000000 in
theorem readyActs_bad (v : Value) (l : List (Int × Int)) (w : World) (h : IsPairs w v l) (hb : 100 < l.length) :
    Calls Try.prog 3 #[v] w fun e w' => e = .returned (.bool true) ∧ Below w.heap.size w w' := by
  obtain ⟨⟨_, hl, A, c, rfl, hc1, hc2, hA⟩, hwf⟩ := h
  unfold maxLen at hl
  clear hA hwf
  generalize l.length = m at *
  go_enter Try.func3, Try.ntmps3
  go_wp2_with fail
  refine (ready_awake w).mono ?_
  rintro e w' ⟨rfl, hf⟩
  go_wp2_with fail
  go_ret
  exact ⟨rfl, hf.below (Nat.le_refl _) fun _ q => q.elim⟩

set_option maxHeartbeats 8000000 in
theorem readyActs_good (v : Value) (l : List (Int × Int)) (w : World) (h : IsPairs w v l) (hn : l.length ≤ 100) :
    Calls Try.prog 3 #[v] w fun e w' => e = .returned (.bool true) ∧ Below w.heap.size w w' := by
  obtain ⟨⟨_, hl, A, c, rfl, hc1, hc2, hA⟩, hwf⟩ := h
  have HA := Lib.hid hA
  have hd : ∀ i, i < l.length → (pairs l)[i * 2]? = some (.int .i64 (l.getD i (0, 0)).1) ∧ (pairs l)[i * 2 + 1]? = some (.int .i64 (l.getD i (0, 0)).2) := fun i hi => by
    have h0 : l[i]? = some (l.getD i (0, 0)) := by simp [List.getD, hi]
    exact ⟨flat_get (sz := 2) _ l (fun _ _ => rfl) i 0 _ h0 (by omega), flat_get (sz := 2) _ l (fun _ _ => rfl) i 1 _ h0 (by omega)⟩
  have HD := Lib.hid hd
  generalize hnn : l.length = N at *
  clear hA hwf hl hd hnn
  have g3 : ¬ (100 : Int) < N := by omega
  go_enter Try.func3, Try.ntmps3
  go_wp2_with fail
  refine (ready_new w).mono ?_
  rintro e w1 ⟨b, rfl, hf1, hr1⟩
  have Hf1 := Lib.hid hf1; have Hr1 := Lib.hid hr1; clear hf1 hr1
  go_wp2_with fail
  go_loopw [4, 5] (fun wt i wr => ∃ (q : List Int) (m j : Nat), q.length = m ∧ q.Nodup ∧ (∀ x ∈ q, 0 ≤ x) ∧ m ≤ j ∧ j ≤ N ∧ i = .int .i64 j ∧ ∃ A c S T, wt = .slice A m c ∧ Fr (From w.heap.size) w wr ∧ Two w.heap.size wr S T ∧ ReadyAt wr S b q ∧ Sl wr T 3 1 (.slice A m c) m (ints q)) (fun _ i _ => N - (intOf i).toNat)
  case atStart => exact ⟨[], 0, 0, rfl, List.nodup_nil, by simp, Nat.le_refl _, Nat.zero_le _, rfl, none, 0, _, Nob, rfl, Hf1.out.none, ⟨fun k q => q, fun k q => q.elim, fun k a b => b⟩, Hr1.out, Sl.nil _ _ _ _⟩
  case round =>
    obtain ⟨q, m, i, hm, hnd, hpos, hmi, hi, rfl, A', c', S, T, rfl, hfr, htw, hr, hw⟩ := hrel
    have Hfr := Lib.hid hfr; have Htw := Lib.hid htw; have Hr := Lib.hid hr; have Hw := Lib.hid hw; have Hm := Lib.hid hm; have Hnd := Lib.hid hnd; have Hpos := Lib.hid hpos
    clear hfr htw hr hw hm hnd hpos
    by_cases hlt : i < N
    · obtain ⟨g, o, rfl, hg, hc⟩ := HA.out (by omega)
      have hx0 := hc _ _ (HD.out i hlt).1
      have hy0 := hc _ _ (HD.out i hlt).2
      have hx := Hfr.out.cell (p := ⟨g, o + i * 2, none⟩) (by simp [From]; omega) hx0
      have hy := Hfr.out.cell (p := ⟨g, o + (i * 2 + 1), none⟩) (by simp [From]; omega) hy0
      rw [← Nat.add_assoc] at hy
      clear hc hx0 hy0
      generalize (l.getD i (0, 0)).1 = x at *
      generalize (l.getD i (0, 0)).2 = t at *
      go_wp2_with fail
      go_loopw [7, 8] (fun a k wz => ∃ kk : Nat, k = .int .i64 kk ∧ kk ≤ m ∧ a = .int .i64 (ixOf (q.take kk) t) ∧ wz = wr) (fun _ k _ => m - (intOf k).toNat)
      case atStart => exact ⟨0, rfl, Nat.zero_le _, rfl, rfl⟩
      case round =>
        obtain ⟨k, rfl, hk, rfl, rfl⟩ := hrel
        by_cases hlt6 : k < m
        · obtain ⟨gw, ow, cw, hv, hTg, hgw, hcw, hcm, hcell, _⟩ := Hw.out.form (by omega)
          cases hv
          have hy := hcell k _ (ints_get (by rw [Hm.out]; exact hlt6))
          have h1 := ix_hit q t k Hnd.out (by rw [Hm.out]; exact hlt6)
          have h2 := ix_miss q t k (by rw [Hm.out]; exact hlt6)
          generalize q.getD k 0 = y at *
          have H1 := Lib.hid h1; have H2 := Lib.hid h2
          clear hcell h1 h2
          by_cases hyt : y = t
          · subst hyt
            go_wp2_with fail
            go_roundw
            case rel => exact ⟨k + 1, by go_num, by omega, by rw [H1.out rfl], by first | rfl | trivial⟩
            case measure => simp [intOf]; omega
          · have e1 : (y == t) = false := by simpa using hyt
            go_wp2_with fail
            go_roundw
            case rel => exact ⟨k + 1, by go_num, by omega, by rw [H2.out hyt], by first | rfl | trivial⟩
            case measure => simp [intOf]; omega
        · obtain rfl : k = m := by omega
          have hix : ixOf (q.take k) t = ixOf q t := by rw [← Hm.out, List.take_length]
          rw [hix]
          clear hix
          have hround := alike_round wr x 3 (by omega) (by omega)
          have ho1 := Int.emod_nonneg x (show (3 : Int) ≠ 0 by omega)
          have ho2 := Int.emod_lt_of_pos x (show 0 < (3 : Int) by omega)
          generalize x % (3 : Int) = op at *
          have Hround := Lib.hid hround; clear hround
          by_cases hmem : t ∈ q
          · have hlt2 := List.idxOf_lt_length_of_mem hmem
            have hix : ixOf q t = ((q.idxOf t : Nat) : Int) := if_pos hmem
            have her : q.erase t = q.eraseIdx (q.idxOf t) := by rw [List.erase_eq_eraseIdx_of_idxOf (i := q.idxOf t) rfl]
            have hlen : (q.erase t).length = q.length - 1 := List.length_erase_of_mem hmem
            rw [Hm.out] at hlt2 hlen
            rw [hix]
            have h0t := Hpos.out t hmem
            have Her := Lib.hid her; have Hlen := Lib.hid hlen; have Hmem := Lib.hid hmem
            clear hix her hlen hmem
            generalize q.idxOf t = p at *
            rcases (by omega : op = 0 ∨ op = 1 ∨ op = 2) with rfl | rfl | rfl
            · go_wp2_with fail
              refine Hround.out.mono ?_
              rintro e w2 ⟨rfl, rfl⟩
              have hgd : decide ((p : Int) < 0) = false := by simp
              go_wp2_with fail
              refine (ready_add_no wr S b q t Hr.out (.inr Hmem.out)).mono ?_
              rintro e w3 ⟨rfl, hf3⟩
              have HmX := Hm; have HnX := Hnd; have HpX := Hpos; have HrX := Lib.hid (Hr.out.fr0 hf3); have HwX := Lib.hid (Hw.out.fr hf3 fun _ _ q => q); have HfX := Lib.hid (Hfr.out.trans0 hf3.none); have HtX := Lib.hid (Htw.out.fr hf3)
              clear hf3
              go_wp2_with fail
              refine (ready_all w3 _ b q k HmX.out HrX.out).mono ?_
              rintro e w7 ⟨v7, rfl, hf7, hs7⟩
              obtain ⟨A7, c7, rfl⟩ := hs7.slice
              have Hw7 := Lib.hid (HwX.out.fr hf7 fun _ _ q => q)
              have Hr7 := Lib.hid (HrX.out.fr0 hf7)
              have Hf7 := Lib.hid (HfX.out.trans0 hf7.none)
              have Ht7 := Lib.hid (HtX.out.fr hf7)
              have Hs7 := Lib.hid hs7
              clear hf7 hs7
              go_wp2_with fail
              refine (alike_ints_n w7 _ _ q k HmX.out Hs7.out.rd Hw7.out.rd).mono ?_
              rintro e w8 ⟨rfl, hq8⟩
              have hf8 := Fr.ofDrew hq8; clear hq8
              have Hw8 := Lib.hid (Hw7.out.fr hf8 fun _ _ q => q)
              have Hr8 := Lib.hid (Hr7.out.fr0 hf8)
              have Hf8 := Lib.hid (Hf7.out.trans0 hf8.none)
              have Ht8 := Lib.hid (Ht7.out.fr hf8)
              clear hf8
              go_wp2_with fail
              refine (ready_len w8 _ b q k HmX.out Hr8.out).mono ?_
              rintro e w9 ⟨rfl, rfl⟩
              go_wp2_with fail
              go_roundw
              case rel => exact ⟨q, k, i + 1, HmX.out, HnX.out, HpX.out, by omega, by omega, by go_num, _, _, _, _, rfl, Hf8.out, Ht8.out, Hr8.out, Hw8.out⟩
              case measure => simp [intOf]; omega
            · go_wp2_with fail
              refine Hround.out.mono ?_
              rintro e w2 ⟨rfl, rfl⟩
              have hgd : decide ((0 : Int) ≤ p) = true := by simp
              go_wp2_with fail
              refine (ready_remove wr S b q t Hr.out Hmem.out).mono ?_
              rintro e w3 ⟨rfl, hf3, hr3⟩
              have Hr3 := Lib.hid hr3
              have hw3 := Hw.out.fr hf3 Htw.out.disR
              have Hf3 := Lib.hid (Hfr.out.trans0 (hf3.fromL Htw.out))
              have Ht3 := Lib.hid (Htw.out.fr hf3)
              obtain ⟨gw, ow, cw, hv, hTg, hgw, hcw, hcm, hcell, _⟩ := hw3.form (by omega)
              cases hv
              obtain ⟨A2, hrun2, hS2, hR2⟩ := cut_h (P := Try.prog) 26 3 1 Try.underlying26 (by kernel_rfl) (some ⟨gw, ow, none⟩) k c' p (by omega) (by omega)
              obtain ⟨A3, hrun3, hS3, hR3⟩ := cut_l (P := Try.prog) 26 3 1 Try.underlying26 (by kernel_rfl) (some ⟨gw, ow, none⟩) k c' (p + 1) (by omega)
              have hR2' := hR2 w3 _ hw3.rd
              have hR3' := hR3 w3 _ hw3.rd
              rw [Nat.mul_one] at hR2' hR3'
              have HR2 := Lib.hid hR2'; have HR3 := Lib.hid hR3'
              have hrun3' : ∀ W : World, (Instr.slice 26 (.slice (some ⟨gw, ow, none⟩) k c') (some (.int .i64 ((p : Int) + 1))) none none).run Try.prog W = .ok (.slice A3 (k - (p + 1)) (c' - (p + 1))) W := hrun3
              clear hcell hS2 hS3 hR2 hR3 hR2' hR3' hrun3 hf3 hr3 hw3
              have e1 : IntKind.i64.wrap ((p : Int) + 1) = (p : Int) + 1 := IntWalk.i64_in _ (by omega)
              have H0 : Hid (Sl ((w3.alloc (.cells #[] 3)).drew) (From w3.heap.size) 3 1 (.slice (some ⟨w3.heap.size, 0, none⟩) 0 0) 0 []) := (Sl.lit w3 3 1 #[] 0 (From w3.heap.size) (by simp [From]) (by simp [maxLen]) rfl).drew
              have Hk := Lib.hid hcm
              unfold maxLen at hcm
              go_wp2_with fail
              go_region_held3 (fun _ => True) (exact trivial)
                ((first | (refine step_append_rd _ rfl _ _ _ rfl (From w3.heap.size) 3 _ 1 8 Try.underlying26 Try.info_int' rfl (by omega) (.slice (some ⟨w3.heap.size, 0, none⟩) 0 0) 0 [] rfl H0.out (.slice A2 p c') p _ rfl (HR2.out.fr (((Fr.refl Nob w3).alloc _).drew)) (by intro u hu; exact ints_one q u (List.mem_of_mem_take hu)) (by omega) (by omega) ?_; intro v4 w4 hs4 hf4) | (refine step_append_rd _ rfl _ _ _ rfl (From w3.heap.size) 3 _ 1 8 Try.underlying26 Try.info_int' rfl (by omega) v4 (0 + p) _ rfl (hs4.mono (fun k hk q => by rcases q with q | q; exact q; simp at q; unfold From; omega)) (.slice A3 (k - (p + 1)) (c' - (p + 1))) (k - (p + 1)) _ rfl (HR3.out.fr (((((Fr.refl (From w3.heap.size) w3).alloc _).drew).trans0 hf4).mono fun k hk q => by unfold From at q; omega)) (by intro u hu; exact ints_one q u (List.mem_of_mem_drop hu)) (by omega) (by omega) ?_; intro v5 w5 hs5 hf5)))
              obtain ⟨A5, c5, rfl⟩ := hs5.slice
              have hf6 : Fr (From w3.heap.size) w3 w5 := (((((Fr.refl (From w3.heap.size) w3).alloc _).drew).trans0 hf4).trans0 hf5)
              have hz3 := Hf3.out.size
              have hfn : Fr Nob w3 w5 := hf6.mono fun k hk q => by unfold From at q; omega
              have hz5 := hf6.size
              have HtX : Hid (Two w.heap.size w5 S (fun k => w3.heap.size ≤ k ∧ k < w5.heap.size)) := ⟨fun k q => by have := Ht3.out.l k q; omega, fun k q => by omega, fun k a b => by have := Ht3.out.l k a; omega⟩
              have hk5 : 0 + p + (k - (p + 1)) = k - 1 := by omega
              rw [hk5] at hs5 ⊢
              have HwX : Hid (Sl w5 (fun k => w3.heap.size ≤ k ∧ k < w5.heap.size) 3 1 (.slice A5 (k - 1) c5) (k - 1) (ints (q.erase t))) := by
                have h := hs5.mono (S' := fun k => w3.heap.size ≤ k ∧ k < w5.heap.size) (fun k hk q => ⟨by rcases q with q | q; exact q; have := hf4.size; simp at this q; omega, hk⟩)
                rw [Her.out, List.eraseIdx_eq_take_drop_succ]
                simpa [ints, List.map_take, List.map_drop] using Lib.hid h
              have HrX := Lib.hid (Hr3.out.fr0 hfn)
              have HfX := Lib.hid (Hf3.out.trans0 hfn.none)
              have HmX := Hlen
              have HnX := Lib.hid (Hnd.out.erase t)
              have HpX : Hid (∀ x ∈ q.erase t, 0 ≤ x) := fun x hx => Hpos.out x (List.mem_of_mem_erase hx)
              clear hs4 hf4 hs5 hf5 hf6 hfn hk5 hz5 hz3 hrun2 hrun3' e1
              go_wp2_with fail
              refine (ready_all w5 _ b (q.erase t) (k - 1) HmX.out HrX.out).mono ?_
              rintro e w7 ⟨v7, rfl, hf7, hs7⟩
              obtain ⟨A7, c7, rfl⟩ := hs7.slice
              have Hw7 := Lib.hid (HwX.out.fr hf7 fun _ _ q => q)
              have Hr7 := Lib.hid (HrX.out.fr0 hf7)
              have Hf7 := Lib.hid (HfX.out.trans0 hf7.none)
              have Ht7 := Lib.hid (HtX.out.fr hf7)
              have Hs7 := Lib.hid hs7
              clear hf7 hs7
              go_wp2_with fail
              refine (alike_ints_n w7 _ _ (q.erase t) (k - 1) HmX.out Hs7.out.rd Hw7.out.rd).mono ?_
              rintro e w8 ⟨rfl, hq8⟩
              have hf8 := Fr.ofDrew hq8; clear hq8
              have Hw8 := Lib.hid (Hw7.out.fr hf8 fun _ _ q => q)
              have Hr8 := Lib.hid (Hr7.out.fr0 hf8)
              have Hf8 := Lib.hid (Hf7.out.trans0 hf8.none)
              have Ht8 := Lib.hid (Ht7.out.fr hf8)
              clear hf8
              go_wp2_with fail
              refine (ready_len w8 _ b (q.erase t) (k - 1) HmX.out Hr8.out).mono ?_
              rintro e w9 ⟨rfl, rfl⟩
              go_wp2_with fail
              go_roundw
              case rel => exact ⟨(q.erase t), (k - 1), i + 1, HmX.out, HnX.out, HpX.out, by omega, by omega, by go_num, _, _, _, _, rfl, Hf8.out, Ht8.out, Hr8.out, Hw8.out⟩
              case measure => simp [intOf]; omega
            · skip
              by_cases hm0 : k = 0
              · obtain rfl : k = 0 := hm0
                obtain rfl : q = [] := List.eq_nil_of_length_eq_zero Hm.out
                go_wp2_with fail
                refine Hround.out.mono ?_
                rintro e w2 ⟨rfl, rfl⟩
                go_wp2_with fail
                refine (ready_pick_none wr S b t Hr.out).mono ?_
                rintro e w3 ⟨rfl, hf3⟩
                have HmX := Hm; have HnX := Hnd; have HpX := Hpos; have HrX := Lib.hid (Hr.out.fr0 hf3); have HwX := Lib.hid (Hw.out.fr hf3 fun _ _ q => q); have HfX := Lib.hid (Hfr.out.trans0 hf3.none); have HtX := Lib.hid (Htw.out.fr hf3)
                clear hf3
                go_wp2_with fail
                refine (ready_all w3 _ b [] 0 HmX.out HrX.out).mono ?_
                rintro e w7 ⟨v7, rfl, hf7, hs7⟩
                obtain ⟨A7, c7, rfl⟩ := hs7.slice
                have Hw7 := Lib.hid (HwX.out.fr hf7 fun _ _ q => q)
                have Hr7 := Lib.hid (HrX.out.fr0 hf7)
                have Hf7 := Lib.hid (HfX.out.trans0 hf7.none)
                have Ht7 := Lib.hid (HtX.out.fr hf7)
                have Hs7 := Lib.hid hs7
                clear hf7 hs7
                go_wp2_with fail
                refine (alike_ints_n w7 _ _ [] 0 HmX.out Hs7.out.rd Hw7.out.rd).mono ?_
                rintro e w8 ⟨rfl, hq8⟩
                have hf8 := Fr.ofDrew hq8; clear hq8
                have Hw8 := Lib.hid (Hw7.out.fr hf8 fun _ _ q => q)
                have Hr8 := Lib.hid (Hr7.out.fr0 hf8)
                have Hf8 := Lib.hid (Hf7.out.trans0 hf8.none)
                have Ht8 := Lib.hid (Ht7.out.fr hf8)
                clear hf8
                go_wp2_with fail
                refine (ready_len w8 _ b [] 0 HmX.out Hr8.out).mono ?_
                rintro e w9 ⟨rfl, rfl⟩
                go_wp2_with fail
                go_roundw
                case rel => exact ⟨[], 0, i + 1, HmX.out, HnX.out, HpX.out, by omega, by omega, by go_num, _, _, _, _, rfl, Hf8.out, Ht8.out, Hr8.out, Hw8.out⟩
                case measure => simp [intOf]; omega
              · have hk1 := Int.emod_nonneg t (show (k : Int) ≠ 0 by omega)
                have hk2 := Int.emod_lt_of_pos t (show 0 < (k : Int) by omega)
                have hpick := ready_pick wr S b q t k Hm.out Hr.out (by omega)
                have href := fun w => ref_pick w t k (by omega) (by omega)
                obtain ⟨p, hp⟩ := Int.eq_ofNat_of_zero_le hk1
                rw [hp] at hk2 hpick href
                rw [Int.toNat_natCast] at hpick
                have hpk : p < k := by omega
                have hgp : (ints q)[p]? = some (.int .i64 (q.getD p 0)) := ints_get (by rw [Hm.out]; exact hpk)
                generalize q.getD p 0 = y at *
                have Hpick := Lib.hid hpick; have Href := Lib.hid href; have Hgp := Lib.hid hgp
                clear hpick href hp hk1 hgp
                go_wp2_with fail
                refine Hround.out.mono ?_
                rintro e w2 ⟨rfl, rfl⟩
                go_wp2_with fail
                refine Hpick.out.mono ?_
                rintro e w3 ⟨rfl, hf3⟩
                have HmX := Hm; have HnX := Hnd; have HpX := Hpos; have HrX := Lib.hid (Hr.out.fr0 hf3); have HwX := Lib.hid (Hw.out.fr hf3 fun _ _ q => q); have HfX := Lib.hid (Hfr.out.trans0 hf3.none); have HtX := Lib.hid (Htw.out.fr hf3)
                clear hf3
                obtain ⟨gw, ow, cw, hv, hTg, hgw, hcw, hcm, hcell, _⟩ := HwX.out.form (by omega)
                cases hv
                have hy5 := hcell p _ Hgp.out
                clear hcell
                have hk0 : decide ((0 : Int) < k) = true := by simp; omega
                go_wp2_with fail
                refine (Href.out _).mono ?_
                rintro e w4 ⟨rfl, rfl⟩
                go_wp2_with fail
                refine (ready_all w4 _ b q k HmX.out HrX.out).mono ?_
                rintro e w7 ⟨v7, rfl, hf7, hs7⟩
                obtain ⟨A7, c7, rfl⟩ := hs7.slice
                have Hw7 := Lib.hid (HwX.out.fr hf7 fun _ _ q => q)
                have Hr7 := Lib.hid (HrX.out.fr0 hf7)
                have Hf7 := Lib.hid (HfX.out.trans0 hf7.none)
                have Ht7 := Lib.hid (HtX.out.fr hf7)
                have Hs7 := Lib.hid hs7
                clear hf7 hs7
                go_wp2_with fail
                refine (alike_ints_n w7 _ _ q k HmX.out Hs7.out.rd Hw7.out.rd).mono ?_
                rintro e w8 ⟨rfl, hq8⟩
                have hf8 := Fr.ofDrew hq8; clear hq8
                have Hw8 := Lib.hid (Hw7.out.fr hf8 fun _ _ q => q)
                have Hr8 := Lib.hid (Hr7.out.fr0 hf8)
                have Hf8 := Lib.hid (Hf7.out.trans0 hf8.none)
                have Ht8 := Lib.hid (Ht7.out.fr hf8)
                clear hf8
                go_wp2_with fail
                refine (ready_len w8 _ b q k HmX.out Hr8.out).mono ?_
                rintro e w9 ⟨rfl, rfl⟩
                go_wp2_with fail
                go_roundw
                case rel => exact ⟨q, k, i + 1, HmX.out, HnX.out, HpX.out, by omega, by omega, by go_num, _, _, _, _, rfl, Hf8.out, Ht8.out, Hr8.out, Hw8.out⟩
                case measure => simp [intOf]; omega
          · have hix := ixOf_no q t hmem
            rw [hix]
            have Hmem := Lib.hid hmem
            clear hix hmem
            rcases (by omega : op = 0 ∨ op = 1 ∨ op = 2) with rfl | rfl | rfl
            · by_cases h0t : t < 0
              · go_wp2_with fail
                refine Hround.out.mono ?_
                rintro e w2 ⟨rfl, rfl⟩
                have hgd : decide ((0 : Int) ≤ t) = false := by simp; omega
                go_wp2_with fail
                refine (ready_add_no wr S b q t Hr.out (.inl h0t)).mono ?_
                rintro e w3 ⟨rfl, hf3⟩
                have HmX := Hm; have HnX := Hnd; have HpX := Hpos; have HrX := Lib.hid (Hr.out.fr0 hf3); have HwX := Lib.hid (Hw.out.fr hf3 fun _ _ q => q); have HfX := Lib.hid (Hfr.out.trans0 hf3.none); have HtX := Lib.hid (Htw.out.fr hf3)
                clear hf3
                go_wp2_with fail
                refine (ready_all w3 _ b q k HmX.out HrX.out).mono ?_
                rintro e w7 ⟨v7, rfl, hf7, hs7⟩
                obtain ⟨A7, c7, rfl⟩ := hs7.slice
                have Hw7 := Lib.hid (HwX.out.fr hf7 fun _ _ q => q)
                have Hr7 := Lib.hid (HrX.out.fr0 hf7)
                have Hf7 := Lib.hid (HfX.out.trans0 hf7.none)
                have Ht7 := Lib.hid (HtX.out.fr hf7)
                have Hs7 := Lib.hid hs7
                clear hf7 hs7
                go_wp2_with fail
                refine (alike_ints_n w7 _ _ q k HmX.out Hs7.out.rd Hw7.out.rd).mono ?_
                rintro e w8 ⟨rfl, hq8⟩
                have hf8 := Fr.ofDrew hq8; clear hq8
                have Hw8 := Lib.hid (Hw7.out.fr hf8 fun _ _ q => q)
                have Hr8 := Lib.hid (Hr7.out.fr0 hf8)
                have Hf8 := Lib.hid (Hf7.out.trans0 hf8.none)
                have Ht8 := Lib.hid (Ht7.out.fr hf8)
                clear hf8
                go_wp2_with fail
                refine (ready_len w8 _ b q k HmX.out Hr8.out).mono ?_
                rintro e w9 ⟨rfl, rfl⟩
                go_wp2_with fail
                go_roundw
                case rel => exact ⟨q, k, i + 1, HmX.out, HnX.out, HpX.out, by omega, by omega, by go_num, _, _, _, _, rfl, Hf8.out, Ht8.out, Hr8.out, Hw8.out⟩
                case measure => simp [intOf]; omega
              · go_wp2_with fail
                refine Hround.out.mono ?_
                rintro e w2 ⟨rfl, rfl⟩
                have hgd : decide ((0 : Int) ≤ t) = true := by simp; omega
                go_wp2_with fail
                refine (ready_add wr S b q t Hr.out (by omega) Hmem.out (by rw [Hm.out]; omega)).mono ?_
                rintro e w3 ⟨rfl, hf3, hr3⟩
                have Hr3 := Lib.hid hr3
                have Hw3 := Lib.hid (Hw.out.fr hf3 Htw.out.disR)
                have Hf3 := Lib.hid (Hfr.out.trans0 (hf3.fromL Htw.out))
                have Ht3 := Lib.hid (Htw.out.growL hf3.size Hfr.out.size)
                clear hf3 hr3
                have H0 : Hid (Sl (w3.alloc (.cells #[] 3)) (From w3.heap.size) 3 1 (.slice (some ⟨w3.heap.size, 0, none⟩) 0 0) 0 []) := Sl.lit w3 3 1 #[] 0 (From w3.heap.size) (by simp [From]) (by simp [maxLen]) rfl
                go_wp2_with (at_builtin; first
                  | (refine wpList_append_rd _ rfl _ _ _ rfl (From w3.heap.size) 3 _ 1 8 Try.underlying26 Try.info_int' rfl (by omega) (.slice (some ⟨w3.heap.size, 0, none⟩) 0 0) 0 [] rfl H0.out (.slice A' k c') k (ints q) rfl (Hw3.out.rd.fr ((Fr.refl Nob w3).alloc _)) (ints_one q) (by omega) (by omega) ?_; intro v4 w4 hs4 hf4; have Hs4 := Lib.hid (hs4.mono (S' := From w3.heap.size) (fun k hk q => by rcases q with q | q; exact q; simp at q; unfold From; omega)); have Hf4 := Lib.hid (((Fr.refl (From w3.heap.size) w3).alloc (.cells #[] 3)).trans0 hf4); clear hs4 hf4)
                  | (refine wpList_append1 _ rfl _ _ _ rfl (From w3.heap.size) 3 _ 1 8 Try.underlying26 Try.info_int' rfl (by omega) v4 (0 + k) ([] ++ ints q) [.int .i64 t] rfl Hs4.out rfl rfl rfl (by omega) (by omega) ?_; intro v5 w5 hs5 hf5 hz5))
                obtain ⟨A5, c5, rfl⟩ := hs5.slice
                have hf6 := Hf4.out.trans0 hf5
                have hz3 := Hf3.out.size
                have hfn : Fr Nob w3 w5 := hf6.mono fun k hk q => by unfold From at q; omega
                have hz6 := hf6.size
                have HtX : Hid (Two w.heap.size w5 (And' S wr w3) (fun k => w3.heap.size ≤ k ∧ k < w5.heap.size)) := ⟨fun k q => by have := Ht3.out.l k q; omega, fun k q => by omega, fun k a b => by have := Ht3.out.l k a; omega⟩
                have hk5 : 0 + k + 1 = k + 1 := by omega
                rw [hk5] at hs5 ⊢
                have HwX : Hid (Sl w5 (fun k => w3.heap.size ≤ k ∧ k < w5.heap.size) 3 1 (.slice A5 (k + 1) c5) (k + 1) (ints (q ++ [t]))) := by
                  have h := hs5.mono (S' := fun k => w3.heap.size ≤ k ∧ k < w5.heap.size) (fun k hk q => ⟨by rcases q with q | q; exact q; have := Hf4.out.size; omega, hk⟩)
                  simpa [ints] using Lib.hid h
                have HrX := Lib.hid (Hr3.out.fr0 hfn)
                have HfX := Lib.hid (Hf3.out.trans0 hfn.none)
                have HmX : Hid ((q ++ [t]).length = k + 1) := by rw [List.length_append, Hm.out]; exact rfl
                have HnX : Hid ((q ++ [t]).Nodup) := by
                  refine List.nodup_append.2 ⟨Hnd.out, by simp, ?_⟩
                  intro a ha b hb
                  simp at hb
                  rintro rfl
                  exact Hmem.out (hb ▸ ha)
                have HpX : Hid (∀ x ∈ q ++ [t], 0 ≤ x) := fun x hx => by
                  rcases List.mem_append.1 hx with h | h
                  · exact Hpos.out x h
                  · simp at h; omega
                clear hs5 hf5 hf6 hfn hk5 hz6 hz3 hz5
                go_wp2_with fail
                refine (ready_all w5 _ b (q ++ [t]) (k + 1) HmX.out HrX.out).mono ?_
                rintro e w7 ⟨v7, rfl, hf7, hs7⟩
                obtain ⟨A7, c7, rfl⟩ := hs7.slice
                have Hw7 := Lib.hid (HwX.out.fr hf7 fun _ _ q => q)
                have Hr7 := Lib.hid (HrX.out.fr0 hf7)
                have Hf7 := Lib.hid (HfX.out.trans0 hf7.none)
                have Ht7 := Lib.hid (HtX.out.fr hf7)
                have Hs7 := Lib.hid hs7
                clear hf7 hs7
                go_wp2_with fail
                refine (alike_ints_n w7 _ _ (q ++ [t]) (k + 1) HmX.out Hs7.out.rd Hw7.out.rd).mono ?_
                rintro e w8 ⟨rfl, hq8⟩
                have hf8 := Fr.ofDrew hq8; clear hq8
                have Hw8 := Lib.hid (Hw7.out.fr hf8 fun _ _ q => q)
                have Hr8 := Lib.hid (Hr7.out.fr0 hf8)
                have Hf8 := Lib.hid (Hf7.out.trans0 hf8.none)
                have Ht8 := Lib.hid (Ht7.out.fr hf8)
                clear hf8
                go_wp2_with fail
                refine (ready_len w8 _ b (q ++ [t]) (k + 1) HmX.out Hr8.out).mono ?_
                rintro e w9 ⟨rfl, rfl⟩
                go_wp2_with fail
                go_roundw
                case rel => exact ⟨(q ++ [t]), (k + 1), i + 1, HmX.out, HnX.out, HpX.out, by omega, by omega, by go_num, _, _, _, _, rfl, Hf8.out, Ht8.out, Hr8.out, Hw8.out⟩
                case measure => simp [intOf]; omega
            · go_wp2_with fail
              refine Hround.out.mono ?_
              rintro e w2 ⟨rfl, rfl⟩
              go_wp2_with fail
              refine (ready_remove_no wr S b q t Hr.out Hmem.out).mono ?_
              rintro e w3 ⟨rfl, hf3⟩
              have HmX := Hm; have HnX := Hnd; have HpX := Hpos; have HrX := Lib.hid (Hr.out.fr0 hf3); have HwX := Lib.hid (Hw.out.fr hf3 fun _ _ q => q); have HfX := Lib.hid (Hfr.out.trans0 hf3.none); have HtX := Lib.hid (Htw.out.fr hf3)
              clear hf3
              go_wp2_with fail
              refine (ready_all w3 _ b q k HmX.out HrX.out).mono ?_
              rintro e w7 ⟨v7, rfl, hf7, hs7⟩
              obtain ⟨A7, c7, rfl⟩ := hs7.slice
              have Hw7 := Lib.hid (HwX.out.fr hf7 fun _ _ q => q)
              have Hr7 := Lib.hid (HrX.out.fr0 hf7)
              have Hf7 := Lib.hid (HfX.out.trans0 hf7.none)
              have Ht7 := Lib.hid (HtX.out.fr hf7)
              have Hs7 := Lib.hid hs7
              clear hf7 hs7
              go_wp2_with fail
              refine (alike_ints_n w7 _ _ q k HmX.out Hs7.out.rd Hw7.out.rd).mono ?_
              rintro e w8 ⟨rfl, hq8⟩
              have hf8 := Fr.ofDrew hq8; clear hq8
              have Hw8 := Lib.hid (Hw7.out.fr hf8 fun _ _ q => q)
              have Hr8 := Lib.hid (Hr7.out.fr0 hf8)
              have Hf8 := Lib.hid (Hf7.out.trans0 hf8.none)
              have Ht8 := Lib.hid (Ht7.out.fr hf8)
              clear hf8
              go_wp2_with fail
              refine (ready_len w8 _ b q k HmX.out Hr8.out).mono ?_
              rintro e w9 ⟨rfl, rfl⟩
              go_wp2_with fail
              go_roundw
              case rel => exact ⟨q, k, i + 1, HmX.out, HnX.out, HpX.out, by omega, by omega, by go_num, _, _, _, _, rfl, Hf8.out, Ht8.out, Hr8.out, Hw8.out⟩
              case measure => simp [intOf]; omega
            · skip
              by_cases hm0 : k = 0
              · obtain rfl : k = 0 := hm0
                obtain rfl : q = [] := List.eq_nil_of_length_eq_zero Hm.out
                go_wp2_with fail
                refine Hround.out.mono ?_
                rintro e w2 ⟨rfl, rfl⟩
                go_wp2_with fail
                refine (ready_pick_none wr S b t Hr.out).mono ?_
                rintro e w3 ⟨rfl, hf3⟩
                have HmX := Hm; have HnX := Hnd; have HpX := Hpos; have HrX := Lib.hid (Hr.out.fr0 hf3); have HwX := Lib.hid (Hw.out.fr hf3 fun _ _ q => q); have HfX := Lib.hid (Hfr.out.trans0 hf3.none); have HtX := Lib.hid (Htw.out.fr hf3)
                clear hf3
                go_wp2_with fail
                refine (ready_all w3 _ b [] 0 HmX.out HrX.out).mono ?_
                rintro e w7 ⟨v7, rfl, hf7, hs7⟩
                obtain ⟨A7, c7, rfl⟩ := hs7.slice
                have Hw7 := Lib.hid (HwX.out.fr hf7 fun _ _ q => q)
                have Hr7 := Lib.hid (HrX.out.fr0 hf7)
                have Hf7 := Lib.hid (HfX.out.trans0 hf7.none)
                have Ht7 := Lib.hid (HtX.out.fr hf7)
                have Hs7 := Lib.hid hs7
                clear hf7 hs7
                go_wp2_with fail
                refine (alike_ints_n w7 _ _ [] 0 HmX.out Hs7.out.rd Hw7.out.rd).mono ?_
                rintro e w8 ⟨rfl, hq8⟩
                have hf8 := Fr.ofDrew hq8; clear hq8
                have Hw8 := Lib.hid (Hw7.out.fr hf8 fun _ _ q => q)
                have Hr8 := Lib.hid (Hr7.out.fr0 hf8)
                have Hf8 := Lib.hid (Hf7.out.trans0 hf8.none)
                have Ht8 := Lib.hid (Ht7.out.fr hf8)
                clear hf8
                go_wp2_with fail
                refine (ready_len w8 _ b [] 0 HmX.out Hr8.out).mono ?_
                rintro e w9 ⟨rfl, rfl⟩
                go_wp2_with fail
                go_roundw
                case rel => exact ⟨[], 0, i + 1, HmX.out, HnX.out, HpX.out, by omega, by omega, by go_num, _, _, _, _, rfl, Hf8.out, Ht8.out, Hr8.out, Hw8.out⟩
                case measure => simp [intOf]; omega
              · have hk1 := Int.emod_nonneg t (show (k : Int) ≠ 0 by omega)
                have hk2 := Int.emod_lt_of_pos t (show 0 < (k : Int) by omega)
                have hpick := ready_pick wr S b q t k Hm.out Hr.out (by omega)
                have href := fun w => ref_pick w t k (by omega) (by omega)
                obtain ⟨p, hp⟩ := Int.eq_ofNat_of_zero_le hk1
                rw [hp] at hk2 hpick href
                rw [Int.toNat_natCast] at hpick
                have hpk : p < k := by omega
                have hgp : (ints q)[p]? = some (.int .i64 (q.getD p 0)) := ints_get (by rw [Hm.out]; exact hpk)
                generalize q.getD p 0 = y at *
                have Hpick := Lib.hid hpick; have Href := Lib.hid href; have Hgp := Lib.hid hgp
                clear hpick href hp hk1 hgp
                go_wp2_with fail
                refine Hround.out.mono ?_
                rintro e w2 ⟨rfl, rfl⟩
                go_wp2_with fail
                refine Hpick.out.mono ?_
                rintro e w3 ⟨rfl, hf3⟩
                have HmX := Hm; have HnX := Hnd; have HpX := Hpos; have HrX := Lib.hid (Hr.out.fr0 hf3); have HwX := Lib.hid (Hw.out.fr hf3 fun _ _ q => q); have HfX := Lib.hid (Hfr.out.trans0 hf3.none); have HtX := Lib.hid (Htw.out.fr hf3)
                clear hf3
                obtain ⟨gw, ow, cw, hv, hTg, hgw, hcw, hcm, hcell, _⟩ := HwX.out.form (by omega)
                cases hv
                have hy5 := hcell p _ Hgp.out
                clear hcell
                have hk0 : decide ((0 : Int) < k) = true := by simp; omega
                go_wp2_with fail
                refine (Href.out _).mono ?_
                rintro e w4 ⟨rfl, rfl⟩
                go_wp2_with fail
                refine (ready_all w4 _ b q k HmX.out HrX.out).mono ?_
                rintro e w7 ⟨v7, rfl, hf7, hs7⟩
                obtain ⟨A7, c7, rfl⟩ := hs7.slice
                have Hw7 := Lib.hid (HwX.out.fr hf7 fun _ _ q => q)
                have Hr7 := Lib.hid (HrX.out.fr0 hf7)
                have Hf7 := Lib.hid (HfX.out.trans0 hf7.none)
                have Ht7 := Lib.hid (HtX.out.fr hf7)
                have Hs7 := Lib.hid hs7
                clear hf7 hs7
                go_wp2_with fail
                refine (alike_ints_n w7 _ _ q k HmX.out Hs7.out.rd Hw7.out.rd).mono ?_
                rintro e w8 ⟨rfl, hq8⟩
                have hf8 := Fr.ofDrew hq8; clear hq8
                have Hw8 := Lib.hid (Hw7.out.fr hf8 fun _ _ q => q)
                have Hr8 := Lib.hid (Hr7.out.fr0 hf8)
                have Hf8 := Lib.hid (Hf7.out.trans0 hf8.none)
                have Ht8 := Lib.hid (Ht7.out.fr hf8)
                clear hf8
                go_wp2_with fail
                refine (ready_len w8 _ b q k HmX.out Hr8.out).mono ?_
                rintro e w9 ⟨rfl, rfl⟩
                go_wp2_with fail
                go_roundw
                case rel => exact ⟨q, k, i + 1, HmX.out, HnX.out, HpX.out, by omega, by omega, by go_num, _, _, _, _, rfl, Hf8.out, Ht8.out, Hr8.out, Hw8.out⟩
                case measure => simp [intOf]; omega
    · go_wp2_with fail
      refine (ready_awake wr).mono ?_
      rintro e w4 ⟨rfl, hf4⟩
      go_wp2_with fail
      go_ret
      exact ⟨rfl, (Hfr.out.trans0 hf4.none).below (Nat.le_refl _) fun _ q => q⟩

theorem readyActs_walk (v : Value) (l : List (Int × Int)) (w : World) (h : IsPairs w v l) :
    Calls Try.prog 3 #[v] w fun e w' => e = .returned (.bool true) ∧ Below w.heap.size w w' := by
  by_cases hb : 100 < l.length
  · exact readyActs_bad v l w h hb
  · exact readyActs_good v l w h (by omega)


/-! The row: out of the walk above. -/
namespace readyActs
open Go.ChangeShapes Go.WideShapes Go.ChangeAt Go.RowKit
open Go.ChangeMaps (open_string shut_string)
theorem own : ownKnob Try.prog.godebug = none := by kernel_rfl
theorem laidOut : laidOutB Try.prog = true := by kernel_rfl
set_option maxRecDepth 100000 in
theorem lifted (os : Os) (started : os.Started) (H : Type) (enc : TypeId × Value → H) :
    ReturnsInHanded {} Try.checked os 3 .any (Rows.readyActsSpec.pre6 enc Try.prog Try.f3 Rows.readyActsRow.domain false) (Rows.readyActsSpec.post enc Try.prog Try.f3 false true false false) := by
  refine returnsInHanded_of_change (C := Try.checked) own started (by kernel_rfl) Try.func3
    (ChangeSpec.witness6 (enc := enc) (C := Try.checked) false ⟨#[], #[.slice none 0 0], []⟩ 8 (by kernel_rfl) (by kernel_rfl) (by kernel_rfl) (by kernel_rfl)) ?_
  intro W base args ds gs before hval0 hW hcnd _
  have hval : ∀ (j : Nat) t v, Try.f3.params[j]? = some t → args[j]? = some v → Value.okWide Try.prog W .any base t v := hval0
  have hW' := hW
  obtain ⟨p, q, hA0, hV, rfl, hfz, hnd⟩ := hW
  have hA : DataW.TrodAll enc Try.prog W 0 (fun _ => true) true Try.f3.params.toList args.toList ds p := hA0
  rw [Try.params3] at hA hval
  obtain ⟨v0, vs0, d0, ds0, p0, q0, hargs, rfl, rfl, h0, r0⟩ := trodAll_cons hA
  obtain ⟨rfl, rfl, rfl⟩ := trodAll_nil r0
  obtain rfl : args = #[v0] := by cases args; simp_all
  obtain ⟨rfl, rfl⟩ := trodVars_none hV
  have k0 := h0
  have lt0 : ∀ x ∈ p0, x.block < W.heap.size := by obtain ⟨m, hm⟩ := k0; exact DataW.trod_lt m _ _ _ hm
  obtain ⟨x0, g0⟩ := opn_pairs (hval 0 22 v0 rfl rfl) h0
  clear hA0 hval0
  refine (readyActs_walk v0 x0 W g0).mono fun e W' ⟨he, bel⟩ => ?_
  subst he
  exact ⟨_, rfl, _, _, _, [], _, [], hW', trodAll_mk1 (shut_bool Try.underlying4 _), (trodAll_cons_mk (Below.trod laidOut (by kernel_rfl) (of_decide_eq_true (by kernel_rfl)) k0 bel lt0) trodAll_mk0), rfl, bel.frame _, fun h => by cases h⟩
theorem over : Rows.readyActsRow.holds Try.pinned (OpenSpec.ofChange Rows.readyActsSpec) :=
  OpenClaim.holds_of_wide 3 Try.f3 rfl rfl rfl rfl rfl rfl rfl ⟨rfl, rfl, rfl, rfl, rfl⟩ rfl rfl rfl rfl rfl (by kernel_rfl) Try.func3 (by kernel_rfl)
    (of_decide_eq_true (by kernel_rfl)) (by unfold Func.isWrapper; first | (rw [if_pos (by decide +kernel)]; kernel_rfl) | (rw [if_neg (by decide +kernel)]; exact ⟨rfl, rfl⟩))
    (fun os started H enc _ => lifted os started H enc)
end readyActs
/-- THE STATEMENT. -/
theorem readyActs_holds : Rows.ReadyActsSaid := readyActs.over
#print axioms readyActs_holds
end Go.Proofs.Ytpjkjnejlmmapaa
