/- TreeLines answers true whatever its two numbers are: no condition. -/
import Derived.Test.YtpjkjnejlmmapaaOpen
import Derived.Test.YtpjkjnejlmmapaaTreeAwake
import Derived.Test.YtpjkjnejlmmapaaTreeOrd
import Derived.IntWalk
import Derived.Deep.DeepCutAuto
set_option linter.unusedVariables false
set_option linter.unusedSimpArgs false
namespace Go.Proofs.Ytpjkjnejlmmapaa
open Go.RowKit
set_option maxRecDepth 100000

/-- The row of the first k, each on the one ahead. -/
def lineL (k : Nat) : List Nd := (List.range k).map fun (i : Nat) => ((i : Int) - 1, decide (0 < i))
theorem lineL_len (k : Nat) : (lineL k).length = k := by simp [lineL]
theorem lineL_zero : lineL 0 = [] := rfl
theorem lineL_one : [] ++ [((-1 : Int), false)] = lineL 1 := rfl
theorem lineL_snoc (k : Nat) : lineL (k + 1) ++ [((k : Int), true)] = lineL (k + 2) := by
  simp only [lineL, List.range_succ, List.map_append]
  simp
theorem lineL_get (n i : Nat) (h : i < n) (hi : 0 < i) : (lineL n)[i]? = some ((i : Int) - 1, true) := by simp [lineL, h, hi]
theorem lineL_get0 (n : Nat) (h : 0 < n) : (lineL n)[0]? = some (-1, false) := by simp [lineL, h]
theorem lineL_ok (n : Nat) : TreeOk (lineL n) := by
  intro i x hx
  have hi := (List.getElem?_eq_some_iff.1 hx).1
  rw [lineL_len] at hi
  simp [lineL, hi] at hx
  subst hx
  simp; omega
/-- The numbers from a on, m of them. -/
def rng (a m : Nat) : List Int := (List.range' a m).map fun (i : Nat) => (i : Int)
theorem rng_len (a m : Nat) : (rng a m).length = m := by simp [rng]
theorem rng_get (a m i : Nat) (h : i < m) : (rng a m).getD i 0 = ((a + i : Nat) : Int) := by simp [rng, List.getD, h]
theorem walk_line (ns : List Nd) (ho : TreeOk ns) : ∀ (m a : Nat), (∀ i, a ≤ i → i < a + m → kidsN ns i = [i + 1]) → kidsN ns ((a + m : Nat) : Int) = [] → walkN ns a = List.range' a (m + 1)
  | 0, a, _, h => by
    rw [walkN_eq ns ho, show kidsN ns (a : Int) = [] from h]; rfl
  | m + 1, a, hk, h => by
    rw [walkN_eq ns ho, hk a (Nat.le_refl _) (by omega)]
    simp only [List.flatMap_cons, List.flatMap_nil, List.append_nil]
    rw [walk_line ns ho m (a + 1) (fun i h1 h2 => hk i (by omega) (by omega)) (by rw [show a + 1 + m = a + (m + 1) by omega]; exact h)]
    rfl
theorem walk_rng (ns : List Nd) (ho : TreeOk ns) (a m : Nat) (hm : 0 < m) (hk : ∀ i, a ≤ i → i + 1 < a + m → kidsN ns i = [i + 1]) (h : kidsN ns ((a + m - 1 : Nat) : Int) = []) : walk ns a = rng a m := by
  obtain ⟨m, rfl⟩ : ∃ m', m = m' + 1 := ⟨m - 1, by omega⟩
  unfold walk rng
  rw [walk_line ns ho m a (fun i h1 h2 => hk i h1 (by omega)) h]
theorem kids_line (ns : List Nd) (j : Nat) (n : Nat) (h1 : ∀ i, 0 < i → i < n → ns[i]? = some ((i : Int) - 1, true)) (h0 : ns[0]? = some (-1, false)) (h2 : ∀ i, n ≤ i → i < ns.length → ns[i]? = some (-1, false)) (hn : n ≤ ns.length) : kidsN ns j = if j + 1 < n then [j + 1] else [] := by
  have key : ∀ i, i ∈ kidsN ns j ↔ (i = j + 1 ∧ j + 1 < n) := by
    intro i
    rw [mem_kidsN]
    by_cases hi0 : i = 0
    · subst hi0; rw [h0]; simp
    · by_cases hin : i < n
      · rw [h1 i (by omega) hin]
        simp
        omega
      · by_cases hil : i < ns.length
        · rw [h2 i (by omega) hil]; simp; omega
        · rw [List.getElem?_eq_none (by omega)]; simp; omega
  have hs := kidsN_sorted ns j
  split
  · next h =>
    have hm : j + 1 ∈ kidsN ns j := (key _).2 ⟨rfl, h⟩
    match hq : kidsN ns j with
    | [] => rw [hq] at hm; simp at hm
    | [x] => rw [hq] at hm; simp at hm; rw [hm]
    | x :: y :: r =>
      rw [hq] at hs
      have hx := ((key x).1 (by rw [hq]; simp)).1
      have hy := ((key y).1 (by rw [hq]; simp)).1
      rw [List.pairwise_cons] at hs
      have := hs.1 y (by simp)
      omega
  · next h =>
    rw [List.eq_nil_iff_forall_not_mem]
    intro i hi
    exact h ((key i).1 hi).2
/-- What the law asks of a tree: a row of n, and perhaps one by itself. -/
structure LineT (ns : List Nd) (n : Nat) : Prop where
  ok : TreeOk ns
  len : n ≤ ns.length
  few : ns.length ≤ 1000
  z : ns[0]? = some (-1, false)
  at' : ∀ i, 0 < i → i < n → ns[i]? = some ((i : Int) - 1, true)
  more : ∀ i, n ≤ i → i < ns.length → ns[i]? = some (-1, false)
theorem LineT.walk0 {ns : List Nd} {n : Nat} (h : LineT ns n) (hn : 0 < n) : walk ns 0 = rng 0 n := by
  refine walk_rng ns h.ok 0 n hn (fun i _ hi => ?_) ?_
  · rw [kids_line ns i n h.at' h.z h.more h.len, if_pos (by omega)]
  · rw [kids_line ns _ n h.at' h.z h.more h.len, if_neg (by omega)]
theorem LineT.cut {ns : List Nd} {n k : Nat} (h : LineT ns n) (hk : 0 < k) (hkn : k < n) : walk (ns.set k ((k : Int) - 1, false)) 0 = rng 0 k ∧ walk (ns.set k ((k : Int) - 1, false)) k = rng k (n - k) := by
  have hl : ns[k]? = some ((k : Int) - 1, true) := h.at' k hk hkn
  have ho := ok_set ns h.ok k _ hl
  have hkid : ∀ j : Nat, kidsN (ns.set k ((k : Int) - 1, false)) j = if j + 1 < n ∧ j + 1 ≠ k then [j + 1] else [] := by
    intro j
    rw [kidsN_set ns k _ j (by have := h.len; omega), kids_line ns j n h.at' h.z h.more h.len]
    by_cases h1 : j + 1 < n
    · rw [if_pos h1]
      by_cases h2 : j + 1 = k
      · rw [if_neg (by omega)]; simp [h2]
      · rw [if_pos ⟨h1, h2⟩]; simp [h2]
    · rw [if_neg h1, if_neg (fun q => h1 q.1)]; rfl
  constructor
  · refine walk_rng _ ho 0 k hk (fun i _ hi => ?_) ?_
    · rw [hkid, if_pos ⟨by omega, by omega⟩]
    · rw [hkid, if_neg (by omega)]
  · refine walk_rng _ ho k (n - k) (by omega) (fun i h1 hi => ?_) ?_
    · rw [hkid, if_pos ⟨by omega, by omega⟩]
    · rw [hkid, if_neg (by omega)]
theorem lineT_full (n : Nat) (h : n ≤ 1000) (h0 : 0 < n) : LineT (lineL n) n := ⟨lineL_ok n, by rw [lineL_len]; exact Nat.le_refl _, by rw [lineL_len]; exact h, lineL_get0 n h0, fun i h1 h2 => lineL_get n i h2 h1, fun i h1 h2 => by rw [lineL_len] at h2; omega⟩
theorem lineT_one (n : Nat) (h : n < 1000) (h0 : 0 < n) : LineT (lineL n ++ [(-1, false)]) n := by
  refine ⟨ok_snoc _ (lineL_ok n) _ _ (by omega) (by rw [lineL_len]; omega) (by simp), by simp [lineL_len], by simp [lineL_len]; omega, ?_, fun i h1 h2 => ?_, fun i h1 h2 => ?_⟩
  · rw [List.getElem?_append_left (by rw [lineL_len]; exact h0)]; exact lineL_get0 n h0
  · rw [List.getElem?_append_left (by rw [lineL_len]; exact h2)]; exact lineL_get n i h2 h1
  · simp [lineL_len] at h2
    have : i = n := by omega
    subst this
    rw [List.getElem?_append_right (by rw [lineL_len]; exact Nat.le_refl _), lineL_len]; simp

set_option maxHeartbeats 1000000 in
theorem treeLines_bad (n at' : Int) (w : World) (h : n < 2 ∨ 1010 < n) :
    Calls Try.prog 14 #[.int .i64 n, .int .i64 at'] w fun e w' => e = .returned (.bool true) ∧ Below w.heap.size w w' := by
  go_enter Try.func14, Try.ntmps14
  go_wp2_with fail
  all_goals
    refine (tree_awake w).mono ?_
    rintro e w' ⟨rfl, hf⟩
    go_wp2_with fail
    go_ret
    exact ⟨rfl, hf.below (Nat.le_refl _) fun _ q => q.elim⟩

set_option maxHeartbeats 8000000 in
theorem treeLines_good (n : Nat) (at' : Int) (w : World) (h1 : 2 ≤ n) (h2 : n ≤ 1010) :
    Calls Try.prog 14 #[.int .i64 (n : Int), .int .i64 at'] w fun e w' => e = .returned (.bool true) ∧ Below w.heap.size w w' := by
  have g1 : ¬ (n : Int) < 2 := by omega
  have g2 : ¬ (1010 : Int) < n := by omega
  obtain ⟨N, hN⟩ : ∃ N, N = min n 1000 := ⟨_, rfl⟩
  have hmin : min (n : Int) 1000 = (N : Int) := by omega
  have hN1 : 2 ≤ N ∧ N ≤ 1000 ∧ N ≤ n ∧ (N < 1000 → N = n) := by omega
  have Hmin := Lib.hid hmin; have HN := Lib.hid hN
  clear hmin hN
  go_enter Try.func14, Try.ntmps14
  go_wp2_with fail
  refine (tree_new w).mono ?_
  rintro e w1 ⟨b, rfl, hf1, hr1⟩
  have F1 := Lib.hid (hf1.none (S := From w.heap.size))
  have R1 := Lib.hid (hr1.mono (S' := From w.heap.size) fun k _ q => q.1)
  clear hf1 hr1
  go_wp2_with fail
  go_loopw [6] (fun i wr => ∃ j : Nat, i = .int .i64 j ∧ j ≤ n ∧ Fr (From w.heap.size) w wr ∧ TreeAt wr (From w.heap.size) b (lineL (min j 1000))) (fun i _ => n - (intOf i).toNat)
  case atStart => exact ⟨0, rfl, Nat.zero_le _, F1.out, R1.out⟩
  case round =>
    obtain ⟨j, rfl, hj, hfr, hr⟩ := hrel
    have hz := hfr.size
    have Hfr := Lib.hid hfr; have Hr := Lib.hid hr
    clear hfr hr F1 R1
    by_cases hlt : j < n
    · by_cases hj0 : j = 0
      · subst hj0
        have Hr0 : Hid (TreeAt wr (From w.heap.size) b []) := Hr.out
        go_wp2_with fail
        refine (tree_add_lone wr _ b [] (-1) true 0 rfl Hr0.out (by omega) (by omega) (by omega) (.inl rfl)).mono ?_
        rintro e w3 ⟨rfl, hf3, hr3⟩
        have Hf3 := Lib.hid (Hfr.out.trans0 hf3)
        have Hr3 : Hid (TreeAt w3 (From w.heap.size) b (lineL (min (0 + 1) 1000))) := hr3.mono fun k _ q => there14 hz k q
        clear hf3 hr3
        go_wp2_with fail
        go_roundw
        case rel => exact ⟨1, rfl, by omega, Hf3.out, Hr3.out⟩
        case measure => simp [intOf]; omega
      · by_cases hj1 : j < 1000
        · obtain ⟨q, rfl⟩ : ∃ q, j = q + 1 := ⟨j - 1, by omega⟩
          have Hr0 : Hid (TreeAt wr (From w.heap.size) b (lineL (q + 1))) := by have := Hr.out; rwa [show min (q + 1) 1000 = q + 1 by omega] at this
          have e1 : ((q : Int) + 1 - 1) = (q : Int) := by omega
          have e2 : (((q + 1 : Nat) : Int) - 1) = (q : Int) := by omega
          have hd : ¬ (1000 : Int) ≤ ((q + 1 : Nat) : Int) := by omega
          have hd2 : ¬ (1000 : Int) ≤ (q : Int) + 1 := by omega
          go_wp2_with fail
          refine (tree_add_hang wr _ b (lineL (q + 1)) q (q + 1) (lineL_len _) Hr0.out (by omega) (by omega)).mono ?_
          rintro e w3 ⟨rfl, hf3, hr3⟩
          rw [lineL_snoc] at hr3
          have Hf3 := Lib.hid (Hfr.out.trans0 hf3)
          have Hr3 : Hid (TreeAt w3 (From w.heap.size) b (lineL (q + 2))) := hr3.mono fun k _ q => there14 hz k q
          clear hf3 hr3
          go_wp2_with fail
          go_roundw
          case rel => exact ⟨q + 2, by go_num, by omega, Hf3.out, by rw [show min (q + 2) 1000 = q + 2 by omega]; exact Hr3.out⟩
          case measure => simp [intOf]; omega
        · have hm : min j 1000 = 1000 := by omega
          have Hr0 : Hid (TreeAt wr (From w.heap.size) b (lineL 1000)) := by have := Hr.out; rwa [hm] at this
          have hm1 : min (j + 1) 1000 = 1000 := by omega
          have Hm1 := Lib.hid hm1
          have hd : (1000 : Int) ≤ (j : Int) := by omega
          have hl := lineL_len 1000
          have Hl := Lib.hid hl
          clear hm hm1 hl
          by_cases hje : j = 1000
          · subst hje
            go_wp2_with fail
            refine (tree_add_full wr _ b (lineL 1000) 999 true Hr0.out (by omega) (by rw [Hl.out]; omega) (by rw [Hl.out]; omega)).mono ?_
            rintro e w3 ⟨rfl, hf3⟩
            have Hf3 := Lib.hid (Hfr.out.trans0 hf3.none)
            have Hr3 := Lib.hid (Hr0.out.fr0 hf3)
            clear hf3
            go_wp2_with fail
            go_roundw
            case rel => exact ⟨1001, by go_num, by omega, Hf3.out, Hr3.out⟩
            case measure => simp [intOf]; omega
          · go_wp2_with fail
            refine (tree_add_bad wr _ b (lineL 1000) ((j : Int) - 1) true Hr0.out (.inr (by rw [Hl.out]; omega))).mono ?_
            rintro e w3 ⟨rfl, hf3⟩
            have Hf3 := Lib.hid (Hfr.out.trans0 hf3.none)
            have Hr3 := Lib.hid (Hr0.out.fr0 hf3)
            clear hf3
            go_wp2_with fail
            go_roundw
            case rel => exact ⟨j + 1, by go_num, by omega, Hf3.out, by rw [Hm1.out]; exact Hr3.out⟩
            case measure => simp [intOf]; omega
    · obtain rfl : j = n := by omega
      have Hr0 : Hid (TreeAt wr (From w.heap.size) b (lineL N)) := by have := Hr.out; rwa [← HN.out] at this
      have hmin := Hmin.out
      go_upto_region 15 with fail
      go_cut [0] (fun s0 wx => s0 = .int .i64 (N : Int) ∧ wr = wx)
      case first =>
        by_cases hn : (1000 : Int) < (j : Int)
        · have hNn : N = 1000 := by omega
          clear hmin
          go_wp2_with fail
          go_meet
          exact ⟨by rw [hNn]; rfl, rfl⟩
        · have hNn : N = j := by omega
          have hn2 : (j : Int) ≤ 1000 := by omega
          clear hmin
          go_wp2_with fail
          go_meet
          exact ⟨by rw [hNn], rfl⟩
      case rest =>
        obtain ⟨rfl, rfl⟩ := hcut
        clear hmin Hr
        have hz : w.heap.size ≤ wr.heap.size := Hfr.out.size
        by_cases hN : N < 1000
        · have hb : ((N : Int) == 1000) = false := by simp; omega
          go_wp2_with fail
          refine (tree_add_lone wr _ b (lineL N) (-1) false N (lineL_len _) Hr0.out (by omega) (by omega) hN (.inl rfl)).mono ?_
          rintro e wt ⟨rfl, hft, hrt⟩
          have Ft := Lib.hid (Hfr.out.trans0 hft)
          have Rt : Hid (TreeAt wt (From w.heap.size) b (lineL N ++ [(-1, false)])) := hrt.mono fun k _ q => there14 hz k q
          have Hln := Lib.hid (lineT_one N hN (by omega))
          clear hft hrt
          go_wp2_with fail
          have hk1 := Int.emod_nonneg at' (show ((N : Int) - 1) ≠ 0 by omega)
          have hk2 := Int.emod_lt_of_pos at' (show 0 < ((N : Int) - 1) by omega)
          refine (alike_round wt at' ((N : Int) - 1) (by omega) (by omega)).mono ?_
          rintro e wq ⟨rfl, rfl⟩
          generalize at' % ((N : Int) - 1) = r at *
          obtain ⟨r, rfl⟩ := Int.eq_ofNat_of_zero_le hk1
          have hrN : r + 1 < N := by omega
          have hcut := Hln.out.cut (k := r + 1) (by omega) hrN
          have hat := Hln.out.at' (r + 1) (by omega) hrN
          have er : (((r + 1 : Nat) : Int) - 1) = (r : Int) := by omega
          rw [er] at hcut hat
          have hlen := Hln.out.len
          have Hcut := Lib.hid hcut; have Hat := Lib.hid hat
          clear hcut hat er
          go_wp2_with fail
          refine (tree_walk b (lineL N ++ [(-1, false)]) (lineL N ++ [(-1, false)]).length 0 wt _ (by omega) (by omega) Rt.out).mono ?_
          rintro e w5 ⟨v5, rfl, hf5, hs5⟩
          rw [Hln.out.walk0 (by omega), rng_len] at hs5
          obtain ⟨A5, c5, rfl⟩ := hs5.slice
          have F5 := Lib.hid (Ft.out.trans0 hf5.none)
          have R5 := Lib.hid (Rt.out.fr0 hf5)
          clear hf5 hs5 Rt Ft
          go_wp2_with fail
          first | rw [show (1 + (r : Int)) = ((r + 1 : Nat) : Int) from by omega] | rw [show ((r : Int) + 1) = ((r + 1 : Nat) : Int) from by omega]
          refine (tree_off w5 _ b (lineL N ++ [(-1, false)]) (r + 1) r R5.out Hat.out).mono ?_
          rintro e w6 ⟨rfl, hf6, hr6⟩
          have F6 := Lib.hid (F5.out.trans0 hf6)
          have R6 := Lib.hid hr6
          have hl6 : ((lineL N ++ [(-1, false)]).set (r + 1) ((r : Int), false)).length = (lineL N ++ [(-1, false)]).length := by simp
          have Hl6 := Lib.hid hl6
          clear hf6 hr6 hl6 R5 F5
          go_wp2_with fail
          refine (tree_walk b ((lineL N ++ [(-1, false)]).set (r + 1) ((r : Int), false)) (lineL N ++ [(-1, false)]).length 0 w6 _ (by rw [Hl6.out]; omega) (by rw [Hl6.out]; omega) R6.out).mono ?_
          rintro e w7 ⟨v7, rfl, hf7, hs7⟩
          rw [Hcut.out.1, rng_len] at hs7
          obtain ⟨A7, c7, rfl⟩ := hs7.slice
          have F7 := Lib.hid (F6.out.trans0 hf7.none)
          have R7 := Lib.hid (R6.out.fr0 hf7)
          have S7 := Lib.hid hs7.rd
          clear hf7 hs7 R6 F6
          go_wp2_with fail
          first | rw [show (1 + (r : Int)) = ((r + 1 : Nat) : Int) from by omega] | rw [show ((r : Int) + 1) = ((r + 1 : Nat) : Int) from by omega]
          refine (tree_walk b ((lineL N ++ [(-1, false)]).set (r + 1) ((r : Int), false)) (lineL N ++ [(-1, false)]).length (r + 1) w7 _ (by rw [Hl6.out]; omega) (by rw [Hl6.out]; omega) R7.out).mono ?_
          rintro e w8 ⟨v8, rfl, hf8, hs8⟩
          rw [Hcut.out.2, rng_len] at hs8
          obtain ⟨A8, c8, rfl⟩ := hs8.slice
          have F8 := Lib.hid (F7.out.trans0 hf8.none)
          have S7' := Lib.hid (S7.out.fr hf8)
          have S8 := Lib.hid hs8.rd
          clear hf8 hs8 R7 F7 S7 Hcut Hat Hl6
          have e7 : (((r + 1 : Nat) : Int) != ((r + 1 : Nat) : Int)) = false := by simp
          have e8 : (((N - (r + 1) : Nat) : Int) != (N : Int) - ((r + 1 : Nat) : Int)) = false := by rw [bne_eq_false_iff_eq]; omega
          have e9 : (((N - (r + 1) : Nat) : Int) != (N : Int) - ((r : Int) + 1)) = false := by rw [bne_eq_false_iff_eq]; omega
          have e10 : (((N - (r + 1) : Nat) : Int) != (N : Int) - (1 + (r : Int))) = false := by rw [bne_eq_false_iff_eq]; omega
          go_wp2_with fail
          clear e7 e8 e9 e10
          go_loop [14] (fun i => ∃ j : Nat, i = .int .i64 j ∧ j ≤ r + 1) (fun i => r + 1 - (intOf i).toNat)
          case atStart => exact ⟨0, rfl, Nat.zero_le _⟩
          case round =>
            obtain ⟨j, rfl, hj⟩ := hrel
            by_cases hlt2 : j < r + 1
            · obtain ⟨_, _, A7', c7', hv7, hc71, hc72, hA7⟩ := S7'.out
              cases hv7
              obtain ⟨g7, o7, rfl, hg7, hc7⟩ := hA7 (by omega)
              have hx := hc7 j _ (ints_get (by rw [rng_len]; exact hlt2))
              rw [rng_get 0 (r + 1) j hlt2, Nat.zero_add] at hx
              clear hA7 hc7
              go_wp2_with fail
              go_round
              case rel => exact ⟨j + 1, by go_num, by omega⟩
              case measure => simp [intOf]; omega
            · obtain rfl : j = r + 1 := by omega
              go_wp2_with fail
              go_loop [15] (fun i => ∃ j : Nat, i = .int .i64 j ∧ j ≤ N - (r + 1)) (fun i => N - (intOf i).toNat)
              case atStart => exact ⟨0, rfl, Nat.zero_le _⟩
              case round =>
                obtain ⟨j, rfl, hj⟩ := hrel
                by_cases hlt3 : j < N - (r + 1)
                · obtain ⟨_, _, A8', c8', hv8, hc81, hc82, hA8⟩ := S8.out
                  cases hv8
                  obtain ⟨g8, o8, rfl, hg8, hc8⟩ := hA8 (by omega)
                  have hx := hc8 j _ (ints_get (by rw [rng_len]; exact hlt3))
                  rw [rng_get (r + 1) _ j hlt3] at hx
                  have ex : ((r + 1 + j : Nat) : Int) = (r : Int) + 1 + (j : Int) := by omega
                  rw [ex] at hx
                  clear hA8 hc8 ex
                  go_wp2_with fail
                  go_round
                  case rel => exact ⟨j + 1, by go_num, by omega⟩
                  case measure => simp [intOf]; omega
                · obtain rfl : j = N - (r + 1) := by omega
                  go_wp2_with fail
                  refine (tree_awake w8).mono ?_
                  rintro e w9 ⟨rfl, hf9⟩
                  go_wp2_with fail
                  go_ret
                  exact ⟨rfl, (F8.out.trans0 hf9.none).below (Nat.le_refl _) fun _ q => q⟩
        · have hb : ((N : Int) == 1000) = true := by simp; omega
          go_wp2_with fail
          refine (tree_add_full wr _ b (lineL N) (-1) false Hr0.out (by omega) (by rw [lineL_len]; omega) (by rw [lineL_len]; omega)).mono ?_
          rintro e wt ⟨rfl, hft⟩
          have Ft := Lib.hid (Hfr.out.trans0 hft.none)
          have Rt := Lib.hid (Hr0.out.fr0 hft)
          have Hln := Lib.hid (lineT_full N (by omega) (by omega))
          clear hft
          go_wp2_with fail
          have hk1 := Int.emod_nonneg at' (show ((N : Int) - 1) ≠ 0 by omega)
          have hk2 := Int.emod_lt_of_pos at' (show 0 < ((N : Int) - 1) by omega)
          refine (alike_round wt at' ((N : Int) - 1) (by omega) (by omega)).mono ?_
          rintro e wq ⟨rfl, rfl⟩
          generalize at' % ((N : Int) - 1) = r at *
          obtain ⟨r, rfl⟩ := Int.eq_ofNat_of_zero_le hk1
          have hrN : r + 1 < N := by omega
          have hcut := Hln.out.cut (k := r + 1) (by omega) hrN
          have hat := Hln.out.at' (r + 1) (by omega) hrN
          have er : (((r + 1 : Nat) : Int) - 1) = (r : Int) := by omega
          rw [er] at hcut hat
          have hlen := Hln.out.len
          have Hcut := Lib.hid hcut; have Hat := Lib.hid hat
          clear hcut hat er
          go_wp2_with fail
          refine (tree_walk b (lineL N) (lineL N).length 0 wt _ (by omega) (by omega) Rt.out).mono ?_
          rintro e w5 ⟨v5, rfl, hf5, hs5⟩
          rw [Hln.out.walk0 (by omega), rng_len] at hs5
          obtain ⟨A5, c5, rfl⟩ := hs5.slice
          have F5 := Lib.hid (Ft.out.trans0 hf5.none)
          have R5 := Lib.hid (Rt.out.fr0 hf5)
          clear hf5 hs5 Rt Ft
          go_wp2_with fail
          first | rw [show (1 + (r : Int)) = ((r + 1 : Nat) : Int) from by omega] | rw [show ((r : Int) + 1) = ((r + 1 : Nat) : Int) from by omega]
          refine (tree_off w5 _ b (lineL N) (r + 1) r R5.out Hat.out).mono ?_
          rintro e w6 ⟨rfl, hf6, hr6⟩
          have F6 := Lib.hid (F5.out.trans0 hf6)
          have R6 := Lib.hid hr6
          have hl6 : ((lineL N).set (r + 1) ((r : Int), false)).length = (lineL N).length := by simp
          have Hl6 := Lib.hid hl6
          clear hf6 hr6 hl6 R5 F5
          go_wp2_with fail
          refine (tree_walk b ((lineL N).set (r + 1) ((r : Int), false)) (lineL N).length 0 w6 _ (by rw [Hl6.out]; omega) (by rw [Hl6.out]; omega) R6.out).mono ?_
          rintro e w7 ⟨v7, rfl, hf7, hs7⟩
          rw [Hcut.out.1, rng_len] at hs7
          obtain ⟨A7, c7, rfl⟩ := hs7.slice
          have F7 := Lib.hid (F6.out.trans0 hf7.none)
          have R7 := Lib.hid (R6.out.fr0 hf7)
          have S7 := Lib.hid hs7.rd
          clear hf7 hs7 R6 F6
          go_wp2_with fail
          first | rw [show (1 + (r : Int)) = ((r + 1 : Nat) : Int) from by omega] | rw [show ((r : Int) + 1) = ((r + 1 : Nat) : Int) from by omega]
          refine (tree_walk b ((lineL N).set (r + 1) ((r : Int), false)) (lineL N).length (r + 1) w7 _ (by rw [Hl6.out]; omega) (by rw [Hl6.out]; omega) R7.out).mono ?_
          rintro e w8 ⟨v8, rfl, hf8, hs8⟩
          rw [Hcut.out.2, rng_len] at hs8
          obtain ⟨A8, c8, rfl⟩ := hs8.slice
          have F8 := Lib.hid (F7.out.trans0 hf8.none)
          have S7' := Lib.hid (S7.out.fr hf8)
          have S8 := Lib.hid hs8.rd
          clear hf8 hs8 R7 F7 S7 Hcut Hat Hl6
          have e7 : (((r + 1 : Nat) : Int) != ((r + 1 : Nat) : Int)) = false := by simp
          have e8 : (((N - (r + 1) : Nat) : Int) != (N : Int) - ((r + 1 : Nat) : Int)) = false := by rw [bne_eq_false_iff_eq]; omega
          have e9 : (((N - (r + 1) : Nat) : Int) != (N : Int) - ((r : Int) + 1)) = false := by rw [bne_eq_false_iff_eq]; omega
          have e10 : (((N - (r + 1) : Nat) : Int) != (N : Int) - (1 + (r : Int))) = false := by rw [bne_eq_false_iff_eq]; omega
          go_wp2_with fail
          clear e7 e8 e9 e10
          go_loop [14] (fun i => ∃ j : Nat, i = .int .i64 j ∧ j ≤ r + 1) (fun i => r + 1 - (intOf i).toNat)
          case atStart => exact ⟨0, rfl, Nat.zero_le _⟩
          case round =>
            obtain ⟨j, rfl, hj⟩ := hrel
            by_cases hlt2 : j < r + 1
            · obtain ⟨_, _, A7', c7', hv7, hc71, hc72, hA7⟩ := S7'.out
              cases hv7
              obtain ⟨g7, o7, rfl, hg7, hc7⟩ := hA7 (by omega)
              have hx := hc7 j _ (ints_get (by rw [rng_len]; exact hlt2))
              rw [rng_get 0 (r + 1) j hlt2, Nat.zero_add] at hx
              clear hA7 hc7
              go_wp2_with fail
              go_round
              case rel => exact ⟨j + 1, by go_num, by omega⟩
              case measure => simp [intOf]; omega
            · obtain rfl : j = r + 1 := by omega
              go_wp2_with fail
              go_loop [15] (fun i => ∃ j : Nat, i = .int .i64 j ∧ j ≤ N - (r + 1)) (fun i => N - (intOf i).toNat)
              case atStart => exact ⟨0, rfl, Nat.zero_le _⟩
              case round =>
                obtain ⟨j, rfl, hj⟩ := hrel
                by_cases hlt3 : j < N - (r + 1)
                · obtain ⟨_, _, A8', c8', hv8, hc81, hc82, hA8⟩ := S8.out
                  cases hv8
                  obtain ⟨g8, o8, rfl, hg8, hc8⟩ := hA8 (by omega)
                  have hx := hc8 j _ (ints_get (by rw [rng_len]; exact hlt3))
                  rw [rng_get (r + 1) _ j hlt3] at hx
                  have ex : ((r + 1 + j : Nat) : Int) = (r : Int) + 1 + (j : Int) := by omega
                  rw [ex] at hx
                  clear hA8 hc8 ex
                  go_wp2_with fail
                  go_round
                  case rel => exact ⟨j + 1, by go_num, by omega⟩
                  case measure => simp [intOf]; omega
                · obtain rfl : j = N - (r + 1) := by omega
                  go_wp2_with fail
                  refine (tree_awake w8).mono ?_
                  rintro e w9 ⟨rfl, hf9⟩
                  go_wp2_with fail
                  go_ret
                  exact ⟨rfl, (F8.out.trans0 hf9.none).below (Nat.le_refl _) fun _ q => q⟩

theorem treeLines_walk (n at_ : Int) (w : World) (w0 : (Lit.int .i64 n).wf = true) (w1 : (Lit.int .i64 at_).wf = true) :
    Calls Try.prog 14 #[.int .i64 n, .int .i64 at_] w fun e w' => e = .returned (.bool true) ∧ Below w.heap.size w w' := by
  clear w0 w1
  by_cases hb : n < 2 ∨ 1010 < n
  · exact treeLines_bad n at_ w hb
  · obtain ⟨k, rfl⟩ := Int.eq_ofNat_of_zero_le (show 0 ≤ n by omega)
    exact treeLines_good k at_ w (by omega) (by omega)


/-! The row: out of the walk above. -/
namespace treeLines
open Go.ChangeShapes Go.WideShapes Go.ChangeAt Go.RowKit
open Go.ChangeMaps (open_string shut_string)
theorem own : ownKnob Try.prog.godebug = none := by kernel_rfl
theorem laidOut : laidOutB Try.prog = true := by kernel_rfl
set_option maxRecDepth 100000 in
theorem lifted (os : Os) (started : os.Started) (H : Type) (enc : TypeId × Value → H) :
    ReturnsInHanded {} Try.checked os 14 .any (Rows.treeLinesSpec.pre6 enc Try.prog Try.f14 Rows.treeLinesRow.domain false) (Rows.treeLinesSpec.post enc Try.prog Try.f14 false true false false) := by
  refine returnsInHanded_of_change (C := Try.checked) own started (by kernel_rfl) Try.func14
    (ChangeSpec.witness6 (enc := enc) (C := Try.checked) false ⟨#[], #[.int .i64 0, .int .i64 0], []⟩ 8 (by kernel_rfl) (by kernel_rfl) (by kernel_rfl) (by kernel_rfl)) ?_
  intro W base args ds gs before hval0 hW hcnd _
  have hval : ∀ (j : Nat) t v, Try.f14.params[j]? = some t → args[j]? = some v → Value.okWide Try.prog W .any base t v := hval0
  have hW' := hW
  obtain ⟨p, q, hA0, hV, rfl, hfz, hnd⟩ := hW
  have hA : DataW.TrodAll enc Try.prog W 0 (fun _ => true) true Try.f14.params.toList args.toList ds p := hA0
  rw [Try.params14] at hA hval
  obtain ⟨v0, vs0, d0, ds0, p0, q0, hargs, rfl, rfl, h0, r0⟩ := trodAll_cons hA
  obtain ⟨v1, vs1, d1, ds1, p1, q1, rfl, rfl, rfl, h1, r1⟩ := trodAll_cons r0
  obtain ⟨rfl, rfl, rfl⟩ := trodAll_nil r1
  obtain rfl : args = #[v0, v1] := by cases args; simp_all
  obtain ⟨rfl, rfl⟩ := trodVars_none hV
  obtain ⟨a0, rfl, rfl, rfl, w0⟩ := open_int Try.underlying3 (hval 0 3 v0 rfl rfl) h0
  obtain ⟨a1, rfl, rfl, rfl, w1⟩ := open_int Try.underlying3 (hval 1 3 v1 rfl rfl) h1
  clear hA0 hval0
  refine (treeLines_walk a0 a1 W w0 w1).mono fun e W' ⟨he, bel⟩ => ?_
  subst he
  exact ⟨_, rfl, _, _, _, [], _, [], hW', trodAll_mk1 (shut_bool Try.underlying4 _), (trodAll_cons_mk (shut_int Try.underlying3 w0) (trodAll_cons_mk (shut_int Try.underlying3 w1) trodAll_mk0)), rfl, bel.frame _, fun h => by cases h⟩
theorem over : Rows.treeLinesRow.holds Try.pinned (OpenSpec.ofChange Rows.treeLinesSpec) :=
  OpenClaim.holds_of_wide 14 Try.f14 rfl rfl rfl rfl rfl rfl rfl ⟨rfl, rfl, rfl, rfl, rfl⟩ rfl rfl rfl rfl rfl (by kernel_rfl) Try.func14 (by kernel_rfl)
    (of_decide_eq_true (by kernel_rfl)) (by unfold Func.isWrapper; first | (rw [if_pos (by decide +kernel)]; kernel_rfl) | (rw [if_neg (by decide +kernel)]; exact ⟨rfl, rfl⟩))
    (fun os started H enc _ => lifted os started H enc)
end treeLines
/-- THE STATEMENT. -/
theorem treeLines_holds : Rows.TreeLinesSaid := treeLines.over
#print axioms treeLines_holds
end Go.Proofs.Ytpjkjnejlmmapaa
