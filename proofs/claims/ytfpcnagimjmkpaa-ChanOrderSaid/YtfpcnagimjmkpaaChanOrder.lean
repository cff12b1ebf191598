/- What is received is what was sent, in order, each once, by whoever, waiting or not; as many as were sent, for all that the statement draws. -/
import Derived.Test.YtfpcnagimjmkpaaChanGot
set_option linter.unusedVariables false
set_option linter.unusedSimpArgs false
namespace Go.Proofs.Ytfpcnagimjmkpaa
open Go.RowKit
set_option maxRecDepth 100000
theorem Try.info_int9 : (Try.prog.info? 3).map (fun i => (i.zero, i.size, i.bytes)) = some (some (.int .i64 0), 1, 8) := by kernel_rfl
abbrev orV (g k : Nat) : Int := (g : Int) + 1 + (k : Int)
abbrev orW (g k : Nat) : Wt := ((1000 : Int) + ((g : Int) + 1 + (k : Int)), 0, (g : Int) + 1 + (k : Int))
/-- g were received; a lie there; d wait to send; R wait to receive. -/
def orC (size g a d : Nat) (R : List Wt) : ChS := ⟨size, (List.range a).map (orV g), R, (List.range d).map (orW (g + a)), false, false, false⟩
def orL (g : Nat) : List Int := (List.range g).map (fun k : Nat => (k : Int) + 1)
theorem orL_snoc (g : Nat) : orL g ++ [(g : Int) + 1] = orL (g + 1) := by simp [orL, List.range_succ]
theorem orV_tail (g a : Nat) : (List.range (a + 1)).map (orV g) = ((g : Int) + 1) :: (List.range a).map (orV (g + 1)) := by
  rw [List.range_succ_eq_map]
  simp [orV, List.map_map, Function.comp_def]
  intro k hk; omega
theorem orV_snoc (g a : Nat) : (List.range a).map (orV g) ++ [(g : Int) + 1 + (a : Int)] = (List.range (a + 1)).map (orV g) := by simp [List.range_succ, orV]
theorem orW_tail (g d : Nat) : (List.range (d + 1)).map (orW g) = ((1000 : Int) + ((g : Int) + 1), 0, (g : Int) + 1) :: (List.range d).map (orW (g + 1)) := by
  rw [List.range_succ_eq_map]
  simp [orW, List.map_map, Function.comp_def]
  intro k hk; omega
theorem orW_snoc (g d : Nat) : (List.range d).map (orW g) ++ [((1000 : Int) + ((g : Int) + 1 + (d : Int)), 0, (g : Int) + 1 + (d : Int))] = (List.range (d + 1)).map (orW g) := by simp [List.range_succ, orW]
theorem or_send1 (size g : Nat) (x : Wt) (R : List Wt) (y : Int) : (orC size g 0 0 (x :: R)).sendR y = (true, [(x.1, x.2.1, y, true, false)], 0) ∧ (orC size g 0 0 (x :: R)).sendS y = orC size (g + 1) 0 0 R := ⟨rfl, rfl⟩
theorem or_send2 (size g a : Nat) (h : a < size) (y : Int) (hy : y = (g : Int) + 1 + (a : Int)) : (orC size g a 0 []).sendR y = (true, [], 0) ∧ (orC size g a 0 []).sendS y = orC size g (a + 1) 0 [] := by
  subst hy
  have e := orV_snoc g a
  constructor
  · simp [ChS.sendR, ChS.mute, orC, h]
  · simp [ChS.sendS, ChS.mute, orC, h, ← e]
theorem or_send3 (g a d : Nat) (y : Int) : (orC a g a d []).sendR y = (false, [], 0) ∧ (orC a g a d []).sendS y = orC a g a d [] := by
  constructor
  · simp [ChS.sendR, ChS.mute, orC]
  · simp [ChS.sendS, ChS.mute, orC]
theorem or_wait3 (g a d : Nat) (y : Int) (hy : y = (g : Int) + (a : Int) + 1 + (d : Int)) : (orC a g a d []).waitR (1000 + y, 0, y) true = 0 ∧ (orC a g a d []).waitS (1000 + y, 0, y) true = orC a g a (d + 1) [] := by
  have h : (orC a g a d []).waitR (1000 + y, 0, y) true = 0 := by simp [ChS.waitR, ChS.mute, ChS.free, ChS.queue, orC]
  refine ⟨h, ?_⟩
  have e := orW_snoc (g + a) d
  unfold ChS.waitS
  rw [h, if_pos rfl, if_pos rfl]
  subst hy
  have e2 : ((g + a : Nat) : Int) = (g : Int) + (a : Int) := by push_cast; rfl
  rw [e2] at e
  simp [orC, ← e]
theorem or_recv1 (size g a : Nat) : (orC size g (a + 1) 0 []).recvR = ((g : Int) + 1, true, true, []) ∧ (orC size g (a + 1) 0 []).recvS = orC size (g + 1) a 0 [] := by
  unfold orC; rw [orV_tail]; exact ⟨rfl, rfl⟩
theorem or_recv2 (size g a d : Nat) : (orC size g (a + 1) (d + 1) []).recvR = ((g : Int) + 1, true, true, [((1000 : Int) + (((g + (a + 1) : Nat) : Int) + 1), 0, 0, true, false)]) ∧ (orC size g (a + 1) (d + 1) []).recvS = orC size (g + 1) (a + 1) d [] := by
  unfold orC; rw [orV_tail, orW_tail]
  refine ⟨rfl, ?_⟩
  have e := orV_snoc (g + 1) a
  have e2 : (((g + (a + 1) : Nat) : Int) + 1) = (((g + 1 : Nat) : Int) + 1 + (a : Int)) := by push_cast; omega
  show (⟨size, (List.range a).map (orV (g + 1)) ++ [((g + (a + 1) : Nat) : Int) + 1], [], _, false, false, false⟩ : ChS) = _
  rw [e2, e, show g + (a + 1) + 1 = g + 1 + (a + 1) by omega]
theorem or_recv3 (size g d : Nat) : (orC size g 0 (d + 1) []).recvR = ((g : Int) + 1, true, true, [((1000 : Int) + ((g : Int) + 1), 0, 0, true, false)]) ∧ (orC size g 0 (d + 1) []).recvS = orC size (g + 1) 0 d [] := by
  unfold orC; rw [orW_tail]; exact ⟨rfl, rfl⟩
theorem or_recv4 (size g : Nat) (R : List Wt) : (orC size g 0 0 R).recvR = (0, false, false, []) ∧ (orC size g 0 0 R).recvS = orC size g 0 0 R := ⟨rfl, rfl⟩
theorem or_wait4 (size g : Nat) (R : List Wt) (x : Wt) : (orC size g 0 0 R).waitR x false = 0 ∧ (orC size g 0 0 R).waitS x false = orC size g 0 0 (R ++ [x]) := ⟨rfl, rfl⟩
theorem or_len (size g a d : Nat) (R : List Wt) : (orC size g a d R).lenR = a ∧ ((orC size g a d R).queue true).length = d ∧ ((orC size g a d R).queue false).length = R.length := by simp [ChS.lenR, ChS.queue, orC]
/-- What holds between the numbers. -/
structure OrI (size g a d s nn : Nat) (R : List Wt) : Prop where
  sum : s = g + a + d
  room : a ≤ size
  full : 0 < d → a = size ∧ R = []
  none : R ≠ [] → a = 0 ∧ d = 0
  low : ∀ x ∈ R, x.1 ≤ (nn : Int)
  few : R.length ≤ nn
set_option maxHeartbeats 8000000 in
theorem order_main (w : World) (v1 : Value) (l : List Bool) (size N : Nat) (hN : l.length = N) (h64 : size ≤ 64) (h80 : N ≤ 80) (hrd : Rd w 1 v1 N (l.map Value.bool)) :
    Calls Try.prog 3 #[.int .i64 size, v1] w fun e w' => e = .returned (.bool true) ∧ Fr Nob w w' := by
  obtain ⟨_, _, A, c, rfl, hc1, hc2, hA⟩ := hrd
  have Haw := Lib.hid (fun W => awake9 W)
  have Hnew := Lib.hid (fun W => chan_new W size h64)
  have HA := Lib.hid hA; have HN := Lib.hid hN
  clear hA hN
  have d1 : decide ((size : Int) < 0) = false := decide_eq_false (by omega)
  have d2 : decide ((64 : Int) < size) = false := decide_eq_false (by omega)
  have d2' : decide (64 < size) = false := decide_eq_false (by omega)
  have d3 : decide ((80 : Int) < N) = false := decide_eq_false (by omega)
  have d3' : decide (80 < N) = false := decide_eq_false (by omega)
  go_enter Try.func3, Try.ntmps3
  go_wp2_with fail
  refine (Hnew.out _).mono ?_
  intro e w1 hnew
  obtain ⟨b, rfl, hone⟩ := One.ofNew hnew
  have HG0 : Hid (Gt w w1 b (orC size 0 0 0 []) (.slice none 0 0) 0 (orL 0)) := Lib.hid (Gt.start hone (w' := w1))
  clear hnew hone
  go_wp2_with fail
  go_loopw [7, 8, 9, 10] (fun v7 v8 v9 v10 wr => ∃ (i s nn g a d : Nat) (R : List Wt) (Ag : Option Addr) (cg : Nat), v7 = .int .i64 s ∧ v8 = .int .i64 nn ∧ v9 = .slice Ag g cg ∧ v10 = .int .i64 i ∧ i ≤ N ∧ s ≤ i ∧ nn ≤ i ∧ Hid (OrI size g a d s nn R) ∧ Hid (Gt w wr b (orC size g a d R) (.slice Ag g cg) g (orL g))) (fun _ _ _ v10 _ => N - (intOf v10).toNat)
  case atStart => exact ⟨0, 0, 0, 0, 0, 0, [], none, 0, rfl, rfl, rfl, rfl, Nat.zero_le _, Nat.le_refl _, Nat.le_refl _, Lib.hid ⟨rfl, Nat.zero_le _, fun h => by omega, fun h => absurd rfl h, fun x hx => by simp at hx, Nat.le_refl _⟩, HG0⟩
  case round =>
    obtain ⟨i, s, nn, g, a, d, R, Ag, cg, rfl, rfl, rfl, rfl, hi, hsi, hni, HI, H1⟩ := hrel
    clear HG0
    by_cases hlt : i < N
    · have l1 : decide ((i : Int) < N) = true := decide_eq_true (by omega)
      have l2 : decide (i < N) = true := decide_eq_true hlt
      have i0 : (0 : Int) ≤ i := by omega
      have iN : (i : Int) < N := by omega
      obtain ⟨sd, hx⟩ : ∃ x, l[i]? = some x := ⟨_, List.getElem?_eq_getElem (by have := HN.out; omega)⟩
      obtain ⟨gA, oA, rfl, hgA, hcA⟩ := HA.out (by omega)
      have c0 := H1.out.fr.cell (p := ⟨gA, oA + i, none⟩) id (hcA i (.bool sd) (by simp [hx]))
      have hI := HI.out
      have hsum := hI.sum; have hroom := hI.room; have hful := hI.full; have hnon := hI.none; have hlow := hI.low; have hfew := hI.few
      clear hcA hx HI hI
      cases sd with
      | true =>
        cases R with
        | cons x R =>
          obtain ⟨rfl, rfl⟩ := hnon (by simp)
          have hg : g = s := by omega
          subst hg
          have hxl : x.1 ≤ (nn : Int) := hlow x (List.mem_cons_self ..)
          have hI2 : Hid (OrI size (g + 1) 0 0 (g + 1) nn R) := Lib.hid ⟨by omega, by omega, fun h => by omega, fun _ => ⟨rfl, rfl⟩, fun y hy => hlow y (List.mem_cons_of_mem _ hy), by simp at hfew; omega⟩
          obtain ⟨tk, kk, vv⟩ := x
          have Hs := Lib.hid (H1.out.send ((g : Int) + 1) true _ 1 0 _ (or_send1 size g (tk, kk, vv) R _).1 (or_send1 size g (tk, kk, vv) R _).2 rfl)
          have l3 : decide ((1000 : Int) ≤ tk) = false := decide_eq_false (by simp at hxl; omega)
          clear H1 hful hnon hlow hfew hsum hroom hxl
          go_wp2_with fail
          refine Hs.out.mono ?_
          rintro e w3 ⟨A3, cp3, rfl, hone, hrd⟩
          obtain ⟨g3, o3, rfl, hcp3, hkk⟩ := rd_one hrd
          have Hk := Lib.hid hkk
          have HX := Lib.hid hone
          clear hone hrd hkk Hs
          go_wp2_with fail
          go_loopw [9, 14] (fun v9 v14 wr => (v14 = .int .i64 0 ∧ v9 = .slice Ag g cg ∧ wr = w3) ∨ (v14 = .int .i64 1 ∧ ∃ A4 c4, v9 = .slice A4 (g + 1) c4 ∧ Hid (Gt w wr b (orC size (g + 1) 0 0 R) (.slice A4 (g + 1) c4) (g + 1) (orL (g + 1))))) (fun _ v14 _ => 1 - (intOf v14).toNat)
          case atStart => exact .inl ⟨rfl, rfl, rfl⟩
          case round =>
            rcases hrel with ⟨rfl, rfl, rfl⟩ | ⟨rfl, A4, c4, rfl, HG⟩
            · obtain ⟨e0, e1, e2, e3, e4⟩ := Hk.out
              dsimp only at e0 e1 e2 e3 e4
              obtain ⟨S, T, k1, k2, k3, k4, k5⟩ := HX.out
              have Hk5 := Lib.hid k5
              go_wp2_with (at_builtin; refine wpList_append1 _ rfl _ _ _ rfl T 3 _ 1 8 Try.underlying28 Try.info_int9 rfl (by omega) (.slice Ag g cg) g _ [.int .i64 ((g : Int) + 1)] rfl Hk5.out rfl rfl rfl (by omega) (by omega) ?_; intro v3 w9 hs3 hf3 hz3; obtain ⟨A3, c3, rfl⟩ := hs3.slice; have HG := Lib.hid (Gt.append k1 k2 k3 k4 hf3 hs3); clear hs3 hf3 hz3 k1 k2 k3 k4 k5)
              first
              | (go_roundw
                 case rel => exact .inr ⟨by go_num, A3, c3, rfl, by rw [← orL_snoc]; exact HG⟩
                 case measure => (simp [intOf] <;> omega))
              | (refine ⟨?_, ?measure2⟩
                 (repeat apply Exists.intro)
                 refine ⟨?rel2, rfl⟩
                 case rel2 => exact .inr ⟨by go_num, A3, c3, rfl, by rw [← orL_snoc]; exact HG⟩
                 case measure2 => (simp [intOf] <;> omega))
            · clear HX Hk
              go_wp2_with fail
              have Ql := Lib.hid (HG.out.one.len _ (or_len size (g + 1) 0 0 R).1)
              have qa : decide ((size : Int) < ((0 : Nat) : Int)) = false := decide_eq_false (by omega)
              have qa' : decide (size < 0) = false := decide_eq_false (by omega)
              refine Ql.out.mono ?_
              rintro e _ ⟨rfl, rfl⟩
              go_wp2_with fail
              first
              | (go_roundw
                 case rel => exact ⟨i + 1, g + 1, nn, g + 1, 0, 0, R, A4, c4, by go_num, rfl, rfl, by go_num, by omega, by omega, by omega, hI2, HG⟩
                 case measure => (simp [intOf] <;> omega))
              | (refine ⟨?_, ?measure2⟩
                 (repeat apply Exists.intro)
                 refine ⟨?rel2, rfl⟩
                 case rel2 => exact ⟨i + 1, g + 1, nn, g + 1, 0, 0, R, A4, c4, by go_num, rfl, rfl, by go_num, by omega, by omega, by omega, hI2, HG⟩
                 case measure2 => (simp [intOf] <;> omega))
        | nil =>
          by_cases has : a < size
          · have hd0 : d = 0 := by
              by_cases h : 0 < d
              · have := (hful h).1; omega
              · omega
            subst hd0
            have hI2 : Hid (OrI size g (a + 1) 0 (s + 1) nn []) := Lib.hid ⟨by omega, by omega, fun h => by omega, fun h => absurd rfl h, fun x hx => by simp at hx, by simp⟩
            have hy : (s : Int) + 1 = (g : Int) + 1 + (a : Int) := by omega
            have Hs := Lib.hid (H1.out.send ((s : Int) + 1) true [] 0 0 _ (or_send2 size g a has _ hy).1 (or_send2 size g a has _ hy).2 rfl)
            clear H1 hful hnon hlow hfew hsum hy
            go_wp2_with fail
            refine Hs.out.mono ?_
            rintro e w3 ⟨A3, cp3, rfl, hone, _⟩
            have HG := Lib.hid hone
            clear hone Hs
            go_wp2_with fail
            go_loopw [9, 14] (fun v9 v14 wr => v14 = .int .i64 0 ∧ v9 = .slice Ag g cg ∧ wr = w3) (fun _ v14 _ => 0)
            case atStart => exact ⟨rfl, rfl, rfl⟩
            case round =>
              obtain ⟨rfl, rfl, rfl⟩ := hrel
              go_wp2_with fail
              have Ql := Lib.hid (HG.out.one.len _ (or_len size g (a + 1) 0 []).1)
              have qa : decide ((size : Int) < (((a + 1) : Nat) : Int)) = false := decide_eq_false (by omega)
              have qa' : decide (size < (a + 1)) = false := decide_eq_false (by omega)
              refine Ql.out.mono ?_
              rintro e _ ⟨rfl, rfl⟩
              go_wp2_with fail
              first
              | (go_roundw
                 case rel => exact ⟨i + 1, s + 1, nn, g, a + 1, 0, [], Ag, cg, by go_num, rfl, rfl, by go_num, by omega, by omega, by omega, hI2, HG⟩
                 case measure => (simp [intOf] <;> omega))
              | (refine ⟨?_, ?measure2⟩
                 (repeat apply Exists.intro)
                 refine ⟨?rel2, rfl⟩
                 case rel2 => exact ⟨i + 1, s + 1, nn, g, a + 1, 0, [], Ag, cg, by go_num, rfl, rfl, by go_num, by omega, by omega, by omega, hI2, HG⟩
                 case measure2 => (simp [intOf] <;> omega))
          · have has2 : a = size := by omega
            subst has2
            have hI2 : Hid (OrI a g a (d + 1) (s + 1) nn []) := Lib.hid ⟨by omega, by omega, fun _ => ⟨rfl, rfl⟩, fun h => absurd rfl h, fun x hx => by simp at hx, by simp⟩
            have hy : (s : Int) + 1 = (g : Int) + (a : Int) + 1 + (d : Int) := by omega
            have Hs := Lib.hid (H1.out.send ((s : Int) + 1) false [] 0 0 _ (or_send3 g a d _).1 (or_send3 g a d _).2 rfl)
            have hdN : d ≤ 80 := by omega
            have Hy := Lib.hid hy
            clear H1 hful hnon hlow hfew hsum hy
            go_wp2_with fail
            refine Hs.out.mono ?_
            rintro e w3 ⟨A3, cp3, rfl, hone, _⟩
            have Hq := Lib.hid (hone.wait (1000 + ((s : Int) + 1), 0, (s : Int) + 1) true 0 _ (or_wait3 g a d _ Hy.out).1 (or_wait3 g a d _ Hy.out).2 ⟨by simp [orC], by simp [orC]; omega⟩)
            clear hone Hs
            go_wp2_with fail
            refine Hq.out.mono ?_
            rintro e w4 ⟨rfl, hone⟩
            have HG := Lib.hid hone
            clear hone Hq
            go_wp2_with fail
            go_loopw [9, 14] (fun v9 v14 wr => v14 = .int .i64 0 ∧ v9 = .slice Ag g cg ∧ wr = w4) (fun _ v14 _ => 0)
            case atStart => exact ⟨rfl, rfl, rfl⟩
            case round =>
              obtain ⟨rfl, rfl, rfl⟩ := hrel
              go_wp2_with fail
              have Ql := Lib.hid (HG.out.one.len _ (or_len a g a (d + 1) []).1)
              have qa : decide ((a : Int) < ((a : Nat) : Int)) = false := decide_eq_false (by omega)
              have qa' : decide (a < a) = false := decide_eq_false (by omega)
              refine Ql.out.mono ?_
              rintro e _ ⟨rfl, rfl⟩
              go_wp2_with fail
              first
              | (go_roundw
                 case rel => exact ⟨i + 1, s + 1, nn, g, a, d + 1, [], Ag, cg, by go_num, rfl, rfl, by go_num, by omega, by omega, by omega, hI2, HG⟩
                 case measure => (simp [intOf] <;> omega))
              | (refine ⟨?_, ?measure2⟩
                 (repeat apply Exists.intro)
                 refine ⟨?rel2, rfl⟩
                 case rel2 => exact ⟨i + 1, s + 1, nn, g, a, d + 1, [], Ag, cg, by go_num, rfl, rfl, by go_num, by omega, by omega, by omega, hI2, HG⟩
                 case measure2 => (simp [intOf] <;> omega))
      | false =>
        by_cases ha : 0 < a
        · have hR : R = [] := by
            cases R with
            | nil => rfl
            | cons x R => have := (hnon (by simp)).1; omega
          subst hR
          obtain ⟨a, rfl⟩ : ∃ k, a = k + 1 := ⟨a - 1, by omega⟩
          cases d with
          | zero =>
            have hI2 : Hid (OrI size (g + 1) a 0 s nn []) := Lib.hid ⟨by omega, by omega, fun h => by omega, fun h => absurd rfl h, fun x hx => by simp at hx, by simp⟩
            have Hs := Lib.hid (H1.out.recv ((g : Int) + 1) true true _ 0 _ (or_recv1 size g a).1 (or_recv1 size g a).2 rfl)
            have hg80 : g ≤ 80 := by omega
            clear H1 hful hnon hlow hfew hsum
            go_wp2_with fail
            refine Hs.out.mono ?_
            rintro e w3 ⟨A4, cp4, rfl, hone⟩
            have HX := Lib.hid hone
            clear hone Hs
            obtain ⟨S, T, k1, k2, k3, k4, k5⟩ := HX.out
            have Hk5 := Lib.hid k5
            go_wp2_with (at_builtin; refine wpList_append1 _ rfl _ _ _ rfl T 3 _ 1 8 Try.underlying28 Try.info_int9 rfl (by omega) (.slice Ag g cg) g _ [.int .i64 ((g : Int) + 1)] rfl Hk5.out rfl rfl rfl (by omega) (by omega) ?_; intro v3 w9 hs3 hf3 hz3; obtain ⟨A3, c3, rfl⟩ := hs3.slice; have HG := Lib.hid (Gt.append k1 k2 k3 k4 hf3 hs3); clear hs3 hf3 hz3 k1 k2 k3 k4 k5)
            have HG := Lib.hid (show Gt w w9 b _ _ (g + 1) (orL (g + 1)) from by have := HG.out; rwa [orL_snoc] at this)
            have Ql := Lib.hid (HG.out.one.len _ (or_len size (g + 1) a 0 []).1)
            have qa : decide ((size : Int) < ((a : Nat) : Int)) = false := decide_eq_false (by omega)
            have qa' : decide (size < a) = false := decide_eq_false (by omega)
            refine Ql.out.mono ?_
            rintro e _ ⟨rfl, rfl⟩
            go_wp2_with fail
            first
            | (go_roundw
               case rel => exact ⟨i + 1, s, nn, g + 1, a, 0, [], A3, c3, rfl, rfl, rfl, by go_num, by omega, by omega, by omega, hI2, HG⟩
               case measure => (simp [intOf] <;> omega))
            | (refine ⟨?_, ?measure2⟩
               (repeat apply Exists.intro)
               refine ⟨?rel2, rfl⟩
               case rel2 => exact ⟨i + 1, s, nn, g + 1, a, 0, [], A3, c3, rfl, rfl, rfl, by go_num, by omega, by omega, by omega, hI2, HG⟩
               case measure2 => (simp [intOf] <;> omega))
          | succ d =>
            have hI2 : Hid (OrI size (g + 1) (a + 1) d s nn []) := Lib.hid ⟨by omega, by omega, fun h => ⟨(hful (by omega)).1, rfl⟩, fun h => absurd rfl h, fun x hx => by simp at hx, by simp⟩
            have Hs := Lib.hid (H1.out.recv ((g : Int) + 1) true true _ 1 _ (or_recv2 size g a d).1 (or_recv2 size g a d).2 rfl)
            have hg80 : g ≤ 80 := by omega
            clear H1 hful hnon hlow hfew hsum
            go_wp2_with fail
            refine Hs.out.mono ?_
            rintro e w3 ⟨A4, cp4, rfl, hone⟩
            have HX := Lib.hid hone
            clear hone Hs
            obtain ⟨S, T, k1, k2, k3, k4, k5⟩ := HX.out
            have Hk5 := Lib.hid k5
            go_wp2_with (at_builtin; refine wpList_append1 _ rfl _ _ _ rfl T 3 _ 1 8 Try.underlying28 Try.info_int9 rfl (by omega) (.slice Ag g cg) g _ [.int .i64 ((g : Int) + 1)] rfl Hk5.out rfl rfl rfl (by omega) (by omega) ?_; intro v3 w9 hs3 hf3 hz3; obtain ⟨A3, c3, rfl⟩ := hs3.slice; have HG := Lib.hid (Gt.append k1 k2 k3 k4 hf3 hs3); clear hs3 hf3 hz3 k1 k2 k3 k4 k5)
            have HG := Lib.hid (show Gt w w9 b _ _ (g + 1) (orL (g + 1)) from by have := HG.out; rwa [orL_snoc] at this)
            have Ql := Lib.hid (HG.out.one.len _ (or_len size (g + 1) (a + 1) d []).1)
            have qa : decide ((size : Int) < (((a + 1) : Nat) : Int)) = false := decide_eq_false (by omega)
            have qa' : decide (size < (a + 1)) = false := decide_eq_false (by omega)
            refine Ql.out.mono ?_
            rintro e _ ⟨rfl, rfl⟩
            go_wp2_with fail
            first
            | (go_roundw
               case rel => exact ⟨i + 1, s, nn, g + 1, a + 1, d, [], A3, c3, rfl, rfl, rfl, by go_num, by omega, by omega, by omega, hI2, HG⟩
               case measure => (simp [intOf] <;> omega))
            | (refine ⟨?_, ?measure2⟩
               (repeat apply Exists.intro)
               refine ⟨?rel2, rfl⟩
               case rel2 => exact ⟨i + 1, s, nn, g + 1, a + 1, d, [], A3, c3, rfl, rfl, rfl, by go_num, by omega, by omega, by omega, hI2, HG⟩
               case measure2 => (simp [intOf] <;> omega))
        · have ha0 : a = 0 := by omega
          subst ha0
          cases d with
          | succ d =>
            have hR : R = [] := (hful (by omega)).2
            subst hR
            have hI2 : Hid (OrI size (g + 1) 0 d s nn []) := Lib.hid ⟨by omega, by omega, fun h => ⟨(hful (by omega)).1, rfl⟩, fun h => absurd rfl h, fun x hx => by simp at hx, by simp⟩
            have Hs := Lib.hid (H1.out.recv ((g : Int) + 1) true true _ 1 _ (or_recv3 size g d).1 (or_recv3 size g d).2 rfl)
            have hg80 : g ≤ 80 := by omega
            clear H1 hful hnon hlow hfew hsum
            go_wp2_with fail
            refine Hs.out.mono ?_
            rintro e w3 ⟨A4, cp4, rfl, hone⟩
            have HX := Lib.hid hone
            clear hone Hs
            obtain ⟨S, T, k1, k2, k3, k4, k5⟩ := HX.out
            have Hk5 := Lib.hid k5
            go_wp2_with (at_builtin; refine wpList_append1 _ rfl _ _ _ rfl T 3 _ 1 8 Try.underlying28 Try.info_int9 rfl (by omega) (.slice Ag g cg) g _ [.int .i64 ((g : Int) + 1)] rfl Hk5.out rfl rfl rfl (by omega) (by omega) ?_; intro v3 w9 hs3 hf3 hz3; obtain ⟨A3, c3, rfl⟩ := hs3.slice; have HG := Lib.hid (Gt.append k1 k2 k3 k4 hf3 hs3); clear hs3 hf3 hz3 k1 k2 k3 k4 k5)
            have HG := Lib.hid (show Gt w w9 b _ _ (g + 1) (orL (g + 1)) from by have := HG.out; rwa [orL_snoc] at this)
            have Ql := Lib.hid (HG.out.one.len _ (or_len size (g + 1) 0 d []).1)
            have qa : decide ((size : Int) < ((0 : Nat) : Int)) = false := decide_eq_false (by omega)
            have qa' : decide (size < 0) = false := decide_eq_false (by omega)
            refine Ql.out.mono ?_
            rintro e _ ⟨rfl, rfl⟩
            go_wp2_with fail
            first
            | (go_roundw
               case rel => exact ⟨i + 1, s, nn, g + 1, 0, d, [], A3, c3, rfl, rfl, rfl, by go_num, by omega, by omega, by omega, hI2, HG⟩
               case measure => (simp [intOf] <;> omega))
            | (refine ⟨?_, ?measure2⟩
               (repeat apply Exists.intro)
               refine ⟨?rel2, rfl⟩
               case rel2 => exact ⟨i + 1, s, nn, g + 1, 0, d, [], A3, c3, rfl, rfl, rfl, by go_num, by omega, by omega, by omega, hI2, HG⟩
               case measure2 => (simp [intOf] <;> omega))
          | zero =>
            have hI2 : Hid (OrI size g 0 0 s (nn + 1) (R ++ [((nn : Int) + 1, 0, 0)])) := Lib.hid ⟨by omega, by omega, fun h => by omega, fun _ => ⟨rfl, rfl⟩, fun x hx => by
              rcases List.mem_append.1 hx with hx | hx
              · have := hlow x hx; omega
              · simp at hx; subst hx; simp, by simp; omega⟩
            have Hs := Lib.hid (H1.out.recv 0 false false [] 0 _ (or_recv4 size g R).1 (or_recv4 size g R).2 rfl)
            have hR80 : R.length ≤ 80 := by omega
            clear H1 hful hnon hlow hfew hsum
            go_wp2_with fail
            refine Hs.out.mono ?_
            rintro e w3 ⟨A4, cp4, rfl, hone⟩
            have Hq := Lib.hid (hone.wait ((nn : Int) + 1, 0, 0) false 0 _ (or_wait4 size g R _).1 (or_wait4 size g R _).2 ⟨by simp [orC]; omega, by simp [orC]⟩)
            clear hone Hs
            go_wp2_with fail
            refine Hq.out.mono ?_
            rintro e w4 ⟨rfl, hone⟩
            have HG := Lib.hid hone
            clear hone Hq
            go_wp2_with fail
            have Ql := Lib.hid (HG.out.one.len _ (or_len size g 0 0 _).1)
            have qa : decide ((size : Int) < ((0 : Nat) : Int)) = false := decide_eq_false (by omega)
            have qa' : decide (size < 0) = false := decide_eq_false (by omega)
            refine Ql.out.mono ?_
            rintro e _ ⟨rfl, rfl⟩
            go_wp2_with fail
            first
            | (go_roundw
               case rel => exact ⟨i + 1, s, nn + 1, g, 0, 0, _, Ag, cg, rfl, by go_num, rfl, by go_num, by omega, by omega, by omega, hI2, HG⟩
               case measure => (simp [intOf] <;> omega))
            | (refine ⟨?_, ?measure2⟩
               (repeat apply Exists.intro)
               refine ⟨?rel2, rfl⟩
               case rel2 => exact ⟨i + 1, s, nn + 1, g, 0, 0, _, Ag, cg, rfl, by go_num, rfl, by go_num, by omega, by omega, by omega, hI2, HG⟩
               case measure2 => (simp [intOf] <;> omega))
    · have hiN : i = N := by omega
      subst hiN
      have l1 : decide ((i : Int) < i) = false := decide_eq_false (by omega)
      obtain ⟨wa, rfl⟩ : ∃ wa : World, wa = wr := ⟨_, rfl⟩
      have hI := HI.out
      have hsum := hI.sum; have hful := hI.full
      have Hful := Lib.hid hful
      clear hful hI
      go_wp2_with fail
      go_loopw [19] (fun vi wr => ∃ p : Nat, vi = .int .i64 p ∧ p ≤ g ∧ wr = wa) (fun vi _ => g - (intOf vi).toNat)
      case atStart => exact ⟨0, rfl, Nat.zero_le _, rfl⟩
      case round =>
        obtain ⟨p, rfl, hp, rfl⟩ := hrel
        by_cases hlt3 : p < g
        · have l5 : decide ((p : Int) < g) = true := decide_eq_true (by omega)
          have l6 : decide (p < g) = true := decide_eq_true hlt3
          have p0 : (0 : Int) ≤ p := by omega
          have pN : (p : Int) < g := by omega
          obtain ⟨_, _, A', c', hv, hb1, hb2, hB⟩ := H1.out.rd
          cases hv
          obtain ⟨g4, o4, rfl, hg4, hc4⟩ := hB (by omega)
          have e0 := hc4 p (.int .i64 ((p : Int) + 1)) (by simp [ints, orL, List.getElem?_map, List.getElem?_range hlt3])
          clear hc4 hB
          go_wp2_with fail
          first
          | (go_roundw
             case rel => exact ⟨p + 1, by go_num, by omega, by first | rfl | trivial⟩
             case measure => (simp [intOf] <;> omega))
          | (refine ⟨?_, ?measure2⟩
             (repeat apply Exists.intro)
             refine ⟨?rel2, rfl⟩
             case rel2 => exact ⟨p + 1, by go_num, by omega, by first | rfl | trivial⟩
             case measure2 => (simp [intOf] <;> omega))
        · have hpg : p = g := by omega
          subst hpg
          have l5 : decide ((p : Int) < p) = false := decide_eq_false (by omega)
          have Ql := Lib.hid (H1.out.one.len a (or_len size p a d R).1)
          have Qw := Lib.hid (H1.out.one.waiting true d (or_len size p a d R).2.1)
          go_wp2_with fail
          refine Ql.out.mono ?_
          rintro e _ ⟨rfl, rfl⟩
          go_wp2_with fail
          refine Qw.out.mono ?_
          rintro e w5 ⟨A5, cp5, rfl, hone⟩
          have Qx := Lib.hid (hone.waiting true d (or_len size p a d R).2.1)
          clear hone Ql Qw
          have q1 : ((p : Int) + ((a : Int) + (d : Int)) == (s : Int)) = true := beq_iff_eq.2 (by omega)
          go_wp2_with fail
          refine Qx.out.mono ?_
          rintro e w6 ⟨A6, cp6, rfl, hone⟩
          cases d with
          | zero =>
            have H5 := Lib.hid hone
            clear hone Qx
            go_wp2_with fail
            refine (Haw.out _).mono ?_
            rintro e w10 ⟨rfl, hf3⟩
            have F3 := Lib.hid (H5.out.fr.trans0 hf3)
            clear hf3
            go_wp2_with fail
            go_ret
            exact ⟨rfl, F3.out⟩
          | succ d =>
            have hR : R = [] := (Hful.out (by omega)).2
            have Qy := Lib.hid (hone.waiting false 0 ((or_len size p a (d + 1) R).2.2.trans (by rw [hR]; rfl)))
            have q2 : (((d + 1 : Nat) : Int) == 0) = false := beq_eq_false_iff_ne.2 (by omega)
            clear hone Qx hR
            go_wp2_with fail
            refine Qy.out.mono ?_
            rintro e w7 ⟨A7, cp7, rfl, hone⟩
            have H5 := Lib.hid hone
            clear hone Qy
            go_wp2_with fail
            refine (Haw.out _).mono ?_
            rintro e w10 ⟨rfl, hf3⟩
            have F3 := Lib.hid (H5.out.fr.trans0 hf3)
            clear hf3
            go_wp2_with fail
            go_ret
            exact ⟨rfl, F3.out⟩
theorem order_badS (w : World) (a0 : Int) (v1 : Value) (h : a0 < 0 ∨ 64 < a0) :
    Calls Try.prog 3 #[.int .i64 a0, v1] w fun e w' => e = .returned (.bool true) ∧ Fr Nob w w' := by
  have Haw := Lib.hid (fun W => awake9 W)
  by_cases h0 : a0 < 0
  · have d0 : decide (a0 < 0) = true := decide_eq_true h0
    clear h h0
    go_enter Try.func3, Try.ntmps3
    go_wp2_with fail
    refine (Haw.out _).mono ?_
    rintro e w2 ⟨rfl, hf2⟩
    have F2 := Lib.hid (hf2)
    clear hf2
    go_wp2_with fail
    go_ret
    exact ⟨rfl, F2.out⟩
  · have d0 : decide (a0 < 0) = false := decide_eq_false h0
    have d1 : decide (64 < a0) = true := decide_eq_true (by omega)
    clear h h0
    go_enter Try.func3, Try.ntmps3
    go_wp2_with fail
    refine (Haw.out _).mono ?_
    rintro e w2 ⟨rfl, hf2⟩
    have F2 := Lib.hid (hf2)
    clear hf2
    go_wp2_with fail
    go_ret
    exact ⟨rfl, F2.out⟩
theorem order_long (w : World) (v1 : Value) (l : List Bool) (size N : Nat) (hN : l.length = N) (h64 : size ≤ 64) (h80 : ¬ N ≤ 80) (hrd : Rd w 1 v1 N (l.map Value.bool)) :
    Calls Try.prog 3 #[.int .i64 size, v1] w fun e w' => e = .returned (.bool true) ∧ Fr Nob w w' := by
  obtain ⟨_, _, A, c, rfl, hc1, hc2, hA⟩ := hrd
  have Haw := Lib.hid (fun W => awake9 W)
  have d1 : decide ((size : Int) < 0) = false := decide_eq_false (by omega)
  have d2 : decide ((64 : Int) < size) = false := decide_eq_false (by omega)
  have d2' : decide (64 < size) = false := decide_eq_false (by omega)
  have d3 : decide ((80 : Int) < N) = true := decide_eq_true (by omega)
  have d3' : decide (80 < N) = true := decide_eq_true (by omega)
  clear hA hN h80
  go_enter Try.func3, Try.ntmps3
  go_wp2_with fail
  refine (Haw.out _).mono ?_
  rintro e w2 ⟨rfl, hf2⟩
  have F2 := Lib.hid hf2
  clear hf2
  go_wp2_with fail
  go_ret
  exact ⟨rfl, F2.out⟩
theorem chanOrder_walk (a0 : Int) (v1 : Value) (l : List Bool) (w : World) (w0 : (Lit.int .i64 a0).wf = true) (h1 : IsBools w v1 l) :
    Calls Try.prog 3 #[.int .i64 a0, v1] w fun e w' => e = .returned (.bool true) ∧ Below w.heap.size w w' := by
  have key : Calls Try.prog 3 #[.int .i64 a0, v1] w fun e w' => e = .returned (.bool true) ∧ Fr Nob w w' := by
    by_cases h : a0 < 0 ∨ 64 < a0
    · exact order_badS w a0 v1 h
    · obtain ⟨x, rfl⟩ : ∃ n : Nat, a0 = n := ⟨a0.toNat, by omega⟩
      by_cases h80 : l.length ≤ 80
      · exact order_main w v1 l x _ rfl (by omega) h80 h1
      · exact order_long w v1 l x _ rfl (by omega) h80 h1
  exact key.mono fun e w' ⟨h1, h2⟩ => ⟨h1, h2.below (Nat.le_refl _) fun _ q => q.elim⟩

/-! The row: out of the walk above. -/
namespace chanOrder
open Go.ChangeShapes Go.WideShapes Go.ChangeAt Go.RowKit
open Go.ChangeMaps (open_string shut_string)
theorem own : ownKnob Try.prog.godebug = none := by kernel_rfl
theorem laidOut : laidOutB Try.prog = true := by kernel_rfl
set_option maxRecDepth 100000 in
theorem lifted (os : Os) (started : os.Started) (H : Type) (enc : TypeId × Value → H) :
    ReturnsInHanded {} Try.checked os 3 .any (Rows.chanOrderSpec.pre6 enc Try.prog Try.f3 Rows.chanOrderRow.domain false) (Rows.chanOrderSpec.post enc Try.prog Try.f3 false true false false) := by
  refine returnsInHanded_of_change (C := Try.checked) own started (by kernel_rfl) Try.func3
    (ChangeSpec.witness6 (enc := enc) (C := Try.checked) false ⟨#[], #[.int .i64 0, .slice none 0 0], []⟩ 8 (by kernel_rfl) (by kernel_rfl) (by kernel_rfl) (by kernel_rfl)) ?_
  intro W base args ds gs before hval0 hW hcnd _
  have hval : ∀ (j : Nat) t v, Try.f3.params[j]? = some t → args[j]? = some v → Value.okWide Try.prog W .any base t v := hval0
  have hW' := hW
  obtain ⟨p, q, hA0, hV, rfl, hfz, hnd⟩ := hW
  have hA : DataW.TrodAll enc Try.prog W 0 (fun _ => true) true Try.f3.params.toList args.toList ds p := hA0
  rw [Try.params3] at hA hval
  obtain ⟨v0, vs0, d0, ds0, p0, q0, hargs, rfl, rfl, h0, r0⟩ := trodAll_cons hA
  obtain ⟨v1, vs1, d1, ds1, p1, q1, rfl, rfl, rfl, h1, r1⟩ := trodAll_cons r0
  obtain ⟨rfl, rfl, rfl⟩ := trodAll_nil r1
  obtain rfl : args = #[v0, v1] := by cases args; simp_all
  obtain ⟨rfl, rfl⟩ := trodVars_none hV
  obtain ⟨a0, rfl, rfl, rfl, w0⟩ := open_int Try.underlying3 (hval 0 3 v0 rfl rfl) h0
  have k1 := h1
  have lt1 : ∀ x ∈ p1, x.block < W.heap.size := by obtain ⟨m, hm⟩ := k1; exact DataW.trod_lt m _ _ _ hm
  obtain ⟨x1, g1⟩ := opn_bools (hval 1 22 v1 rfl rfl) h1
  clear hA0 hval0
  refine (chanOrder_walk a0 v1 x1 W w0 g1).mono fun e W' ⟨he, bel⟩ => ?_
  subst he
  exact ⟨_, rfl, _, _, _, [], _, [], hW', trodAll_mk1 (shut_bool Try.underlying4 _), (trodAll_cons_mk (shut_int Try.underlying3 w0) (trodAll_cons_mk (Below.trod laidOut (by kernel_rfl) (of_decide_eq_true (by kernel_rfl)) k1 bel lt1) trodAll_mk0)), rfl, bel.frame _, fun h => by cases h⟩
theorem over : Rows.chanOrderRow.holds Try.pinned (OpenSpec.ofChange Rows.chanOrderSpec) :=
  OpenClaim.holds_of_wide 3 Try.f3 rfl rfl rfl rfl rfl rfl rfl ⟨rfl, rfl, rfl, rfl, rfl⟩ rfl rfl rfl rfl rfl (by kernel_rfl) Try.func3 (by kernel_rfl)
    (of_decide_eq_true (by kernel_rfl)) (by unfold Func.isWrapper; first | (rw [if_pos (by decide +kernel)]; kernel_rfl) | (rw [if_neg (by decide +kernel)]; exact ⟨rfl, rfl⟩))
    (fun os started H enc _ => lifted os started H enc)
end chanOrder
/-- THE STATEMENT. -/
theorem chanOrder_holds : Rows.ChanOrderSaid := chanOrder.over
#print axioms chanOrder_holds
end Go.Proofs.Ytfpcnagimjmkpaa
