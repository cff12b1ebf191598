/- FairTurns answers true whatever its numbers are: no condition. -/
import Derived.Test.YtaghnlmfhfbhhaaOpen
import Derived.Test.YtaghnlmfhfbhhaaFairRef
import Derived.Test.YtaghnlmfhfbhhaaFairLaw
import Derived.Test.YtaghnlmfhfbhhaaFairAwake
import Derived.Test.YtaghnlmfhfbhhaaAlike
import Derived.IntWalk
set_option linter.unusedVariables false
set_option linter.unusedSimpArgs false
namespace Go.Proofs.Ytaghnlmfhfbhhaa
open Go.RowKit
set_option maxRecDepth 100000

def iota (j : Nat) : List Int := (List.range j).map fun (i : Nat) => (i : Int)
theorem iota_len (j : Nat) : (iota j).length = j := by simp [iota]
theorem iota_snoc (j : Nat) : iota j ++ [(j : Int)] = iota (j + 1) := by simp [iota, List.range_succ]
theorem iota_mem (j : Nat) (x : Int) : x ∈ iota j ↔ 0 ≤ x ∧ x < j := by
  simp only [iota, List.mem_map, List.mem_range]
  constructor
  · rintro ⟨a, h, rfl⟩; omega
  · rintro ⟨h1, h2⟩; exact ⟨x.toNat, by omega, by omega⟩
/-- Who is picked at the j-th look. -/
def pkOf (n k : Nat) (c : Bool) (j : Nat) : Nat := if c = true ∧ j % n = k then (j % n + 1) % n else j % n
def turnsL (n k : Nat) (c : Bool) (i : Nat) : List Lk := (List.range i).map fun j => (iota n, (pkOf n k c j : Int))
theorem turnsL_len (n k : Nat) (c : Bool) (i : Nat) : (turnsL n k c i).length = i := by simp [turnsL]
theorem turnsL_get (n k : Nat) (c : Bool) (i j : Nat) (h : j < i) : (turnsL n k c i)[j]? = some (iota n, (pkOf n k c j : Int)) := by simp [turnsL, h]
theorem turnsL_snoc (n k : Nat) (c : Bool) (i : Nat) : turnsL n k c i ++ [(iota n, (pkOf n k c i : Int))] = turnsL n k c (i + 1) := by simp [turnsL, List.range_succ]
theorem turns_plain (n k : Nat) (c : Bool) (T : Nat) (hn : 1 ≤ n) (h : ∀ j, j < T → ¬ (c = true ∧ j % n = k)) : longest (turnsL n k c T) = min T (n - 1) := by
  have hpk : ∀ j, j < T → pkOf n k c j = j % n := fun j hj => if_neg (h j hj)
  have hle := longest_le (turnsL n k c T)
  rw [turnsL_len] at hle
  have hlow : min T (n - 1) ≤ longest (turnsL n k c T) := by
    refine longest_ge _ ((n - 1 : Nat) : Int) 0 _ ⟨by rw [turnsL_len]; omega, fun j hj y hy => ?_⟩
    rw [Nat.zero_add, turnsL_get _ _ _ _ _ (by omega), hpk j (by omega), Nat.mod_eq_of_lt (by omega)] at hy
    cases hy
    simp only [passedB, Bool.and_eq_true, Bool.not_eq_true', decide_eq_false_iff_not, decide_eq_true_eq]
    refine ⟨by omega, (iota_mem _ _).2 (by omega)⟩
  have hup : longest (turnsL n k c T) < n := by
    rcases longest_run (turnsL n k c T) with h0 | ⟨t, i, h1, h2⟩
    · omega
    · by_cases hm : n ≤ longest (turnsL n k c T)
      · exfalso
        rw [turnsL_len] at h1
        have h3 := h2 0 (by omega) _ (turnsL_get _ _ _ _ _ (by omega))
        simp only [passedB, Bool.and_eq_true, Bool.not_eq_true', decide_eq_false_iff_not, decide_eq_true_eq] at h3
        obtain ⟨t0, rfl⟩ := Int.eq_ofNat_of_zero_le ((iota_mem _ _).1 h3.2).1
        have ht0 : t0 < n := by have := ((iota_mem _ _).1 h3.2).2; omega
        have hj : (t0 + n - i % n) % n < n := Nat.mod_lt _ (by omega)
        have him : i % n < n := Nat.mod_lt _ (by omega)
        have h4 := h2 ((t0 + n - i % n) % n) (by omega) _ (turnsL_get _ _ _ _ _ (by omega))
        rw [hpk _ (by omega)] at h4
        have e : (i + (t0 + n - i % n) % n) % n = t0 := by
          rw [Nat.add_mod_mod]
          have h5 := Nat.div_add_mod i n
          have e2 : i + (t0 + n - i % n) = t0 + n * (i / n + 1) := by rw [Nat.mul_add]; omega
          rw [e2, Nat.add_mul_mod_self_left, Nat.mod_eq_of_lt ht0]
        rw [e] at h4
        simp [passedB] at h4
      · omega
  omega
theorem pk_ne (n k j : Nat) (hn : 1 < n) (hk : k < n) : pkOf n k true j ≠ k := by
  unfold pkOf
  split
  · next h =>
    rw [h.2]
    by_cases hk1 : k + 1 = n
    · rw [hk1, Nat.mod_self]; omega
    · rw [Nat.mod_eq_of_lt (by omega)]; omega
  · next h => intro e; exact h ⟨rfl, e⟩
theorem turns_odd (n k T : Nat) (hn : 1 < n) (hk : k < n) : longest (turnsL n k true T) = T ∧ pickedN (turnsL n k true T) k = 0 ∧ readyN (turnsL n k true T) k = T := by
  have hmem : (k : Int) ∈ iota n := (iota_mem _ _).2 (by omega)
  refine ⟨?_, ?_, ?_⟩
  · have hle := longest_le (turnsL n k true T)
    rw [turnsL_len] at hle
    have := longest_ge (turnsL n k true T) k 0 T ⟨by rw [turnsL_len]; omega, fun j hj y hy => by
      rw [Nat.zero_add, turnsL_get _ _ _ _ _ hj] at hy
      cases hy
      have := pk_ne n k j hn hk
      simp only [passedB, Bool.and_eq_true, Bool.not_eq_true', decide_eq_false_iff_not, decide_eq_true_eq]
      exact ⟨by omega, hmem⟩⟩
    omega
  · unfold pickedN
    rw [List.length_eq_zero_iff, List.filter_eq_nil_iff]
    intro x hx
    obtain ⟨j, _, rfl⟩ := List.mem_map.1 hx
    have := pk_ne n k j hn hk
    simp only [decide_eq_true_eq]
    omega
  · unfold readyN
    rw [List.filter_eq_self.2, turnsL_len]
    intro x hx
    obtain ⟨j, _, rfl⟩ := List.mem_map.1 hx
    simpa using hmem

theorem info_look : (Try.prog.info? 74).map (fun i => (i.zero, i.size, i.bytes)) = some (some (.agg #[.slice none 0 0, .int .i64 0]), 2, 32) := by kernel_rfl
theorem info_int3 : (Try.prog.info? 3).map (fun i => (i.zero, i.size, i.bytes)) = some (some (.int .i64 0), 1, 8) := by kernel_rfl
/-- Looks whose runnable ones are all one slice's. -/
theorem looks_same (w : World) (v va : Value) (L : List Lk) (l : List Int) (i : Nat) (hi : L.length = i) (h : Rd w 2 v i ((L.map fun x => (va, x)).flatMap lookEn)) (ha : Rd w 1 va l.length (ints l)) (hl : ∀ x ∈ L, x.1 = l) : Looks w v (L.map fun x => (va, x)) :=
  ⟨by rw [List.length_map, hi]; exact h, fun m hm => by obtain ⟨x, hx, rfl⟩ := List.mem_map.1 hm; rw [show (va, x).2.1 = l from hl x hx]; exact ha⟩

set_option maxHeartbeats 1000000 in
theorem fairTurns_bad (n turns skip : Int) (w : World) (h : n < 1 ∨ 15 < n ∨ turns < 0 ∨ 40 < turns) :
    Calls Try.prog 11 #[.int .i64 n, .int .i64 turns, .int .i64 skip] w fun e w' => e = .returned (.bool true) ∧ Below w.heap.size w w' := by
  go_enter Try.func11, Try.ntmps11
  go_wp2_with fail
  all_goals
    refine (fair_awake w).mono ?_
    rintro e w' ⟨rfl, hf⟩
    go_wp2_with fail
    go_ret
    exact ⟨rfl, hf.below (Nat.le_refl _) fun _ q => q.elim⟩

set_option maxHeartbeats 8000000 in
theorem fairTurns_good (n T : Nat) (skip : Int) (w : World) (h1 : 1 ≤ n) (h2 : n ≤ 15) (h3 : T ≤ 40) :
    Calls Try.prog 11 #[.int .i64 (n : Int), .int .i64 (T : Int), .int .i64 skip] w fun e w' => e = .returned (.bool true) ∧ Below w.heap.size w w' := by
  have g1 : ¬ (n : Int) < 1 := by omega
  have g2 : ¬ (15 : Int) < n := by omega
  have g3 : ¬ (T : Int) < 0 := by omega
  have g4 : ¬ (40 : Int) < T := by omega
  go_enter Try.func11, Try.ntmps11
  go_wp2_with fail
  go_loopw [8, 9] (fun va i wr => ∃ j : Nat, i = .int .i64 j ∧ j ≤ n ∧ ∃ A c, va = .slice A j c ∧ Fr (From w.heap.size) w wr ∧ Sl wr (From w.heap.size) 3 1 (.slice A j c) j (ints (iota j))) (fun _ i _ => n - (intOf i).toNat)
  case atStart => exact ⟨0, rfl, Nat.zero_le _, none, 0, rfl, Fr.refl _ _, Sl.nil _ _ _ _⟩
  case round =>
    obtain ⟨j, rfl, hj, Aa, ca, rfl, hfr, hs⟩ := hrel
    have Hfr := Lib.hid hfr; have Hs := Lib.hid hs
    clear hfr hs
    by_cases hlt : j < n
    · go_wp2_with (at_builtin; refine wpList_append1 _ rfl _ _ _ rfl (From w.heap.size) 3 _ 1 8 Try.underlying28 info_int3 rfl (by omega) (.slice Aa j ca) j (ints (iota j)) [.int .i64 j] rfl Hs.out rfl rfl rfl (by omega) (by omega) ?_; intro v3 w3 hs3 hf3 hz3)
      obtain ⟨A3, c3, rfl⟩ := hs3.slice
      have hz := Hfr.out.size
      have Hs3 : Hid (Sl w3 (From w.heap.size) 3 1 (.slice A3 (j + 1) c3) (j + 1) (ints (iota (j + 1)))) := by
        have := hs3.mono (S' := From w.heap.size) (fun k hk q => by rcases q with q | q; exact q; unfold From; omega)
        rw [← iota_snoc]
        simpa [ints] using Lib.hid this
      have Hf3 := Lib.hid (Hfr.out.trans0 hf3)
      clear hs3 hf3 hz3 hz
      go_wp2_with fail
      go_roundw
      case rel => exact ⟨j + 1, by go_num, by omega, _, _, rfl, Hf3.out, Hs3.out⟩
      case measure => simp [intOf]; omega
    · obtain rfl : j = n := by omega
      have hra := Hs.out.rd
      have Hra := Lib.hid hra; clear hra
      go_wp2_with fail
      refine (alike_round wr skip j (by omega) (by omega)).mono ?_
      rintro e wA ⟨rfl, rfl⟩
      have hk1 := Int.emod_nonneg skip (show (j : Int) ≠ 0 by omega)
      have hk2 := Int.emod_lt_of_pos skip (show 0 < (j : Int) by omega)
      generalize skip % (j : Int) = k0 at *
      obtain ⟨k, rfl⟩ := Int.eq_ofNat_of_zero_le hk1
      have hkj : k < j := by omega
      clear hk1 hk2
      obtain ⟨cb, hcb⟩ : ∃ cb : Bool, cb = (decide ((1 : Int) < j) && (skip.tmod 2 == 1)) := ⟨_, rfl⟩
      have hc1 : cb = true → 1 < j := fun h => by rw [h] at hcb; simp at hcb; omega
      have Hc1 := Lib.hid hc1; clear hc1
      have Hcb := Lib.hid hcb; clear hcb
      go_wp2_with fail
      obtain ⟨wA, hwA⟩ : ∃ x, x = wr := ⟨wr, rfl⟩
      subst hwA
      go_loopw [7, 11, 12] (fun vl od i wz => ∃ (q : Nat) (o : Bool), i = .int .i64 q ∧ od = .bool o ∧ q ≤ T ∧ (o = true → cb = true) ∧ (o = false → ∀ x, x < q → ¬ (cb = true ∧ x % j = k)) ∧ ∃ A c, vl = .slice A q c ∧ Fr (From wA.heap.size) wA wz ∧ Sl wz (From wA.heap.size) 74 2 (.slice A q c) q (((turnsL j k cb q).map fun x => (Value.slice Aa j ca, x)).flatMap lookEn)) (fun _ _ i _ => T - (intOf i).toNat)
      case atStart => exact ⟨0, false, rfl, rfl, Nat.zero_le _, (fun h => by cases h), (fun _ x hx => by omega), none, 0, rfl, Fr.refl _ _, Sl.nil _ _ _ _⟩
      case round =>
        obtain ⟨q, o, rfl, rfl, hq, ho1, ho2, Al, cl, rfl, hfl, hsl⟩ := hrel
        have Hfl := Lib.hid hfl; have Hsl := Lib.hid hsl; have Ho1 := Lib.hid ho1; have Ho2 := Lib.hid ho2
        clear hfl hsl ho1 ho2
        by_cases hltq : q < T
        · obtain ⟨m, hm⟩ : ∃ m, m = q % j := ⟨_, rfl⟩
          have hmj : m < j := by rw [hm]; exact Nat.mod_lt _ (by omega)
          have e1 : (q : Int).tmod (j : Int) = (m : Int) := by rw [hm]; rfl
          have hpn : ¬ (cb = true ∧ q % j = k) → ((pkOf j k cb q : Nat) : Int) = (m : Int) := fun h => by rw [hm]; unfold pkOf; rw [if_neg h]
          have Hpn := Lib.hid hpn
          have Hm := Lib.hid hm
          clear hpn hm
          by_cases hj1 : (1 : Int) < j
          · have hd1 : decide ((1 : Int) < j) = true := by simpa using hj1
            by_cases hmk : m = k
            · have hd2 : ((m : Int) == (k : Int)) = true := by simp [hmk]
              by_cases hs2 : skip.tmod 2 = 1
              · have hd3 : (skip.tmod 2 == 1) = true := by simp [hs2]
                have hcbt : cb = true := by rw [Hcb.out, hd1, hd3]; rfl
                obtain ⟨r, hr⟩ : ∃ r, r = (m + 1) % j := ⟨_, rfl⟩
                have e2 : ((m : Int) + 1).tmod (j : Int) = (r : Int) := by rw [hr]; rfl
                have hpr : ((pkOf j k cb q : Nat) : Int) = (r : Int) := by rw [hr]; unfold pkOf; rw [if_pos ⟨hcbt, by rw [← Hm.out]; exact hmk⟩, ← Hm.out]
                have Hpr := Lib.hid hpr
                have Hcbt := Lib.hid hcbt
                clear hpr hr hcbt hs2 hmk
                go_wp2_with (at_builtin; refine wpList_append1 _ rfl _ _ _ rfl (From wA.heap.size) 74 _ 2 32 Try.underlying62 info_look rfl (by omega) (.slice Al q cl) q _ [.slice Aa j ca, .int .i64 r] rfl Hsl.out rfl rfl rfl (by omega) (by omega) ?_; intro v3 w3 hs3 hf3 hz3)
                obtain ⟨A3, c3, rfl⟩ := hs3.slice
                have hz := Hfl.out.size
                have Hs3 : Hid (Sl w3 (From wA.heap.size) 74 2 (.slice A3 (q + 1) c3) (q + 1) (((turnsL j k cb (q + 1)).map fun x => (Value.slice Aa j ca, x)).flatMap lookEn)) := by
                  have := hs3.mono (S' := From wA.heap.size) (fun k hk q => by rcases q with q | q; exact q; unfold From; omega)
                  rw [← turnsL_snoc, Hpr.out]
                  simpa [lookEn] using Lib.hid this
                have Hf3 := Lib.hid (Hfl.out.trans0 hf3)
                clear hs3 hf3 hz3 hz
                go_wp2_with fail
                go_roundw
                case rel => exact ⟨q + 1, true, by go_num, rfl, by omega, (fun _ => Hcbt.out), (fun h => by cases h), _, _, rfl, Hf3.out, Hs3.out⟩
                case measure => simp [intOf]; omega
              · have hd3 : (skip.tmod 2 == 1) = false := by simp [hs2]
                have Hno : Hid (¬ (cb = true ∧ q % j = k)) := by rw [Hcb.out, hd3]; simpa using Lib.hid trivial
                clear hs2 hmk
                go_wp2_with (at_builtin; refine wpList_append1 _ rfl _ _ _ rfl (From wA.heap.size) 74 _ 2 32 Try.underlying62 info_look rfl (by omega) (.slice Al q cl) q _ [.slice Aa j ca, .int .i64 m] rfl Hsl.out rfl rfl rfl (by omega) (by omega) ?_; intro v3 w3 hs3 hf3 hz3)
                obtain ⟨A3, c3, rfl⟩ := hs3.slice
                have hz := Hfl.out.size
                have Hs3 : Hid (Sl w3 (From wA.heap.size) 74 2 (.slice A3 (q + 1) c3) (q + 1) (((turnsL j k cb (q + 1)).map fun x => (Value.slice Aa j ca, x)).flatMap lookEn)) := by
                  have := hs3.mono (S' := From wA.heap.size) (fun k hk q => by rcases q with q | q; exact q; unfold From; omega)
                  rw [← turnsL_snoc, Hpn.out Hno.out]
                  simpa [lookEn] using Lib.hid this
                have Hf3 := Lib.hid (Hfl.out.trans0 hf3)
                clear hs3 hf3 hz3 hz
                go_wp2_with fail
                go_roundw
                case rel => exact ⟨q + 1, o, by go_num, rfl, by omega, Ho1.out, (fun ho x hx => by rcases Nat.lt_succ_iff_lt_or_eq.1 hx with h | h; exact Ho2.out ho x h; subst h; exact Hno.out), _, _, rfl, Hf3.out, Hs3.out⟩
                case measure => simp [intOf]; omega
            · have hd2 : ((m : Int) == (k : Int)) = false := by simp; omega
              have Hno : Hid (¬ (cb = true ∧ q % j = k)) := fun h => hmk (by rw [Hm.out]; exact h.2)
              clear hmk
              go_wp2_with (at_builtin; refine wpList_append1 _ rfl _ _ _ rfl (From wA.heap.size) 74 _ 2 32 Try.underlying62 info_look rfl (by omega) (.slice Al q cl) q _ [.slice Aa j ca, .int .i64 m] rfl Hsl.out rfl rfl rfl (by omega) (by omega) ?_; intro v3 w3 hs3 hf3 hz3)
              obtain ⟨A3, c3, rfl⟩ := hs3.slice
              have hz := Hfl.out.size
              have Hs3 : Hid (Sl w3 (From wA.heap.size) 74 2 (.slice A3 (q + 1) c3) (q + 1) (((turnsL j k cb (q + 1)).map fun x => (Value.slice Aa j ca, x)).flatMap lookEn)) := by
                have := hs3.mono (S' := From wA.heap.size) (fun k hk q => by rcases q with q | q; exact q; unfold From; omega)
                rw [← turnsL_snoc, Hpn.out Hno.out]
                simpa [lookEn] using Lib.hid this
              have Hf3 := Lib.hid (Hfl.out.trans0 hf3)
              clear hs3 hf3 hz3 hz
              go_wp2_with fail
              go_roundw
              case rel => exact ⟨q + 1, o, by go_num, rfl, by omega, Ho1.out, (fun ho x hx => by rcases Nat.lt_succ_iff_lt_or_eq.1 hx with h | h; exact Ho2.out ho x h; subst h; exact Hno.out), _, _, rfl, Hf3.out, Hs3.out⟩
              case measure => simp [intOf]; omega
          · have hd1 : decide ((1 : Int) < j) = false := by simp; omega
            have Hno : Hid (¬ (cb = true ∧ q % j = k)) := fun h => by rw [Hcb.out, hd1] at h; simp at h
            go_wp2_with (at_builtin; refine wpList_append1 _ rfl _ _ _ rfl (From wA.heap.size) 74 _ 2 32 Try.underlying62 info_look rfl (by omega) (.slice Al q cl) q _ [.slice Aa j ca, .int .i64 m] rfl Hsl.out rfl rfl rfl (by omega) (by omega) ?_; intro v3 w3 hs3 hf3 hz3)
            obtain ⟨A3, c3, rfl⟩ := hs3.slice
            have hz := Hfl.out.size
            have Hs3 : Hid (Sl w3 (From wA.heap.size) 74 2 (.slice A3 (q + 1) c3) (q + 1) (((turnsL j k cb (q + 1)).map fun x => (Value.slice Aa j ca, x)).flatMap lookEn)) := by
              have := hs3.mono (S' := From wA.heap.size) (fun k hk q => by rcases q with q | q; exact q; unfold From; omega)
              rw [← turnsL_snoc, Hpn.out Hno.out]
              simpa [lookEn] using Lib.hid this
            have Hf3 := Lib.hid (Hfl.out.trans0 hf3)
            clear hs3 hf3 hz3 hz
            go_wp2_with fail
            go_roundw
            case rel => exact ⟨q + 1, o, by go_num, rfl, by omega, Ho1.out, (fun ho x hx => by rcases Nat.lt_succ_iff_lt_or_eq.1 hx with h | h; exact Ho2.out ho x h; subst h; exact Hno.out), _, _, rfl, Hf3.out, Hs3.out⟩
            case measure => simp [intOf]; omega
        · obtain rfl : q = T := by omega
          have hf4 : Fr Nob wA wr := Hfl.out.mono fun k hk q => by unfold From at q; omega
          have HLk : Hid (Looks wr (.slice Al q cl) ((turnsL j k cb q).map fun x => (Value.slice Aa j ca, x))) :=
            looks_same wr _ _ _ (iota j) q (turnsL_len _ _ _ _) Hsl.out.rd (by rw [iota_len]; exact Hra.out.fr hf4) (fun x hx => by obtain ⟨y, _, rfl⟩ := List.mem_map.1 hx; rfl)
          have HF := Lib.hid (Hfr.out.trans0 hf4.none)
          have hmap : ((turnsL j k cb q).map fun x => (Value.slice Aa j ca, x)).map (·.2) = turnsL j k cb q := by rw [List.map_map]; exact List.map_id _
          have hlen : ((turnsL j k cb q).map fun x => (Value.slice Aa j ca, x)).length ≤ 1000000 := by rw [List.length_map, turnsL_len]; omega
          have cg := fun w0 h => fair_longest w0 (.slice Al q cl) ((turnsL j k cb q).map fun x => (Value.slice Aa j ca, x)) h hlen
          have cf := fun w0 kk h => fair_fair w0 (.slice Al q cl) ((turnsL j k cb q).map fun x => (Value.slice Aa j ca, x)) kk h hlen
          have cs := fun w0 h => fair_share w0 (.slice Al q cl) ((turnsL j k cb q).map fun x => (Value.slice Aa j ca, x)) (k : Int) h hlen
          rw [hmap] at cg cf cs
          have hend : ∀ W W', Fr (From w.heap.size) w W → Fr Nob W W' → Below w.heap.size w W' := fun W W' h1 h2 => (h1.trans0 h2.none).below (Nat.le_refl _) fun _ q => q
          have Hend := Lib.hid hend
          clear hend hf4 hmap hlen Hsl Hfl Hra Hs
          cases o with
          | false =>
            have hpl := turns_plain j k cb q h1 (Ho2.out rfl)
            have hff : fairB (turnsL j k cb q) (j : Int) = true := by simp [fairB, hpl]; omega
            rw [hpl] at cg
            have cf1 := fun w0 h => cf w0 (j : Int) h
            rw [hff] at cf1
            have Cl := Lib.hid cg; have Cf := Lib.hid cf1
            clear cg cf cs hpl hff cf1
            generalize ((turnsL j k cb q).map fun x => (Value.slice Aa j ca, x)) = M at *
            by_cases hqj : q ≤ j - 1
            · have m1 : ¬ (j : Int) - 1 < (q : Int) := by omega
              have m2 : (q : Int) ≤ (j : Int) - 1 := by omega
              rw [Nat.min_eq_left hqj] at Cl
              go_wp2_with fail
              refine (Cl.out _ HLk.out).mono ?_
              rintro e w5 ⟨rfl, hf5⟩
              have Hl5 := Lib.hid (HLk.out.fr hf5)
              have F5 := Lib.hid (HF.out.trans0 hf5.none); clear hf5
              go_wp2_with fail
              refine (Cf.out _ Hl5.out).mono ?_
              rintro e w6 ⟨rfl, hf6⟩
              have F6 := Lib.hid (F5.out.trans0 hf6.none); clear hf6
              go_wp2_with fail
              refine (fair_awake w6).mono ?_
              rintro e w7 ⟨rfl, hf7⟩
              go_wp2_with fail
              go_ret
              exact ⟨rfl, Hend.out _ _ F6.out hf7⟩
            · have m1 : (j : Int) - 1 < (q : Int) := by omega
              have m2 : ¬ (q : Int) ≤ (j : Int) - 1 := by omega
              rw [Nat.min_eq_right (by omega)] at Cl
              have m3 : ((j - 1 : Nat) : Int) = (j : Int) - 1 := by omega
              rw [m3] at Cl
              clear m3
              go_wp2_with fail
              refine (Cl.out _ HLk.out).mono ?_
              rintro e w5 ⟨rfl, hf5⟩
              have Hl5 := Lib.hid (HLk.out.fr hf5)
              have F5 := Lib.hid (HF.out.trans0 hf5.none); clear hf5
              go_wp2_with fail
              refine (Cf.out _ Hl5.out).mono ?_
              rintro e w6 ⟨rfl, hf6⟩
              have F6 := Lib.hid (F5.out.trans0 hf6.none); clear hf6
              go_wp2_with fail
              refine (fair_awake w6).mono ?_
              rintro e w7 ⟨rfl, hf7⟩
              go_wp2_with fail
              go_ret
              exact ⟨rfl, Hend.out _ _ F6.out hf7⟩
          | true =>
            have hcbt := Ho1.out rfl
            have hj2 := Hc1.out hcbt
            subst hcbt
            obtain ⟨o1, o2, o3⟩ := turns_odd j k q hj2 hkj
            have hf1 : fairB (turnsL j k true q) (q : Int) = false := by simp [fairB, o1]
            have hf2 : fairB (turnsL j k true q) ((q : Int) + 1) = true := by simp [fairB, o1]; omega
            have cf1 := fun w0 h => cf w0 (q : Int) h
            have cf2 := fun w0 h => cf w0 ((q : Int) + 1) h
            rw [hf1] at cf1
            rw [hf2] at cf2
            rw [o1] at cg
            rw [o2, o3] at cs
            have Cl := Lib.hid cg; have Cf1 := Lib.hid cf1; have Cf2 := Lib.hid cf2; have Cs := Lib.hid cs
            clear cg cf cs cf1 cf2 hf1 hf2 o1 o2 o3
            generalize ((turnsL j k true q).map fun x => (Value.slice Aa j ca, x)) = M at *
            go_wp2_with fail
            refine (Cs.out _ HLk.out).mono ?_
            rintro e w5 ⟨rfl, hf5⟩
            have Hl5 := Lib.hid (HLk.out.fr hf5)
            have F5 := Lib.hid (HF.out.trans0 hf5.none); clear hf5
            go_wp2_with fail
            refine (Cl.out _ Hl5.out).mono ?_
            rintro e w6 ⟨rfl, hf6⟩
            have Hl6 := Lib.hid (Hl5.out.fr hf6)
            have F6 := Lib.hid (F5.out.trans0 hf6.none); clear hf6
            go_wp2_with fail
            refine (Cf1.out _ Hl6.out).mono ?_
            rintro e w7 ⟨rfl, hf7⟩
            have Hl7 := Lib.hid (Hl6.out.fr hf7)
            have F7 := Lib.hid (F6.out.trans0 hf7.none); clear hf7
            go_wp2_with fail
            refine (Cf2.out _ Hl7.out).mono ?_
            rintro e w8 ⟨rfl, hf8⟩
            have F8 := Lib.hid (F7.out.trans0 hf8.none); clear hf8
            go_wp2_with fail
            refine (fair_awake w8).mono ?_
            rintro e w9 ⟨rfl, hf9⟩
            go_wp2_with fail
            go_ret
            exact ⟨rfl, Hend.out _ _ F8.out hf9⟩

theorem fairTurns_walk (n turns skip : Int) (w : World) (w0 : (Lit.int .i64 n).wf = true) (w1 : (Lit.int .i64 turns).wf = true) (w2 : (Lit.int .i64 skip).wf = true) :
    Calls Try.prog 11 #[.int .i64 n, .int .i64 turns, .int .i64 skip] w fun e w' => e = .returned (.bool true) ∧ Below w.heap.size w w' := by
  clear w0 w1 w2
  by_cases hb : n < 1 ∨ 15 < n ∨ turns < 0 ∨ 40 < turns
  · exact fairTurns_bad n turns skip w hb
  · obtain ⟨k, rfl⟩ := Int.eq_ofNat_of_zero_le (show 0 ≤ n by omega)
    obtain ⟨T, rfl⟩ := Int.eq_ofNat_of_zero_le (show 0 ≤ turns by omega)
    exact fairTurns_good k T skip w (by omega) (by omega) (by omega)

/-! The row: out of the walk above. -/
namespace fairTurns
open Go.ChangeShapes Go.WideShapes Go.ChangeAt Go.RowKit
open Go.ChangeMaps (open_string shut_string)
theorem own : ownKnob Try.prog.godebug = none := by kernel_rfl
theorem laidOut : laidOutB Try.prog = true := by kernel_rfl
set_option maxRecDepth 100000 in
theorem lifted (os : Os) (started : os.Started) (H : Type) (enc : TypeId × Value → H) :
    ReturnsInHanded {} Try.checked os 11 .any (Rows.fairTurnsSpec.pre6 enc Try.prog Try.f11 Rows.fairTurnsRow.domain false) (Rows.fairTurnsSpec.post enc Try.prog Try.f11 false true false false) := by
  refine returnsInHanded_of_change (C := Try.checked) own started (by kernel_rfl) Try.func11
    (ChangeSpec.witness6 (enc := enc) (C := Try.checked) false ⟨#[], #[.int .i64 0, .int .i64 0, .int .i64 0], []⟩ 8 (by kernel_rfl) (by kernel_rfl) (by kernel_rfl) (by kernel_rfl)) ?_
  intro W base args ds gs before hval0 hW hcnd _
  have hval : ∀ (j : Nat) t v, Try.f11.params[j]? = some t → args[j]? = some v → Value.okWide Try.prog W .any base t v := hval0
  have hW' := hW
  obtain ⟨p, q, hA0, hV, rfl, hfz, hnd⟩ := hW
  have hA : DataW.TrodAll enc Try.prog W 0 (fun _ => true) true Try.f11.params.toList args.toList ds p := hA0
  rw [Try.params11] at hA hval
  obtain ⟨v0, vs0, d0, ds0, p0, q0, hargs, rfl, rfl, h0, r0⟩ := trodAll_cons hA
  obtain ⟨v1, vs1, d1, ds1, p1, q1, rfl, rfl, rfl, h1, r1⟩ := trodAll_cons r0
  obtain ⟨v2, vs2, d2, ds2, p2, q2, rfl, rfl, rfl, h2, r2⟩ := trodAll_cons r1
  obtain ⟨rfl, rfl, rfl⟩ := trodAll_nil r2
  obtain rfl : args = #[v0, v1, v2] := by cases args; simp_all
  obtain ⟨rfl, rfl⟩ := trodVars_none hV
  obtain ⟨a0, rfl, rfl, rfl, w0⟩ := open_int Try.underlying3 (hval 0 3 v0 rfl rfl) h0
  obtain ⟨a1, rfl, rfl, rfl, w1⟩ := open_int Try.underlying3 (hval 1 3 v1 rfl rfl) h1
  obtain ⟨a2, rfl, rfl, rfl, w2⟩ := open_int Try.underlying3 (hval 2 3 v2 rfl rfl) h2
  clear hA0 hval0
  refine (fairTurns_walk a0 a1 a2 W w0 w1 w2).mono fun e W' ⟨he, bel⟩ => ?_
  subst he
  exact ⟨_, rfl, _, _, _, [], _, [], hW', trodAll_mk1 (shut_bool Try.underlying4 _), (trodAll_cons_mk (shut_int Try.underlying3 w0) (trodAll_cons_mk (shut_int Try.underlying3 w1) (trodAll_cons_mk (shut_int Try.underlying3 w2) trodAll_mk0))), rfl, bel.frame _, fun h => by cases h⟩
theorem over : Rows.fairTurnsRow.holds Try.pinned (OpenSpec.ofChange Rows.fairTurnsSpec) :=
  OpenClaim.holds_of_wide 11 Try.f11 rfl rfl rfl rfl rfl rfl rfl ⟨rfl, rfl, rfl, rfl, rfl⟩ rfl rfl rfl rfl rfl (by kernel_rfl) Try.func11 (by kernel_rfl)
    (of_decide_eq_true (by kernel_rfl)) (by unfold Func.isWrapper; first | (rw [if_pos (by decide +kernel)]; kernel_rfl) | (rw [if_neg (by decide +kernel)]; exact ⟨rfl, rfl⟩))
    (fun os started H enc _ => lifted os started H enc)
end fairTurns
/-- THE STATEMENT. -/
theorem fairTurns_holds : Rows.FairTurnsSaid := fairTurns.over
#print axioms fairTurns_holds
end Go.Proofs.Ytaghnlmfhfbhhaa
