/- Each of the cases that can be done is done by some draw, and by no draw another; draws that are apart by their number do the same, for all that the statement draws. -/
import Derived.Test.YtdemeghhjnehbaaChooseMany
import Derived.Test.YtdemeghhjnehbaaMore
set_option linter.unusedVariables false
set_option linter.unusedSimpArgs false
namespace Go.Proofs.Ytdemeghhjnehbaa
open Go.RowKit
set_option maxRecDepth 100000
theorem upd_upd {α : Type} (f : Nat → α) (n : Nat) (x y : α) : upd (upd f n x) n y = upd f n y := by funext i; unfold upd; split <;> rfl
theorem Mk.addC {w0 w w' : World} {S T U : Nat → Prop} {B : Nat → Nat} {k : Nat} {st : Nat → ChS} {vl vw : Value} {m : Nat} {s : Bool} {v : Nat → Int} {r : List Int} {size : Nat} {e : Ending}
    (h : Mk w0 w S T U B (PN k st) vl k (csN s v k) vw m r) (hn : NewP w (chNew size) e w') : ∃ (b : Nat) (S' : Nat → Prop) (B' : Nat → Nat), e = .returned (.tuple #[.pointer (some ⟨b, 0, none⟩), .int .i64 0]) ∧ B' k = b ∧ Mk w0 w' S' T U B' (upd (PN k st) k (some (chNew size))) vl k (csN s v k) vw m r := by
  obtain ⟨b, X, h1, hf, hc, hX⟩ := hn
  exact ⟨b, _, _, h1, upd_same _ _ _, h.add k hf hc hX fun x hx i hi => by
    obtain ⟨j, hj, rfl⟩ := csN_in hx
    cases hi; omega⟩
theorem sumN_add (f : Nat → Nat) (m : Nat) : ∀ t : Nat, sumN f (m + t) = sumN f m + sumN (fun q => f (q + m)) t
  | 0 => by simp [sumN]
  | t + 1 => by
    rw [show m + (t + 1) = (m + t) + 1 by omega]
    show sumN f (m + t) + f (m + t) = sumN f m + (sumN (fun q => f (q + m)) t + f (t + m))
    rw [sumN_add f m t, Nat.add_comm t m]; omega
theorem sumN_only (q0 : Nat) : ∀ n : Nat, sumN (fun q => if q = q0 then 1 else 0) n = if q0 < n then 1 else 0
  | 0 => by simp [sumN]
  | n + 1 => by
    unfold sumN; rw [sumN_only q0 n]
    split <;> split <;> split <;> omega
theorem sumN_le (f : Nat → Nat) (hf : ∀ q, f q ≤ 1) : ∀ n : Nat, sumN f n ≤ n
  | 0 => Nat.le_refl _
  | n + 1 => by unfold sumN; have := sumN_le f hf n; have := hf n; omega
theorem hits_two (a : Int) (m j : Nat) (hm : 0 < m) (hj : j < m) : sumN (fun q => if ((a + (q : Int)) % (m : Int)).toNat = j then 1 else 0) (2 * m) = 2 := by
  have hm0 : (m : Int) ≠ 0 := by omega
  have h1 := Int.emod_nonneg ((j : Int) - a) hm0
  have h2 := Int.emod_lt_of_pos ((j : Int) - a) (show (0 : Int) < m by omega)
  obtain ⟨q0, hq0⟩ := Int.eq_ofNat_of_zero_le h1
  have hq0m : q0 < m := by omega
  have key : ∀ q : Nat, (((a + (q : Int)) % (m : Int)).toNat = j) = (q % m = q0) := fun q => by
    apply propext
    have e1 := Int.emod_nonneg (a + (q : Int)) hm0
    constructor
    · intro h
      have h3 : (a + (q : Int)) % (m : Int) = j := by omega
      have h4 : ((q % m : Nat) : Int) = q0 := by
        rw [← hq0, ← h3, Int.natCast_emod, Int.emod_sub_emod]
        congr 1; omega
      omega
    · intro h
      have h3 : (q : Int) % (m : Int) = (j - a) % (m : Int) := by rw [hq0, ← h, Int.natCast_emod]
      have h4 : (a + (q : Int)) % (m : Int) = j := by
        rw [Int.add_emod, h3, ← Int.add_emod, show a + ((j : Int) - a) = j by omega]
        exact Int.emod_eq_of_lt (by omega) (by omega)
      omega
  simp only [key]
  rw [show 2 * m = m + m by omega, sumN_add]
  have e1 : sumN (fun q => if q % m = q0 then 1 else 0) m = 1 := by
    rw [sumN_congr (g := fun q => if q = q0 then 1 else 0) m fun i hi => by rw [Nat.mod_eq_of_lt hi], sumN_only, if_pos hq0m]
  have e2 : sumN (fun q => if (q + m) % m = q0 then 1 else 0) m = 1 := by
    rw [sumN_congr (g := fun q => if q % m = q0 then 1 else 0) m fun i hi => by rw [Nat.add_mod_right], e1]
  rw [e1, e2]
theorem rdy_nodup (h : Nat → Bool) (n : Nat) : (rdy h n).Nodup := by
  unfold rdy
  exact List.pairwise_map.2 (((List.nodup_range (n := n)).filter _).imp fun h e => h (by exact_mod_cast e))
theorem rdy_mem {h : Nat → Bool} {n i : Nat} (hi : i < n) (hh : h i = true) : ∃ j, j < (rdy h n).length ∧ (rdy h n)[j]? = some (i : Int) := by
  have : (i : Int) ∈ rdy h n := List.mem_map.2 ⟨i, List.mem_filter.2 ⟨by simpa using hi, hh⟩, rfl⟩
  obtain ⟨j, hj, e⟩ := List.mem_iff_getElem.1 this
  exact ⟨j, hj, by rw [List.getElem?_eq_getElem hj, e]⟩
/-- Which case draw number q does. -/
def drIx (h : Nat → Bool) (n : Nat) (a : Int) (q : Nat) : Nat := ((rdy h n).getD ((a + (q : Int)) % ((rdy h n).length : Int)).toNat 0).toNat
def drN (h : Nat → Bool) (n : Nat) (a : Int) (D i : Nat) : Nat := sumN (fun q => if drIx h n a q = i then 1 else 0) D
def drL (h : Nat → Bool) (n : Nat) (a : Int) (D : Nat) : List Int := (List.range n).map fun i => ((drN h n a D i : Nat) : Int)
theorem drN_le (h : Nat → Bool) (n : Nat) (a : Int) (D i : Nat) : drN h n a D i ≤ D := sumN_le _ (fun q => by split <;> omega) D
theorem drL_get (h : Nat → Bool) (n : Nat) (a : Int) (D i : Nat) (hi : i < n) : (ints (drL h n a D))[i]? = some (.int .i64 ((drN h n a D i : Nat) : Int)) := by simp [drL, hi]
theorem drL_len (h : Nat → Bool) (n : Nat) (a : Int) (D : Nat) : (drL h n a D).length = n := by simp [drL]
theorem drL_set (h : Nat → Bool) (n : Nat) (a : Int) (D k : Nat) (hk : drIx h n a D = k) (hkn : k < n) : (ints (drL h n a D)).set k (.int .i64 (((drN h n a D k : Nat) : Int) + 1)) = ints (drL h n a (D + 1)) := by
  apply List.ext_getElem?
  intro i
  rw [List.getElem?_set]
  by_cases hi : i < n
  · rw [drL_get h n a (D + 1) i hi]
    by_cases e : k = i
    · subst e
      rw [if_pos rfl, if_pos (by simp [drL, hi])]
      unfold drN
      show some (Value.int .i64 (_ + 1)) = some (Value.int .i64 ((sumN _ D + _ : Nat) : Int))
      simp only [hk, if_true]
      push_cast; rfl
    · rw [if_neg e, drL_get h n a D i hi]
      unfold drN
      show _ = some (Value.int .i64 ((sumN _ D + _ : Nat) : Int))
      have e2 : ¬ drIx h n a D = i := by rw [hk]; exact e
      simp only [if_neg e2, Nat.add_zero]
  · by_cases e : k = i
    · omega
    · rw [if_neg e, List.getElem?_eq_none (by simp [drL]; omega), List.getElem?_eq_none (by simp [drL]; omega)]
theorem drIx_at (h : Nat → Bool) (n : Nat) (a : Int) (q j k : Nat) (hj : (a + (q : Int)) % ((rdy h n).length : Int) = j) (hk : (rdy h n)[j]? = some (k : Int)) : drIx h n a q = k := by
  unfold drIx
  rw [hj]
  simp [List.getD, hk]
theorem drN_end (h : Nat → Bool) (n : Nat) (a : Int) (m i : Nat) (hm : (rdy h n).length = m) (hi : i < n) : drN h n a (2 * m) i = if h i then 2 else 0 := by
  have hix : ∀ q : Nat, 0 < m → ∃ k, drIx h n a q = k ∧ h k = true ∧ (rdy h n)[((a + (q : Int)) % (m : Int)).toNat]? = some (k : Int) := fun q hm0 => by
    have e1 := Int.emod_nonneg (a + (q : Int)) (show (m : Int) ≠ 0 by omega)
    have e2 := Int.emod_lt_of_pos (a + (q : Int)) (show (0 : Int) < m by omega)
    obtain ⟨j, hj⟩ := Int.eq_ofNat_of_zero_le e1
    have hjm : j < (rdy h n).length := by omega
    have hg := List.getElem?_eq_getElem hjm
    obtain ⟨k, hk, _, hhk⟩ := rdy_get hg
    rw [hk] at hg
    exact ⟨k, drIx_at h n a q j k (by rw [hm]; exact hj) hg, hhk, by rw [hj]; exact hg⟩
  by_cases hm0 : m = 0
  · have hno := rdy_nil (List.eq_nil_of_length_eq_zero (hm.trans hm0)) i hi
    rw [hno, hm0]; rfl
  · cases hh : h i with
    | false =>
      unfold drN
      rw [sumN_congr (g := fun _ => 0) _ fun q _ => ?_, sumN_const]; simp
      obtain ⟨k, hk, hhk, _⟩ := hix q (by omega)
      rw [hk]
      exact if_neg (by rintro rfl; rw [hh] at hhk; cases hhk)
    | true =>
      obtain ⟨j, hj, hgj⟩ := rdy_mem hi hh
      unfold drN
      rw [sumN_congr (g := fun q => if ((a + (q : Int)) % (m : Int)).toNat = j then 1 else 0) _ fun q _ => ?_, hits_two a m j (by omega) (by omega)]; rfl
      obtain ⟨k, hk, _, hgk⟩ := hix q (by omega)
      rw [hk]
      have : (k = i) = (((a + (q : Int)) % (m : Int)).toNat = j) := by
        apply propext
        constructor
        · rintro rfl
          have e1 := (List.getElem?_eq_some_iff.1 hgk)
          have e2 := (List.getElem?_eq_some_iff.1 hgj)
          obtain ⟨l1, v1⟩ := e1
          obtain ⟨l2, v2⟩ := e2
          exact (List.getElem_inj (rdy_nodup h n)).1 (v1.trans v2.symm)
        · intro e
          rw [e, hgj] at hgk
          injection hgk with hgk
          exact_mod_cast hgk.symm
      simp only [this]
abbrev drS (h : Nat → Bool) : Nat → ChS := fun i => ⟨1, if h i then [] else [1], [], [], false, false, false⟩
abbrev dr5 : Nat → Int := fun _ => 5
theorem dr_can (h : Nat → Bool) (i : Nat) : (drS h i).canR true = h i := by
  cases e : h i <;> simp [ChS.canR, ChS.mute, ChS.free, ChS.queue, drS, e]
theorem Mk.fresh {w0 w : World} {S T U : Nat → Prop} {B : Nat → Nat} {P : Nat → Option ChS} {vl vw : Value} {n m : Nat} {l : List Cs} {r : List Int} (h : Mk w0 w S T U B P vl n l vw m r) (st : Nat → ChS) : Mk w0 w Nob Nob U (fun _ => 0) (PN 0 st) (.slice none 0 0) 0 (csN true dr5 0) vw m r :=
  ⟨h.fr, fun _ q => q.elim, fun _ q => q.elim, h.u, fun _ q _ => q, fun _ q _ => q.elim, fun _ q _ => q.elim, by rw [← PN_0]; exact Pool.start _ _ _, Sl.nil _ _ _ _, h.sw⟩
theorem Mk.setW {w0 w w' : World} {S T U : Nat → Prop} {B : Nat → Nat} {P : Nat → Option ChS} {vl vw vw' : Value} {n m m' : Nat} {l : List Cs} {r r' : List Int} (h : Mk w0 w S T U B P vl n l vw m r) (hf : Fr U w w') (hs : Sl w' U 3 1 vw' m' (ints r')) : Mk w0 w' S T U B P vl n l vw' m' r' :=
  ⟨h.fr.trans hf fun k hk q => by have := (h.u k q).1; omega, grow h.s hf.size, grow h.t hf.size, grow h.u hf.size, h.st, h.su, h.tu, h.pool.fr hf h.su, h.sl.fr hf h.tu, hs⟩
theorem dr_do (w0 W : World) (S T U : Nat → Prop) (B : Nat → Nat) (v vw : Value) (n m q : Nat) (r : List Int) (h : Nat → Bool) (hn : n ≤ 16) (dr : Int) (j k : Nat) (hlen : (rdy h n).length = m) (hm0 : 0 < m) (hj : dr % (m : Int) = (j : Int)) (hjm : j < m) (hk : (rdy h n)[j]? = some (k : Int)) (hkn : k < n) (hhk : h k = true) (hm : Mk w0 W S T U B (PN n (drS h)) v n (csN true dr5 n) vw q r) :
    Calls Try.prog 11 #[v, .bool true, .int .i64 dr, .int .i64 2] W fun e w' => ∃ (A : Option Addr) (cp : Nat), e = .returned (.tuple #[resV k 0 true false false false, .slice A 0 cp, .int .i64 0]) ∧ Mk w0 w' Nob Nob U (fun _ => 0) (PN 0 (drS h)) (.slice none 0 0) 0 (csN true dr5 0) vw q r := by
  refine (do_ready hm.pool (fun k q => (hm.s k q).2) v _ n (csN_len _ _ _) hm.sl.rd (csN_ok _ _ _ _) (csN_mute fun i _ => rfl) h (fun k x hx => by rw [csN_can k x hx, dr_can]) hn true dr 2 (by omega) m j k k (some k, true, 5) (c := drS h k) (c' := ⟨1, [5], [], [], false, false, false⟩) hlen hm0 hj hjm hk hkn (csN_get _ _ _ _ hkn) rfl (PN_at hkn) 0 true false [] 0 ?_ ?_ rfl).mono ?_
  · simp [oneR, ChS.sendR, ChS.mute, drS, hhk]
  · simp [oneS, ChS.sendS, ChS.mute, drS, hhk]
  · rintro e w' ⟨A, cp, he, hf, hp, _⟩
    exact ⟨A, cp, he, (hm.turn hf hp).fresh (drS h)⟩
set_option maxHeartbeats 8000000 in
theorem draws_main (w : World) (v : Value) (l : List Bool) (n : Nat) (hn : l.length = n) (h1 : 1 ≤ n) (h16 : n ≤ 16) (hrd : Rd w 1 v n (bools l)) (a : Int) (ha1 : -1099511627776 ≤ a) (ha2 : a ≤ 1099511627776) :
    Calls Try.prog 5 #[v, .int .i64 a] w fun e w' => e = .returned (.bool true) ∧ Fr Nob w w' := by
  obtain ⟨A0, c0, rfl, hc1, hc2, hA0⟩ := bools_in hn hrd
  have Haw := Lib.hid (fun W => awake10 W)
  have Hnew := Lib.hid (fun W => chan_new W 1 (by omega))
  have HA0 := Lib.hid hA0
  have d1 : decide ((n : Int) < 1) = false := decide_eq_false (by omega)
  have d2 : decide ((16 : Int) < n) = false := decide_eq_false (by omega)
  have d3 : decide (a < -1099511627776) = false := decide_eq_false (by omega)
  have d4 : decide ((1099511627776 : Int) < a) = false := decide_eq_false (by omega)
  have d1' : ¬ (n : Int) < 1 := by omega
  have d2' : ¬ (16 : Int) < n := by omega
  have d3' : ¬ a < -1099511627776 := by omega
  have d4' : ¬ (1099511627776 : Int) < a := by omega
  have hmk : ∀ W : World, (Instr.makeSlice 42 (.int .i64 (n : Int)) (.int .i64 (n : Int))).run Try.prog W = .ok (.slice (some ⟨W.heap.size, 0, none⟩) n n) (W.alloc (.cells (madeCells #[.int .i64 0] n) 3)) :=
    fun W => run_make_row' (P := Try.prog) 42 3 (.int .i64 0) 8 Try.underlying42 Try.info_int' rfl .i64 .i64 n (by omega) (by omega) W
  have Hmk := Lib.hid hmk
  generalize hh : (fun k => l.getD k false) = h at *
  have hg : ∀ k, l.getD k false = h k := fun k => by rw [← hh]
  simp only [hg] at HA0
  clear hA0 hrd hn hh hg hmk
  unfold maxLen at hc2
  go_enter Try.func5, Try.ntmps5
  go_wp2_with fail
  go_loopw [5, 6] (fun c i wr => ∃ k m : Nat, i = .int .i64 k ∧ k ≤ n ∧ m ≤ k ∧ c = .int .i64 m ∧ Hid ((rdy h k).length = m) ∧ wr = w) (fun _ i _ => n - (intOf i).toNat)
  case atStart => exact ⟨0, 0, rfl, Nat.zero_le _, Nat.zero_le _, rfl, rfl, rfl⟩
  case round =>
    obtain ⟨k, m, rfl, hk, hmk, rfl, Hlen, rfl⟩ := hrel
    by_cases hlt : k < n
    · have hki : (k : Int) < n := by omega
      obtain ⟨g, o, rfl, e0⟩ := HA0.out k hlt
      cases hhk : h k with
      | true =>
        rw [hhk] at e0
        have Hl2 : Hid ((rdy h (k + 1)).length = m + 1) := Lib.hid (by rw [rdy_yes hhk, List.length_append, Hlen.out]; rfl)
        clear hhk
        go_wp2_with fail
        go_roundw
        case rel => exact ⟨k + 1, m + 1, by go_num, by omega, by omega, by go_num, Hl2, by first | rfl | trivial⟩
        case measure => simp [intOf]; omega
      | false =>
        rw [hhk] at e0
        have Hl2 : Hid ((rdy h (k + 1)).length = m) := Lib.hid (by rw [rdy_no hhk]; exact Hlen.out)
        clear hhk
        go_wp2_with fail
        go_roundw
        case rel => exact ⟨k + 1, m, by go_num, by omega, by omega, rfl, Hl2, by first | rfl | trivial⟩
        case measure => simp [intOf]; omega
    · obtain rfl : k = n := by omega
      have hmk2 := Hmk.out
      go_wp2_with fail
      clear hmk2
      obtain ⟨wb, rfl⟩ : ∃ wb : World, wb = wr := ⟨_, rfl⟩
      obtain ⟨w2, hw2⟩ : ∃ w2, w2 = wb.alloc (.cells (madeCells #[.int .i64 0] k) 3) := ⟨_, rfl⟩
      rw [← hw2]
      obtain ⟨sb, hsb⟩ : ∃ sb, sb = wb.heap.size := ⟨_, rfl⟩
      have Hm2 : Hid (Mk wb w2 Nob Nob (fun q => q = sb) (fun _ => 0) (PN 0 (drS h)) (.slice none 0 0) 0 (csN true dr5 0) (.slice (some ⟨sb, 0, none⟩) k k) k (drL h k a 0)) := Lib.hid (by
        have hs := Sl.made wb 3 (.int .i64 0) k (fun q => q = sb) hsb.symm (by unfold maxLen; omega)
        rw [← hw2, ← hsb] at hs
        have h0 := (Mk.start wb (fun _ => 0)).fresh (drS h)
        have hf : Fr Nob wb w2 := by rw [hw2]; exact (Fr.refl Nob wb).alloc _
        refine ⟨hf, fun _ a => absurd a id, fun _ a => absurd a id, fun q e => by rw [hw2, e, hsb]; simp, fun _ a _ => a, fun _ a _ => a, fun _ a _ => a, h0.pool.fr0 hf, Sl.nil _ _ _ _, ?_⟩
        have e : List.replicate k (Value.int .i64 0) = ints (drL h k a 0) := by
          apply List.ext_getElem?
          intro i
          by_cases hi : i < k
          · rw [drL_get h k a 0 i hi]; simp [hi, drN, sumN]
          · rw [List.getElem?_eq_none (by simp; omega), List.getElem?_eq_none (by simp [drL]; omega)]
        rw [← e]; exact hs)
      rw [← hsb]
      have h2m : IntKind.i64.wrap ((2 : Int) * m) = 2 * (m : Int) := IntWalk.i64_in _ (by omega)
      clear hw2 hsb
      go_loopw [8] (fun i wz => ∃ D : Nat, i = .int .i64 D ∧ D ≤ 2 * m ∧ Hid (Mk wb wz Nob Nob (fun q => q = sb) (fun _ => 0) (PN 0 (drS h)) (.slice none 0 0) 0 (csN true dr5 0) (.slice (some ⟨sb, 0, none⟩) k k) k (drL h k a D))) (fun i _ => 2 * m - (intOf i).toNat)
      case atStart => exact ⟨0, rfl, Nat.zero_le _, Hm2⟩
      case round =>
        obtain ⟨wz, rfl⟩ : ∃ wz : World, wz = wr := ⟨_, rfl⟩
        obtain ⟨D, rfl, hD, HmD⟩ := hrel
        clear Hm2
        by_cases hltD : D < 2 * m
        · have hDi : (D : Int) < 2 * (m : Int) := by omega
          go_wp2_with fail
          go_loopw [9, 10] (fun v9 i wy => ∃ (q : Nat) (A : Option Addr) (c : Nat) (S T : Nat → Prop) (B : Nat → Nat), i = .int .i64 q ∧ q ≤ k ∧ v9 = .slice A q c ∧ Hid (Mk wb wy S T (fun q => q = sb) B (PN q (drS h)) (.slice A q c) q (csN true dr5 q) (.slice (some ⟨sb, 0, none⟩) k k) k (drL h k a D))) (fun _ i _ => k - (intOf i).toNat)
          case atStart => exact ⟨0, none, 0, Nob, Nob, fun _ => 0, rfl, Nat.zero_le _, rfl, HmD⟩
          case round =>
            obtain ⟨wy, rfl⟩ : ∃ wy : World, wy = wr := ⟨_, rfl⟩
            obtain ⟨q, A, c, S, T, B, rfl, hq, rfl, Hm⟩ := hrel
            clear HmD
            by_cases hltq : q < k
            · have hqi : (q : Int) < k := by omega
              obtain ⟨g, o, rfl, e0⟩ := HA0.out q hltq
              go_wp2_with fail
              refine (Hnew.out _).mono ?_
              intro e w3 hnew
              obtain ⟨b, S3, B3', rfl, hb3, hm3⟩ := Hm.out.addC hnew
              have f0 := hm3.fr.cell id e0
              have Hm3 := Lib.hid hm3; have Hb3 := Lib.hid hb3
              clear hnew hm3 hb3 Hm e0
              cases hhq : h q with
              | false =>
                rw [hhq] at f0
                have hsd := pool_send Hm3.out.pool q (c := chNew 1) (c' := drS h q) (upd_same _ _ _) 1 true [] 0 0 rfl (by simp [ChS.sendS, ChS.mute, hhq]) rfl
                rw [Hb3.out, upd_upd, PN_add] at hsd
                have Hsd := Lib.hid hsd
                clear hsd hhq
                go_wp2_with fail
                refine Hsd.out.mono ?_
                rintro e w4 ⟨A4, cp4, rfl, hf4, hp4, _⟩
                have Hm4 := Lib.hid (Hm3.out.turn hf4 hp4)
                clear hf4 hp4 Hsd f0 Hm3
                go_wp2_with (at_builtin; (refine wpList_append1 _ rfl _ _ _ rfl T 29 _ 3 24 Try.underlying23 info_case rfl (by omega) (.slice A q c) q (css B3' (csN true dr5 q)) [.pointer (some ⟨b, 0, none⟩), .bool true, .int .i64 5] rfl Hm4.out.sl rfl rfl rfl (by omega) (by omega) ?_; intro v5 w5 hs5 hf5 hz5))
                obtain ⟨A5, c5, rfl⟩ := hs5.slice
                have Hm5 : Hid (Mk wb w5 S3 (And' T w4 w5) (fun q => q = sb) B3' (PN (q + 1) (drS h)) (.slice A5 (q + 1) c5) (q + 1) (csN true dr5 (q + 1)) (.slice (some ⟨sb, 0, none⟩) k k) k (drL h k a D)) := Lib.hid (by
                  rw [csN_succ]
                  refine Hm4.out.appL (x := (some q, true, 5)) hf5 ?_
                  rw [show csEn B3' (some q, true, 5) = [.pointer (some ⟨b, 0, none⟩), .bool true, .int .i64 5] by simp only [csEn, pa, Hb3.out]]
                  exact hs5)
                clear hs5 hf5 hz5 Hm4
                go_wp2_with fail
                go_roundw
                case rel => exact ⟨q + 1, A5, c5, _, _, _, by go_num, by omega, rfl, Hm5⟩
                case measure => simp [intOf]; omega
              | true =>
                rw [hhq] at f0
                have Hm4 : Hid (Mk wb w3 S3 T (fun q => q = sb) B3' (PN (q + 1) (drS h)) (.slice A q c) q (csN true dr5 q) (.slice (some ⟨sb, 0, none⟩) k k) k (drL h k a D)) := Lib.hid (by
                  have := Hm3.out
                  rw [show chNew 1 = drS h q by simp [hhq], PN_add] at this
                  exact this)
                obtain ⟨w4, rfl⟩ : ∃ w4 : World, w4 = w3 := ⟨_, rfl⟩
                clear hhq Hm3
                go_wp2_with (at_builtin; (refine wpList_append1 _ rfl _ _ _ rfl T 29 _ 3 24 Try.underlying23 info_case rfl (by omega) (.slice A q c) q (css B3' (csN true dr5 q)) [.pointer (some ⟨b, 0, none⟩), .bool true, .int .i64 5] rfl Hm4.out.sl rfl rfl rfl (by omega) (by omega) ?_; intro v5 w5 hs5 hf5 hz5))
                obtain ⟨A5, c5, rfl⟩ := hs5.slice
                have Hm5 : Hid (Mk wb w5 S3 (And' T w4 w5) (fun q => q = sb) B3' (PN (q + 1) (drS h)) (.slice A5 (q + 1) c5) (q + 1) (csN true dr5 (q + 1)) (.slice (some ⟨sb, 0, none⟩) k k) k (drL h k a D)) := Lib.hid (by
                  rw [csN_succ]
                  refine Hm4.out.appL (x := (some q, true, 5)) hf5 ?_
                  rw [show csEn B3' (some q, true, 5) = [.pointer (some ⟨b, 0, none⟩), .bool true, .int .i64 5] by simp only [csEn, pa, Hb3.out]]
                  exact hs5)
                clear hs5 hf5 hz5 Hm4
                go_wp2_with fail
                go_roundw
                case rel => exact ⟨q + 1, A5, c5, _, _, _, by go_num, by omega, rfl, Hm5⟩
                case measure => simp [intOf]; omega
            · obtain rfl : q = k := by omega
              have hm0 : 0 < m := by omega
              have hlo := Int.emod_nonneg (a + (D : Int)) (show (m : Int) ≠ 0 by omega)
              have hhi := Int.emod_lt_of_pos (a + (D : Int)) (show (0 : Int) < m by omega)
              obtain ⟨j, hj⟩ := Int.eq_ofNat_of_zero_le hlo
              have hjm : j < m := by omega
              obtain ⟨kk, hkk, hkn, hhk⟩ := rdy_get (f := h) (k := q) (j := j) (List.getElem?_eq_getElem (by rw [Hlen.out]; exact hjm))
              have hkj : (rdy h q)[j]? = some (kk : Int) := by rw [List.getElem?_eq_getElem (by rw [Hlen.out]; exact hjm), hkk]
              have hix := drIx_at h q a D j kk (by rw [Hlen.out]; exact hj) hkj
              have hdo := dr_do wb wy S T _ B _ _ q m q _ h h16 (a + (D : Int)) j kk Hlen.out hm0 hj hjm hkj hkn hhk Hm.out
              have Hdo := Lib.hid hdo; have Hix := Lib.hid hix
              have hwr : IntKind.i64.wrap (a + (D : Int)) = a + (D : Int) := IntWalk.i64_in _ (by omega)
              obtain ⟨g, o, rfl, e0⟩ := HA0.out kk hkn
              rw [hhk] at e0
              have He0 := Lib.hid e0
              have hk0 : decide ((kk : Int) < 0) = false := decide_eq_false (by omega)
              have hkl : decide ((q : Int) ≤ kk) = false := decide_eq_false (by omega)
              have hki : (kk : Int) < q := by omega
              clear hdo hkj hhk hkk hj hlo hhi Hm hix e0
              go_wp2_with fail
              refine Hdo.out.mono ?_
              rintro e w5 ⟨A5, cp5, rfl, hm5⟩
              have f0 := ((Fr.refl Nob w5).alloc (resO (kk : Int) 0 true false false false)).cell id (hm5.fr.cell id He0.out)
              have hs6 := hm5.sw.alloc (resO (kk : Int) 0 true false false false)
              obtain ⟨gs, os, cs, hv, hgs, _, hcs1, _, hcell, hfz⟩ := hs6.form (by omega)
              cases hv
              have u0 := hcell kk _ (drL_get h q a D kk hkn)
              have uf := hfz (0 + kk)
              rw [Nat.zero_add] at u0 uf
              have hle := drN_le h q a D kk
              have hw1 : IntKind.i64.wrap (((drN h q a D kk : Nat) : Int) + 1) = ((drN h q a D kk : Nat) : Int) + 1 := IntWalk.i64_in _ (by omega)
              have Hm5 := Lib.hid hm5
              have hgne : sb ≠ w5.heap.size := fun e => by have := (hm5.u sb rfl).2; omega
              have Hset := Lib.hid (drL_set h q a D kk Hix.out hkn)
              generalize drN h q a D kk = cnt at *
              clear hm5 hs6 hcell hfz Hdo hle Hix
              go_wp2_with fail
              have Hm6 : Hid (Mk wb ((w5.alloc (resO (kk : Int) 0 true false false false)).setCell ⟨sb, kk, none⟩ (.int .i64 ((cnt : Int) + 1))) Nob Nob (fun z => z = sb) (fun _ => 0) (PN 0 (drS h)) (.slice none 0 0) 0 (csN true dr5 0) (.slice (some ⟨sb, 0, none⟩) q q) q (drL h q a (D + 1))) := Lib.hid (by
                have h5 := Hm5.out.fr0 ((Fr.refl Nob w5).alloc (resO (kk : Int) 0 true false false false))
                refine h5.setW ((Fr.refl (fun z => z = sb) _).setB _ _) ?_
                have := h5.sw.set kk (by omega) (.int .i64 ((cnt : Int) + 1))
                rw [Nat.zero_add, Hset.out] at this
                exact this)
              clear f0 u0 uf
              refine ⟨⟨D + 1, by go_num, by omega, Hm6⟩, ?_⟩
              simp [intOf]; omega
        · obtain rfl : D = 2 * m := by omega
          have hend : ∀ i, i < k → drN h k a (2 * m) i = if h i then 2 else 0 := fun i hi => drN_end h k a m i Hlen.out hi
          have Hend := Lib.hid hend
          have hDe : (((2 * m : Nat) : Int)) = 2 * (m : Int) := by push_cast; rfl
          have hlt2 : decide ((((2 * m : Nat) : Int)) < 2 * (m : Int)) = false := decide_eq_false (by omega)
          have hlt3 : ¬ (((2 * m : Nat) : Int)) < 2 * (m : Int) := by omega
          obtain ⟨gz, hgz⟩ : ∃ gz : Int, gz = (((2 * m : Nat) : Int)) := ⟨_, rfl⟩
          clear hend hDe hgz
          go_wp2_with fail
          go_loopw [16] (fun i wv => ∃ q : Nat, i = .int .i64 q ∧ q ≤ k ∧ Hid (Fr Nob wz wv)) (fun i _ => k - (intOf i).toNat)
          case atStart => exact ⟨0, rfl, Nat.zero_le _, Lib.hid (Fr.refl _ _)⟩
          case round =>
            obtain ⟨wv, rfl⟩ : ∃ wv : World, wv = wr := ⟨_, rfl⟩
            obtain ⟨q, rfl, hq, Hf⟩ := hrel
            have Hmv := Lib.hid (HmD.out.fr0 Hf.out)
            by_cases hltq : q < k
            · obtain ⟨g, o, rfl, e0⟩ := HA0.out q hltq
              have f0 := Hmv.out.fr.cell id e0
              obtain ⟨gs, os, cs, hv, hgs, _, hcs1, _, hcell, hfz⟩ := Hmv.out.sw.form (by omega)
              cases hv
              have u0 := hcell q _ (drL_get h k a (2 * m) q hltq)
              rw [Nat.zero_add, Hend.out q hltq] at u0
              have hqi : (q : Int) < k := by omega
              clear e0 hcell hfz
              cases hhq : h q <;> (
                rw [hhq] at u0 f0
                simp only [if_true, if_false, Bool.false_eq_true] at u0
                clear hhq
                go_wp2_with fail
                go_quiet (fail)
                have Hf6 : Hid (Fr Nob wz (wv.drewN nq)) := Lib.hid (Hf.out.trans0 ((Fr.refl _ _).drewN nq))
                go_wp2_with fail
                go_roundw
                case rel => exact ⟨q + 1, by go_num, by omega, Hf6⟩
                case measure => simp [intOf]; omega)
            · obtain rfl : q = k := by omega
              have F := Lib.hid Hmv.out.fr
              clear Hmv Hf HmD
              go_wp2_with fail
              refine (Haw.out _).mono ?_
              rintro e w10 ⟨rfl, hf10⟩
              have F10 := Lib.hid (F.out.trans0 hf10)
              clear hf10
              go_wp2_with fail
              go_ret
              exact ⟨rfl, F10.out⟩

theorem draws_bad (w : World) (v : Value) (l : List Bool) (n : Nat) (hn : l.length = n) (a : Int) (hb : n < 1 ∨ 16 < n ∨ a < -1099511627776 ∨ 1099511627776 < a) (hrd : Rd w 1 v n (bools l)) :
    Calls Try.prog 5 #[v, .int .i64 a] w fun e w' => e = .returned (.bool true) ∧ Fr Nob w w' := by
  obtain ⟨A0, c0, rfl, hc1, hc2, _⟩ := bools_in hn hrd
  have Haw := Lib.hid (fun W => awake10 W)
  unfold maxLen at hc2
  clear hrd hn
  by_cases h1 : n < 1
  · have d1 : decide ((n : Int) < 1) = true := decide_eq_true (by omega)
    have d1' : (n : Int) < 1 := by omega
    clear hb h1
    go_enter Try.func5, Try.ntmps5
    go_wp2_with fail
    refine (Haw.out _).mono ?_
    rintro e w2 ⟨rfl, hf2⟩
    have F2 := Lib.hid (hf2)
    clear hf2
    go_wp2_with fail
    go_ret
    exact ⟨rfl, F2.out⟩
  · have d1 : decide ((n : Int) < 1) = false := decide_eq_false (by omega)
    have d1' : ¬ (n : Int) < 1 := by omega
    by_cases h2 : 16 < n
    · have d2 : decide ((16 : Int) < n) = true := decide_eq_true (by omega)
      have d2' : (16 : Int) < n := by omega
      clear hb h1 h2
      go_enter Try.func5, Try.ntmps5
      go_wp2_with fail
      refine (Haw.out _).mono ?_
      rintro e w2 ⟨rfl, hf2⟩
      have F2 := Lib.hid (hf2)
      clear hf2
      go_wp2_with fail
      go_ret
      exact ⟨rfl, F2.out⟩
    · have d2 : decide ((16 : Int) < n) = false := decide_eq_false (by omega)
      have d2' : ¬ (16 : Int) < n := by omega
      by_cases h3 : a < -1099511627776
      · have d3 : decide (a < -1099511627776) = true := decide_eq_true h3
        clear hb h1 h2
        go_enter Try.func5, Try.ntmps5
        go_wp2_with fail
        refine (Haw.out _).mono ?_
        rintro e w2 ⟨rfl, hf2⟩
        have F2 := Lib.hid (hf2)
        clear hf2
        go_wp2_with fail
        go_ret
        exact ⟨rfl, F2.out⟩
      · have d3 : decide (a < -1099511627776) = false := decide_eq_false h3
        have d4 : decide ((1099511627776 : Int) < a) = true := decide_eq_true (by omega)
        have d4' : (1099511627776 : Int) < a := by omega
        clear hb h1 h2
        go_enter Try.func5, Try.ntmps5
        go_wp2_with fail
        refine (Haw.out _).mono ?_
        rintro e w2 ⟨rfl, hf2⟩
        have F2 := Lib.hid (hf2)
        clear hf2
        go_wp2_with fail
        go_ret
        exact ⟨rfl, F2.out⟩

theorem chooseDraws_walk (v : Value) (l : List Bool) (a : Int) (w : World) (h0 : IsBools w v l) (w1 : (Lit.int .i64 a).wf = true) :
    Calls Try.prog 5 #[v, .int .i64 a] w fun e w' => e = .returned (.bool true) ∧ Below w.heap.size w w' := by
  have key : Calls Try.prog 5 #[v, .int .i64 a] w fun e w' => e = .returned (.bool true) ∧ Fr Nob w w' := by
    by_cases h : l.length < 1 ∨ 16 < l.length ∨ a < -1099511627776 ∨ 1099511627776 < a
    · exact draws_bad w v l _ rfl a h h0
    · exact draws_main w v l _ rfl (by omega) (by omega) h0 a (by omega) (by omega)
  exact key.mono fun e w' ⟨h1, h2⟩ => ⟨h1, h2.below (Nat.le_refl _) fun _ q => q.elim⟩

/-! The row: out of the walk above. -/
namespace chooseDraws
open Go.ChangeShapes Go.WideShapes Go.ChangeAt Go.RowKit
open Go.ChangeMaps (open_string shut_string)
theorem own : ownKnob Try.prog.godebug = none := by kernel_rfl
theorem laidOut : laidOutB Try.prog = true := by kernel_rfl
set_option maxRecDepth 100000 in
theorem lifted (os : Os) (started : os.Started) (H : Type) (enc : TypeId × Value → H) :
    ReturnsInHanded {} Try.checked os 5 .any (Rows.chooseDrawsSpec.pre6 enc Try.prog Try.f5 Rows.chooseDrawsRow.domain false) (Rows.chooseDrawsSpec.post enc Try.prog Try.f5 false true false false) := by
  refine returnsInHanded_of_change (C := Try.checked) own started (by kernel_rfl) Try.func5
    (ChangeSpec.witness6 (enc := enc) (C := Try.checked) false ⟨#[], #[.slice none 0 0, .int .i64 0], []⟩ 8 (by kernel_rfl) (by kernel_rfl) (by kernel_rfl) (by kernel_rfl)) ?_
  intro W base args ds gs before hval0 hW hcnd _
  have hval : ∀ (j : Nat) t v, Try.f5.params[j]? = some t → args[j]? = some v → Value.okWide Try.prog W .any base t v := hval0
  have hW' := hW
  obtain ⟨p, q, hA0, hV, rfl, hfz, hnd⟩ := hW
  have hA : DataW.TrodAll enc Try.prog W 0 (fun _ => true) true Try.f5.params.toList args.toList ds p := hA0
  rw [Try.params5] at hA hval
  obtain ⟨v0, vs0, d0, ds0, p0, q0, hargs, rfl, rfl, h0, r0⟩ := trodAll_cons hA
  obtain ⟨v1, vs1, d1, ds1, p1, q1, rfl, rfl, rfl, h1, r1⟩ := trodAll_cons r0
  obtain ⟨rfl, rfl, rfl⟩ := trodAll_nil r1
  obtain rfl : args = #[v0, v1] := by cases args; simp_all
  obtain ⟨rfl, rfl⟩ := trodVars_none hV
  have k0 := h0
  have lt0 : ∀ x ∈ p0, x.block < W.heap.size := by obtain ⟨m, hm⟩ := k0; exact DataW.trod_lt m _ _ _ hm
  obtain ⟨x0, g0⟩ := opn_bools (hval 0 45 v0 rfl rfl) h0
  obtain ⟨a1, rfl, rfl, rfl, w1⟩ := open_int Try.underlying3 (hval 1 3 v1 rfl rfl) h1
  clear hA0 hval0
  refine (chooseDraws_walk v0 x0 a1 W g0 w1).mono fun e W' ⟨he, bel⟩ => ?_
  subst he
  exact ⟨_, rfl, _, _, _, [], _, [], hW', trodAll_mk1 (shut_bool Try.underlying4 _), (trodAll_cons_mk (Below.trod laidOut (by kernel_rfl) (of_decide_eq_true (by kernel_rfl)) k0 bel lt0) (trodAll_cons_mk (shut_int Try.underlying3 w1) trodAll_mk0)), rfl, bel.frame _, fun h => by cases h⟩
theorem over : Rows.chooseDrawsRow.holds Try.pinned (OpenSpec.ofChange Rows.chooseDrawsSpec) :=
  OpenClaim.holds_of_wide 5 Try.f5 rfl rfl rfl rfl rfl rfl rfl ⟨rfl, rfl, rfl, rfl, rfl⟩ rfl rfl rfl rfl rfl (by kernel_rfl) Try.func5 (by kernel_rfl)
    (of_decide_eq_true (by kernel_rfl)) (by unfold Func.isWrapper; first | (rw [if_pos (by decide +kernel)]; kernel_rfl) | (rw [if_neg (by decide +kernel)]; exact ⟨rfl, rfl⟩))
    (fun os started H enc _ => lifted os started H enc)
end chooseDraws
/-- THE STATEMENT. -/
theorem chooseDraws_holds : Rows.ChooseDrawsSaid := chooseDraws.over
#print axioms chooseDraws_holds
end Go.Proofs.Ytdemeghhjnehbaa
