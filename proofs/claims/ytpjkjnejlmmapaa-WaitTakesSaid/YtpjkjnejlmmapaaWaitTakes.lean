/- WaitTakes answers true whatever its numbers are: no condition. -/
import Derived.Test.YtpjkjnejlmmapaaOpen
import Derived.Test.YtpjkjnejlmmapaaAlike
import Derived.Test.YtpjkjnejlmmapaaWaitAwake
import Derived.IntWalk
set_option linter.unusedVariables false
set_option linter.unusedSimpArgs false
namespace Go.Proofs.Ytpjkjnejlmmapaa
open Go.RowKit
set_option maxRecDepth 100000

def tkRow (m : Nat) (i : Nat) : List Wt := (List.range i).map fun j => (((j * 7 % 4 : Nat) : Int), ((j * 3 % m : Nat) : Int), (j : Int))
theorem tkRow_len (m i : Nat) : (tkRow m i).length = i := by simp [tkRow]
theorem tkRow_snoc (m i : Nat) : tkRow m i ++ [(((i * 7 % 4 : Nat) : Int), ((i * 3 % m : Nat) : Int), (i : Int))] = tkRow m (i + 1) := by simp [tkRow, List.range_succ]
theorem tkRow_get (m n j : Nat) (h : j < n) : (tkRow m n)[j]? = some (((j * 7 % 4 : Nat) : Int), ((j * 3 % m : Nat) : Int), (j : Int)) := by simp [tkRow, h]
def cntT (ws : List Wt) (t : Int) : Nat := ws.length - (notT ws t).length
theorem notT_snoc (ws : List Wt) (x : Wt) (t : Int) : notT (ws ++ [x]) t = if (x.1 == t) = true then notT ws t else notT ws t ++ [x] := by
  unfold notT; rw [List.filter_append]
  split
  · next h => simp [h]
  · next h => simp [h]
theorem cntT_snoc (ws : List Wt) (x : Wt) (t : Int) : cntT (ws ++ [x]) t = cntT ws t + if (x.1 == t) = true then 1 else 0 := by
  unfold cntT
  have := notT_le ws t
  rw [notT_snoc]
  split
  · simp; omega
  · first | (simp; omega) | simp
theorem hasT_cnt (ws : List Wt) (t : Int) : hasT ws t = decide (0 < cntT ws t) := by
  unfold hasT cntT
  induction ws with
  | nil => rfl
  | cons x ws ih =>
    have hle := notT_le ws t
    rw [List.any_cons, ih]
    unfold notT at *
    rw [List.filter_cons]
    cases hx : (x.1 == t) with
    | true => simp; omega
    | false => simp only [Bool.false_or, Bool.not_false, if_true, List.length_cons]; congr 1; simp
theorem hasT_not (ws : List Wt) (t : Int) : hasT (notT ws t) t = false := by
  unfold hasT notT
  rw [List.any_eq_false]
  intro y hy
  have := (List.mem_filter.1 hy).2
  simpa using this
theorem cntT_erase (ws : List Wt) (t : Int) (i : Nat) (x : Wt) (h : ws[i]? = some x) (hx : (x.1 == t) = true) : cntT (ws.eraseIdx i) t = cntT ws t - 1 := by
  unfold cntT
  rw [notT_erase ws t i x h hx, List.length_eraseIdx, if_pos (List.getElem?_eq_some_iff.1 h).1]
  omega
def both (t c : Int) (y : Wt) : Bool := y.1 == t && y.2.1 == c
/-- first: the place of the first of task t and case c, or -1. -/
def FirstB (ws : List Wt) (t c first : Int) : Prop :=
  (first = -1 ∧ ∀ y ∈ ws, both t c y = false) ∨ ∃ (p : Nat) (x : Wt), first = p ∧ ws[p]? = some x ∧ both t c x = true ∧ ∀ j, j < p → ∀ y : Wt, ws[j]? = some y → both t c y = false
theorem FirstB.keep {ws : List Wt} {t c first : Int} (h : FirstB ws t c first) (x : Wt) (hx : both t c x = false ∨ ¬ first < 0) : FirstB (ws ++ [x]) t c first := by
  rcases h with ⟨h1, h2⟩ | ⟨p, y, h1, h2, h3, h4⟩
  · have hx : both t c x = false := by rcases hx with h | h; exact h; omega
    refine .inl ⟨h1, fun y hy => ?_⟩
    rcases List.mem_append.1 hy with h | h
    · exact h2 y h
    · simp at h; subst h; exact hx
  · have hp := (List.getElem?_eq_some_iff.1 h2).1
    refine .inr ⟨p, y, h1, by rw [List.getElem?_append_left hp]; exact h2, h3, fun j hj z hz => h4 j hj z (by rw [List.getElem?_append_left (by omega)] at hz; exact hz)⟩
theorem FirstB.hit {ws : List Wt} {t c first : Int} (h : FirstB ws t c first) (x : Wt) (hx : both t c x = true) (h0 : first < 0) (n : Nat) (hn : ws.length = n) : FirstB (ws ++ [x]) t c n := by
  rcases h with ⟨h1, h2⟩ | ⟨p, y, h1, h2, h3, h4⟩
  · refine .inr ⟨n, x, rfl, by rw [List.getElem?_append_right (by omega)]; simp [hn], hx, fun j hj z hz => h2 z ?_⟩
    rw [List.getElem?_append_left (by omega)] at hz
    exact List.mem_of_getElem? hz
  · omega

set_option maxHeartbeats 1000000 in
theorem waitTakes_bad (n m task kase : Int) (w : World) (h : n < 0 ∨ 40 < n ∨ m < 1 ∨ 4 < m) :
    Calls Try.prog 9 #[.int .i64 n, .int .i64 m, .int .i64 task, .int .i64 kase] w fun e w' => e = .returned (.bool true) ∧ Below w.heap.size w w' := by
  go_enter Try.func9, Try.ntmps9
  go_wp2_with fail
  all_goals
    refine (wait_awake w).mono ?_
    rintro e w' ⟨rfl, hf⟩
    go_wp2_with fail
    go_ret
    exact ⟨rfl, hf.below (Nat.le_refl _) fun _ q => q.elim⟩

set_option maxHeartbeats 4000000 in
theorem waitTakes_good (n m : Nat) (task kase : Int) (w : World) (h1 : n ≤ 40) (h2 : 1 ≤ m) (h3 : m ≤ 4) :
    Calls Try.prog 9 #[.int .i64 (n : Int), .int .i64 (m : Int), .int .i64 task, .int .i64 kase] w fun e w' => e = .returned (.bool true) ∧ Below w.heap.size w w' := by
  have g1 : ¬ (n : Int) < 0 := by omega
  have g2 : ¬ (40 : Int) < n := by omega
  have g3 : ¬ (m : Int) < 1 := by omega
  have g4 : ¬ (4 : Int) < m := by omega
  go_enter Try.func9, Try.ntmps9
  go_wp2_with fail
  refine (wait_new w).mono ?_
  rintro e w1 ⟨b, rfl, hf1, hr1⟩
  have R1 := Lib.hid hr1
  have F1 := Lib.hid (hf1.none (S := From w.heap.size))
  clear hf1 hr1
  go_wp2_with fail
  refine (alike_round w1 task 4 (by omega) (by omega)).mono ?_
  rintro e w2 ⟨rfl, rfl⟩
  generalize task % (4 : Int) = t at *
  go_wp2_with fail
  refine (alike_round w1 kase m (by omega) (by omega)).mono ?_
  rintro e w2 ⟨rfl, rfl⟩
  generalize kase % (m : Int) = c at *
  go_wp2_with fail
  go_loopw [12, 13, 14, 15] (fun fi al sa i wr => ∃ (k s : Nat) (first : Int), i = .int .i64 k ∧ k ≤ n ∧ s ≤ k ∧ sa = .int .i64 s ∧ al = .int .i64 (cntT (tkRow m k) t : Int) ∧ fi = .int .i64 first ∧ FirstB (tkRow m k) t c first ∧ Fr (From w.heap.size) w wr ∧ WaitAt wr (fun k => w.heap.size ≤ k ∧ k < wr.heap.size) b (tkRow m k)) (fun _ _ _ i _ => n - (intOf i).toNat)
  case atStart => exact ⟨0, 0, -1, rfl, Nat.zero_le _, Nat.le_refl _, rfl, rfl, rfl, .inl ⟨rfl, fun y hy => by simp [tkRow] at hy⟩, F1.out, R1.out⟩
  case round =>
    obtain ⟨k, s, first, rfl, hk, hs, rfl, rfl, rfl, hfi, hfr, hq⟩ := hrel
    have Hfi := Lib.hid hfi; have Hfr := Lib.hid hfr; have Hq := Lib.hid hq
    have hcl : cntT (tkRow m k) t ≤ k := by unfold cntT; rw [tkRow_len]; omega
    clear hfi hfr hq
    by_cases hlt : k < n
    · obtain ⟨a, ha⟩ : ∃ a, a = k * 7 % 4 := ⟨_, rfl⟩
      obtain ⟨d, hd⟩ : ∃ d, d = k * 3 % m := ⟨_, rfl⟩
      have e1 : ((k : Int) * 7).tmod 4 = (a : Int) := by rw [ha]; rfl
      have e2 : ((k : Int) * 3).tmod (m : Int) = (d : Int) := by rw [hd]; rfl
      have hsn := tkRow_snoc m k
      rw [← ha, ← hd] at hsn
      have hcs := cntT_snoc (tkRow m k) ((a : Int), (d : Int), (k : Int)) t
      have hkp := Hfi.out.keep ((a : Int), (d : Int), (k : Int))
      have hht := Hfi.out.hit ((a : Int), (d : Int), (k : Int))
      rw [hsn] at hcs hkp hht
      have hpush := fun w' (h : WaitAt w' (fun k => w.heap.size ≤ k ∧ k < wr.heap.size) b (tkRow m k)) => wait_push w' _ b _ ((a : Int), (d : Int), (k : Int)) k (tkRow_len m k) h (by omega)
      rw [hsn] at hpush
      have Hpush := Lib.hid hpush; have Hcs := Lib.hid hcs; have Hkp := Lib.hid hkp; have Hht := Lib.hid hht
      clear ha hd hsn hpush hcs hkp hht
      generalize cntT (tkRow m k) t = cn at *
      go_wp2_with fail
      obtain ⟨wx, hwx⟩ : ∃ wx, wx = wr.alloc (.cells #[.int .i64 (a : Int), .int .i64 (d : Int), .int .i64 (k : Int)] 46) := ⟨_, rfl⟩
      rw [← hwx]
      have hbx : wx.heap[wr.heap.size]? = some (.cells #[.int .i64 (a : Int), .int .i64 (d : Int), .int .i64 (k : Int)] 46 (0, 0)) := by rw [hwx]; exact heap_alloc_new _ _
      have hfx : Fr Nob wr wx := by rw [hwx]; exact (Fr.refl _ _).alloc _
      obtain ⟨xb, hxb⟩ : ∃ xb, xb = wr.heap.size := ⟨_, rfl⟩
      have Hbx := Lib.hid hbx; have Hxb := Lib.hid hxb; have Hfx := Lib.hid hfx
      have hqx := Hq.out.fr0 hfx
      have Hqx := Lib.hid hqx
      rw [← hxb]
      clear hbx hfx hqx hwx hxb
      refine (Hpush.out wx Hqx.out).mono ?_
      rintro e w3 ⟨rfl, hf3, hq3⟩
      have hb3 := hf3.blk (fun q => by omega) Hbx.out
      rw [← Hxb.out] at hb3
      have x0 : w3.cell? ⟨xb, 0, none⟩ = some (.int .i64 (a : Int)) := blk_cell hb3 0 rfl
      have x1 : w3.cell? ⟨xb, 1, none⟩ = some (.int .i64 (d : Int)) := blk_cell hb3 1 rfl
      have hz1 := Hfr.out.size
      have hz2 := Hfx.out.size
      have hz3 := hf3.size
      have Hf3 := Lib.hid ((Hfr.out.trans0 Hfx.out.none).trans0 (hf3.mono fun k _ q => q.1))
      have Hq3 : Hid (WaitAt w3 (fun k => w.heap.size ≤ k ∧ k < w3.heap.size) b (tkRow m (k + 1))) := hq3.mono fun k hk q => ⟨by rcases q with q | q <;> omega, hk⟩
      clear hf3 hq3 hb3
      by_cases hat : (a : Int) = t
      · have ea : ((a : Int) == t) = true := by simp [hat]
        by_cases hdc : (d : Int) = c
        · have ed : ((d : Int) == c) = true := by simp [hdc]
          have hbt : both t c ((a : Int), (d : Int), (k : Int)) = true := by simp [both, hat, hdc]
          have Hbt := Lib.hid hbt
          clear hat hdc hbt
          by_cases hf0 : first < 0
          · have Hn := Lib.hid (Hht.out Hbt.out hf0 k (tkRow_len m k))
            go_wp2_with fail
            go_roundw
            case rel => exact ⟨k + 1, s + 1, k, by go_num, by omega, by omega, by go_num, by rw [Hcs.out, if_pos ea]; go_num, rfl, Hn.out, Hf3.out, Hq3.out⟩
            case measure => simp [intOf]; omega
          · have Hn := Lib.hid (Hkp.out (.inr (by omega)))
            go_wp2_with fail
            go_roundw
            case rel => exact ⟨k + 1, s + 1, first, by go_num, by omega, by omega, by go_num, by rw [Hcs.out, if_pos ea]; go_num, rfl, Hn.out, Hf3.out, Hq3.out⟩
            case measure => simp [intOf]; omega
        · have ed : ((d : Int) == c) = false := by simp [hdc]
          have hbt : both t c ((a : Int), (d : Int), (k : Int)) = false := by simp [both, hdc]
          have Hn := Lib.hid (Hkp.out (.inl hbt))
          clear hat hdc hbt
          go_wp2_with fail
          go_roundw
          case rel => exact ⟨k + 1, s, first, by go_num, by omega, by omega, rfl, by rw [Hcs.out, if_pos ea]; go_num, rfl, Hn.out, Hf3.out, Hq3.out⟩
          case measure => simp [intOf]; omega
      · have ea : ((a : Int) == t) = false := by simp [hat]
        have ea' : ¬ ((a : Int) == t) = true := by simp [hat]
        have hbt : both t c ((a : Int), (d : Int), (k : Int)) = false := by simp [both, hat]
        have Hn := Lib.hid (Hkp.out (.inl hbt)); have Hea := Lib.hid ea'
        clear hat hbt ea'
        go_wp2_with fail
        go_roundw
        case rel => exact ⟨k + 1, s, first, by go_num, by omega, by omega, rfl, by rw [Hcs.out, if_neg Hea.out]; rfl, rfl, Hn.out, Hf3.out, Hq3.out⟩
        case measure => simp [intOf]; omega
    · obtain rfl : k = n := by omega
      have hhc := hasT_cnt (tkRow m k) t
      have hhn := hasT_not (tkRow m k) t
      have hend : ∀ W W', Fr (From w.heap.size) w W → Fr Nob W W' → Below w.heap.size w W' := fun W W' h1 h2 => (h1.trans0 h2.none).below (Nat.le_refl _) fun _ q => q
      have Hend := Lib.hid hend; have Hhc := Lib.hid hhc; have Hhn := Lib.hid hhn
      clear hend hhc hhn
      have hrl := tkRow_len m k
      have hval : ∀ (p : Nat) (x : Wt), (tkRow m k)[p]? = some x → x.2.2 = (p : Int) := fun p x hx => by
        have h5 := (List.getElem?_eq_some_iff.1 hx).1
        rw [tkRow_len] at h5
        rw [tkRow_get m k p h5] at hx
        cases hx; rfl
      obtain ⟨row, hrow⟩ : ∃ row, row = tkRow m k := ⟨_, rfl⟩
      have hfi := Hfi.out; have hq := Hq.out
      rw [← hrow] at hfi hq hrl hcl hval ⊢
      have hz1 := Hfr.out.size
      have Hq := Lib.hid hq; have Hrl := Lib.hid hrl
      clear hq hrl hrow Hfi Hhc Hhn
      rcases hfi with ⟨rfl, hno⟩ | ⟨p, x, rfl, hx, hb, hmin⟩
      · have htk := wait_take_no wr _ b row t c Hq.out hno
        have Htk := Lib.hid htk
        have Hcn : Hid (row.length - (notT row t).length = cntT row t) := Lib.hid rfl
        have hh := hasT_cnt row t
        clear htk hno hval
        generalize cntT row t = cn at *
        have Hhc := Lib.hid hh
        clear hh
        go_wp2_with fail
        refine Htk.out.mono ?_
        rintro e w4 ⟨rfl, hf4⟩
        obtain ⟨wv, hwv⟩ : ∃ wv, wv = w4.alloc (.cells #[.int .i64 0, .int .i64 0, .int .i64 0] 46) := ⟨_, rfl⟩
        have hfv : Fr Nob w4 wv := by rw [hwv]; exact (Fr.refl _ _).alloc _
        have Hq4 := Lib.hid ((Hq.out.fr0 hf4).fr0 hfv); have Hf4 := Lib.hid ((Hfr.out.trans0 hf4.none).trans0 hfv.none)
        have Hwv := Lib.hid hwv
        clear hf4 hfv hwv
        by_cases hc0 : 0 < cn
        · have hd : decide ((0 : Int) < (cn : Int)) = true := by simp; omega
          have Hh : Hid (hasT row t = true) := by rw [Hhc.out]; simpa using Lib.hid hc0
          go_wp2_with fail
          rw [← Hwv.out]
          refine (wait_has wv _ b row t Hq4.out).mono ?_
          rintro e w5 ⟨rfl, hf5⟩
          rw [Hh.out]
          have Hq5 := Lib.hid (Hq4.out.fr0 hf5); have Hf5 := Lib.hid (Hf4.out.trans0 hf5.none)
          clear hf5
          go_wp2_with fail
          refine (wait_remove w5 _ b row t Hq5.out).mono ?_
          rintro e w6 ⟨rfl, hf6, hq6⟩
          rw [Hcn.out]
          have Hq6 := Lib.hid hq6; have Hf6 := Lib.hid (Hf5.out.trans0 (hf6.mono fun k _ q => q.1))
          clear hf6 hq6
          go_wp2_with fail
          refine (wait_has w6 _ b _ t Hq6.out).mono ?_
          rintro e w7 ⟨rfl, hf7⟩
          rw [hasT_not]
          have Hf7 := Lib.hid (Hf6.out.trans0 hf7.none)
          clear hf7
          go_wp2_with fail
          refine (wait_awake w7).mono ?_
          rintro e w8 ⟨rfl, hf8⟩
          go_wp2_with fail
          go_ret
          exact ⟨rfl, Hend.out _ _ Hf7.out hf8⟩
        · have hd : decide ((0 : Int) < (cn : Int)) = false := by simp; omega
          have Hh : Hid (hasT row t = false) := by rw [Hhc.out]; simpa using Lib.hid hc0
          go_wp2_with fail
          rw [← Hwv.out]
          refine (wait_has wv _ b row t Hq4.out).mono ?_
          rintro e w5 ⟨rfl, hf5⟩
          rw [Hh.out]
          have Hq5 := Lib.hid (Hq4.out.fr0 hf5); have Hf5 := Lib.hid (Hf4.out.trans0 hf5.none)
          clear hf5
          go_wp2_with fail
          refine (wait_remove w5 _ b row t Hq5.out).mono ?_
          rintro e w6 ⟨rfl, hf6, hq6⟩
          rw [Hcn.out]
          have Hq6 := Lib.hid hq6; have Hf6 := Lib.hid (Hf5.out.trans0 (hf6.mono fun k _ q => q.1))
          clear hf6 hq6
          go_wp2_with fail
          refine (wait_has w6 _ b _ t Hq6.out).mono ?_
          rintro e w7 ⟨rfl, hf7⟩
          rw [hasT_not]
          have Hf7 := Lib.hid (Hf6.out.trans0 hf7.none)
          clear hf7
          go_wp2_with fail
          refine (wait_awake w7).mono ?_
          rintro e w8 ⟨rfl, hf8⟩
          go_wp2_with fail
          go_ret
          exact ⟨rfl, Hend.out _ _ Hf7.out hf8⟩
      · have htk := wait_take_at wr _ b row t c p x Hq.out hx hb hmin
        have hxt : (x.1 == t) = true := by simp [both] at hb; simp [hb.1]
        have hce := cntT_erase row t p x hx hxt
        have hpos : 0 < cntT row t := by
          have h6 := notT_erase row t p x hx hxt
          have h7 := notT_le (row.eraseIdx p) t
          have h8 := (List.getElem?_eq_some_iff.1 hx).1
          rw [h6, List.length_eraseIdx, if_pos h8] at h7
          unfold cntT; omega
        have hxv := hval p x hx
        obtain ⟨x1, x2, x3⟩ := x
        dsimp only at hxv htk
        subst hxv
        have Hcn : Hid ((row.eraseIdx p).length - (notT (row.eraseIdx p) t).length = cntT (row.eraseIdx p) t) := Lib.hid rfl
        have hh := hasT_cnt (row.eraseIdx p) t
        obtain ⟨row2, hrow2⟩ : ∃ row2, row2 = row.eraseIdx p := ⟨_, rfl⟩
        rw [← hrow2] at htk hce Hcn hh
        have hcm : ((cntT row2 t : Nat) : Int) = (cntT row t : Int) - 1 := by omega
        have Htk := Lib.hid htk; have Hcm := Lib.hid hcm
        clear htk hmin hval hx hb hxt hrow2 hce hcm
        generalize cntT row t = cn at *
        generalize cntT row2 t = cm at *
        have Hhc := Lib.hid hh
        clear hh
        go_wp2_with fail
        refine Htk.out.mono ?_
        rintro e w4 ⟨rfl, hf4, hq4⟩
        obtain ⟨wv, hwv⟩ : ∃ wv, wv = w4.alloc (.cells #[.int .i64 x1, .int .i64 x2, .int .i64 (p : Int)] 46) := ⟨_, rfl⟩
        have hfv : Fr Nob w4 wv := by rw [hwv]; exact (Fr.refl _ _).alloc _
        have Hq4 := Lib.hid (hq4.fr0 hfv); have Hf4 := Lib.hid ((Hfr.out.trans0 (hf4.mono fun k _ q => q.1)).trans0 hfv.none)
        have Hwv := Lib.hid hwv
        clear hf4 hfv hwv hq4
        have hcm2 : (cm : Int) = (cn : Int) - 1 := Hcm.out
        by_cases hc0 : 0 < cm
        · have hd : decide ((0 : Int) < (cn : Int) - 1) = true := by simp; omega
          have hd2 : decide ((1 : Int) < (cn : Int)) = true := by simp; omega
          have Hh : Hid (hasT row2 t = true) := by rw [Hhc.out]; simpa using Lib.hid hc0
          clear hcm2
          go_wp2_with fail
          rw [← Hwv.out]
          refine (wait_has wv _ b row2 t Hq4.out).mono ?_
          rintro e w5 ⟨rfl, hf5⟩
          rw [Hh.out]
          have Hq5 := Lib.hid (Hq4.out.fr0 hf5); have Hf5 := Lib.hid (Hf4.out.trans0 hf5.none)
          clear hf5
          go_wp2_with fail
          refine (wait_remove w5 _ b row2 t Hq5.out).mono ?_
          rintro e w6 ⟨rfl, hf6, hq6⟩
          rw [Hcn.out, Hcm.out]
          have Hq6 := Lib.hid hq6; have Hf6 := Lib.hid (Hf5.out.trans0 (hf6.mono fun k _ q => q.1))
          clear hf6 hq6
          go_wp2_with fail
          refine (wait_has w6 _ b _ t Hq6.out).mono ?_
          rintro e w7 ⟨rfl, hf7⟩
          rw [hasT_not]
          have Hf7 := Lib.hid (Hf6.out.trans0 hf7.none)
          clear hf7
          go_wp2_with fail
          refine (wait_awake w7).mono ?_
          rintro e w8 ⟨rfl, hf8⟩
          go_wp2_with fail
          go_ret
          exact ⟨rfl, Hend.out _ _ Hf7.out hf8⟩
        · have hd : decide ((0 : Int) < (cn : Int) - 1) = false := by simp; omega
          have hd2 : decide ((1 : Int) < (cn : Int)) = false := by simp; omega
          have Hh : Hid (hasT row2 t = false) := by rw [Hhc.out]; simpa using Lib.hid hc0
          clear hcm2
          go_wp2_with fail
          rw [← Hwv.out]
          refine (wait_has wv _ b row2 t Hq4.out).mono ?_
          rintro e w5 ⟨rfl, hf5⟩
          rw [Hh.out]
          have Hq5 := Lib.hid (Hq4.out.fr0 hf5); have Hf5 := Lib.hid (Hf4.out.trans0 hf5.none)
          clear hf5
          go_wp2_with fail
          refine (wait_remove w5 _ b row2 t Hq5.out).mono ?_
          rintro e w6 ⟨rfl, hf6, hq6⟩
          rw [Hcn.out, Hcm.out]
          have Hq6 := Lib.hid hq6; have Hf6 := Lib.hid (Hf5.out.trans0 (hf6.mono fun k _ q => q.1))
          clear hf6 hq6
          go_wp2_with fail
          refine (wait_has w6 _ b _ t Hq6.out).mono ?_
          rintro e w7 ⟨rfl, hf7⟩
          rw [hasT_not]
          have Hf7 := Lib.hid (Hf6.out.trans0 hf7.none)
          clear hf7
          go_wp2_with fail
          refine (wait_awake w7).mono ?_
          rintro e w8 ⟨rfl, hf8⟩
          go_wp2_with fail
          go_ret
          exact ⟨rfl, Hend.out _ _ Hf7.out hf8⟩

theorem waitTakes_walk (n m task kase : Int) (w : World) (w0 : (Lit.int .i64 n).wf = true) (w1 : (Lit.int .i64 m).wf = true) (w2 : (Lit.int .i64 task).wf = true) (w3 : (Lit.int .i64 kase).wf = true) :
    Calls Try.prog 9 #[.int .i64 n, .int .i64 m, .int .i64 task, .int .i64 kase] w fun e w' => e = .returned (.bool true) ∧ Below w.heap.size w w' := by
  clear w0 w1 w2 w3
  by_cases hb : n < 0 ∨ 40 < n ∨ m < 1 ∨ 4 < m
  · exact waitTakes_bad n m task kase w hb
  · obtain ⟨n, rfl⟩ := Int.eq_ofNat_of_zero_le (show 0 ≤ n by omega)
    obtain ⟨m, rfl⟩ := Int.eq_ofNat_of_zero_le (show 0 ≤ m by omega)
    exact waitTakes_good n m task kase w (by omega) (by omega) (by omega)

/-! The row: out of the walk above. -/
namespace waitTakes
open Go.ChangeShapes Go.WideShapes Go.ChangeAt Go.RowKit
open Go.ChangeMaps (open_string shut_string)
theorem own : ownKnob Try.prog.godebug = none := by kernel_rfl
theorem laidOut : laidOutB Try.prog = true := by kernel_rfl
set_option maxRecDepth 100000 in
theorem lifted (os : Os) (started : os.Started) (H : Type) (enc : TypeId × Value → H) :
    ReturnsInHanded {} Try.checked os 9 .any (Rows.waitTakesSpec.pre6 enc Try.prog Try.f9 Rows.waitTakesRow.domain false) (Rows.waitTakesSpec.post enc Try.prog Try.f9 false true false false) := by
  refine returnsInHanded_of_change (C := Try.checked) own started (by kernel_rfl) Try.func9
    (ChangeSpec.witness6 (enc := enc) (C := Try.checked) false ⟨#[], #[.int .i64 0, .int .i64 0, .int .i64 0, .int .i64 0], []⟩ 8 (by kernel_rfl) (by kernel_rfl) (by kernel_rfl) (by kernel_rfl)) ?_
  intro W base args ds gs before hval0 hW hcnd _
  have hval : ∀ (j : Nat) t v, Try.f9.params[j]? = some t → args[j]? = some v → Value.okWide Try.prog W .any base t v := hval0
  have hW' := hW
  obtain ⟨p, q, hA0, hV, rfl, hfz, hnd⟩ := hW
  have hA : DataW.TrodAll enc Try.prog W 0 (fun _ => true) true Try.f9.params.toList args.toList ds p := hA0
  rw [Try.params9] at hA hval
  obtain ⟨v0, vs0, d0, ds0, p0, q0, hargs, rfl, rfl, h0, r0⟩ := trodAll_cons hA
  obtain ⟨v1, vs1, d1, ds1, p1, q1, rfl, rfl, rfl, h1, r1⟩ := trodAll_cons r0
  obtain ⟨v2, vs2, d2, ds2, p2, q2, rfl, rfl, rfl, h2, r2⟩ := trodAll_cons r1
  obtain ⟨v3, vs3, d3, ds3, p3, q3, rfl, rfl, rfl, h3, r3⟩ := trodAll_cons r2
  obtain ⟨rfl, rfl, rfl⟩ := trodAll_nil r3
  obtain rfl : args = #[v0, v1, v2, v3] := by cases args; simp_all
  obtain ⟨rfl, rfl⟩ := trodVars_none hV
  obtain ⟨a0, rfl, rfl, rfl, w0⟩ := open_int Try.underlying3 (hval 0 3 v0 rfl rfl) h0
  obtain ⟨a1, rfl, rfl, rfl, w1⟩ := open_int Try.underlying3 (hval 1 3 v1 rfl rfl) h1
  obtain ⟨a2, rfl, rfl, rfl, w2⟩ := open_int Try.underlying3 (hval 2 3 v2 rfl rfl) h2
  obtain ⟨a3, rfl, rfl, rfl, w3⟩ := open_int Try.underlying3 (hval 3 3 v3 rfl rfl) h3
  clear hA0 hval0
  refine (waitTakes_walk a0 a1 a2 a3 W w0 w1 w2 w3).mono fun e W' ⟨he, bel⟩ => ?_
  subst he
  exact ⟨_, rfl, _, _, _, [], _, [], hW', trodAll_mk1 (shut_bool Try.underlying4 _), (trodAll_cons_mk (shut_int Try.underlying3 w0) (trodAll_cons_mk (shut_int Try.underlying3 w1) (trodAll_cons_mk (shut_int Try.underlying3 w2) (trodAll_cons_mk (shut_int Try.underlying3 w3) trodAll_mk0)))), rfl, bel.frame _, fun h => by cases h⟩
theorem over : Rows.waitTakesRow.holds Try.pinned (OpenSpec.ofChange Rows.waitTakesSpec) :=
  OpenClaim.holds_of_wide 9 Try.f9 rfl rfl rfl rfl rfl rfl rfl ⟨rfl, rfl, rfl, rfl, rfl⟩ rfl rfl rfl rfl rfl (by kernel_rfl) Try.func9 (by kernel_rfl)
    (of_decide_eq_true (by kernel_rfl)) (by unfold Func.isWrapper; first | (rw [if_pos (by decide +kernel)]; kernel_rfl) | (rw [if_neg (by decide +kernel)]; exact ⟨rfl, rfl⟩))
    (fun os started H enc _ => lifted os started H enc)
end waitTakes
/-- THE STATEMENT. -/
theorem waitTakes_holds : Rows.WaitTakesSaid := waitTakes.over
#print axioms waitTakes_holds
end Go.Proofs.Ytpjkjnejlmmapaa
