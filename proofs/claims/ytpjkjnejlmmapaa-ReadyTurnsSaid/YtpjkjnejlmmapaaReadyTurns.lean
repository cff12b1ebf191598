/- ReadyTurns answers true whatever its two numbers are: no condition. -/
import Derived.Test.YtpjkjnejlmmapaaOpen
import Derived.Test.YtpjkjnejlmmapaaMore
import Derived.Test.YtpjkjnejlmmapaaReadyAwake
import Derived.IntWalk
set_option linter.unusedVariables false
set_option linter.unusedSimpArgs false
namespace Go.Proofs.Ytpjkjnejlmmapaa
open Go.RowKit
set_option maxRecDepth 100000

def threes (j : Nat) : List Int := (List.range j).map fun (i : Nat) => 3 * (i : Int)
theorem threes_len (j : Nat) : (threes j).length = j := by simp [threes]
theorem threes_snoc (j : Nat) : threes j ++ [3 * (j : Int)] = threes (j + 1) := by simp [threes, List.range_succ]
theorem threes_not (j : Nat) : 3 * (j : Int) ∉ threes j := by
  simp only [threes, List.mem_map, List.mem_range]
  rintro ⟨a, h, e⟩; omega
theorem threes_get (n p : Nat) (h : p < n) : (threes n).getD p 0 = 3 * (p : Int) := by simp [threes, List.getD, h]
theorem info_bool : (Try.prog.info? 4).map (fun i => (i.zero, i.size, i.bytes)) = some (some (.bool false), 1, 1) := by kernel_rfl
def bools (l : List Bool) : List Value := l.map Value.bool
theorem bools_get {l : List Bool} {j : Nat} (h : j < l.length) : (bools l)[j]? = some (.bool (l.getD j false)) := by simp [bools, List.getD, h]
/-- Of the first i turns from fr each has had its place. -/
def Turned (fr : Int) (n i : Nat) (l : List Bool) : Prop := l.length = n ∧ ∀ j, j < n → (l.getD j false = true ↔ ∃ k : Nat, k < i ∧ (fr + k) % (n : Int) = (j : Int))
theorem turned_new (fr : Int) (n i p : Nat) (l : List Bool) (h : Turned fr n i l) (hp : (fr + i) % (n : Int) = p) (hpn : p < n) (hi : i < n) : l.getD p false = false := by
  cases hb : l.getD p false with
  | false => rfl
  | true =>
    obtain ⟨k, hk, e⟩ := (h.2 p hpn).1 hb
    rw [← hp] at e
    have := Int.emod_emod_of_dvd
    have h1 : ((fr + i) - (fr + k)) % (n : Int) = 0 := Int.emod_eq_emod_iff_emod_sub_eq_zero.1 e.symm
    rw [show (fr + i) - (fr + k) = ((i - k : Nat) : Int) by omega, Int.emod_eq_of_lt (by omega) (by omega)] at h1
    omega
theorem turned_set (fr : Int) (n i p : Nat) (l : List Bool) (h : Turned fr n i l) (hp : (fr + i) % (n : Int) = p) (hpn : p < n) : Turned fr n (i + 1) (l.set p true) := by
  refine ⟨by simp [h.1], fun j hj => ?_⟩
  by_cases hjp : p = j
  · subst hjp
    have : (l.set p true).getD p false = true := by simp [List.getD, h.1, hpn]
    rw [this]
    exact ⟨fun _ => ⟨i, by omega, hp⟩, fun _ => rfl⟩
  · have : (l.set p true).getD j false = l.getD j false := by simp [List.getD, List.getElem?_set, hjp]
    rw [this, h.2 j hj]
    constructor
    · rintro ⟨k, hk, e⟩; exact ⟨k, by omega, e⟩
    · rintro ⟨k, hk, e⟩
      by_cases hki : k = i
      · subst hki; rw [hp] at e; omega
      · exact ⟨k, by omega, e⟩

set_option maxHeartbeats 1000000 in
theorem readyTurns_bad (n fr : Int) (w : World) (h : n < 1 ∨ 60 < n ∨ fr < -1099511627776 ∨ 1099511627776 < fr) :
    Calls Try.prog 4 #[.int .i64 n, .int .i64 fr] w fun e w' => e = .returned (.bool true) ∧ Below w.heap.size w w' := by
  go_enter Try.func4, Try.ntmps4
  go_wp2_with fail
  all_goals
    refine (ready_awake w).mono ?_
    rintro e w' ⟨rfl, hf⟩
    go_wp2_with fail
    go_ret
    exact ⟨rfl, hf.below (Nat.le_refl _) fun _ q => q.elim⟩

set_option maxHeartbeats 4000000 in
theorem readyTurns_good (n : Nat) (fr : Int) (w : World) (h1 : 1 ≤ n) (h2 : n ≤ 60) (h3 : -1099511627776 ≤ fr) (h4 : fr ≤ 1099511627776) :
    Calls Try.prog 4 #[.int .i64 (n : Int), .int .i64 fr] w fun e w' => e = .returned (.bool true) ∧ Below w.heap.size w w' := by
  have g1 : ¬ (n : Int) < 1 := by omega
  have g2 : ¬ (60 : Int) < n := by omega
  have g3 : ¬ fr < -1099511627776 := by omega
  have g4 : ¬ 1099511627776 < fr := by omega
  have hm := run_make_row' (P := Try.prog) 38 4 (.bool false) 1 Try.underlying38 info_bool rfl .i64 .i64 n (by omega) (by omega)
  go_enter Try.func4, Try.ntmps4
  go_wp2_with fail
  refine (ready_new w).mono ?_
  rintro e w1 ⟨b, rfl, hf1, hr1⟩
  have Hf1 := Lib.hid hf1; have Hz1 := Lib.hid hf1.size; have Hr1 := Lib.hid hr1; clear hf1 hr1
  go_wp2_with fail
  go_loopw [6] (fun i wr => ∃ j : Nat, i = .int .i64 j ∧ j ≤ n ∧ Fr (From w.heap.size) w wr ∧ ReadyAt wr (fun k => w.heap.size ≤ k ∧ k < wr.heap.size) b (threes j)) (fun i _ => n - (intOf i).toNat)
  case atStart => exact ⟨0, rfl, Nat.zero_le _, Hf1.out.none, Hr1.out⟩
  case round =>
    obtain ⟨j, rfl, hj, hfr, hr⟩ := hrel
    have Hfr := Lib.hid hfr; have Hr := Lib.hid hr
    clear hfr hr
    by_cases hlt : j < n
    · go_wp2_with fail
      refine (ready_add wr _ b _ (3 * (j : Int)) Hr.out (by omega) (threes_not j) (by rw [threes_len]; omega)).mono ?_
      rintro e w2 ⟨rfl, hf2, hr2⟩
      rw [threes_snoc] at hr2
      have hz := Hfr.out.size
      have hz2 := hf2.size
      have Hr2 : Hid (ReadyAt w2 (fun k => w.heap.size ≤ k ∧ k < w2.heap.size) b (threes (j + 1))) := hr2.mono fun k hk q => ⟨by rcases q with q | q <;> omega, hk⟩
      have Hfr2 := Lib.hid (Hfr.out.trans0 (hf2.mono fun k _ q => q.1))
      clear hf2 hr2 hz hz2
      go_wp2_with fail
      go_roundw
      case rel => exact ⟨j + 1, by go_num, by omega, Hfr2.out, Hr2.out⟩
      case measure => simp [intOf]; omega
    · obtain rfl : j = n := by omega
      go_wp2_with fail
      obtain ⟨w2, hw2⟩ : ∃ w2, w2 = wr.alloc (.cells (madeCells #[.bool false] j) 4) := ⟨_, rfl⟩
      rw [← hw2]
      have hf2 : Fr Nob wr w2 := by rw [hw2]; exact (Fr.refl _ _).alloc _
      have hs2 : Sl w2 (fun k => wr.heap.size ≤ k ∧ k < w2.heap.size) 4 1 (.slice (some ⟨wr.heap.size, 0, none⟩) j j) j (bools (List.replicate j false)) := by
        have := Sl.made wr 4 (.bool false) j (fun k => wr.heap.size ≤ k ∧ k < w2.heap.size) (by rw [hw2]; simp) (by unfold maxLen; omega)
        rw [← hw2] at this
        simpa [bools] using this
      have Hs2 := Lib.hid hs2
      have Hr2 := Lib.hid (Hr.out.fr0 hf2)
      have Hf2 := Lib.hid (Hfr.out.trans0 hf2.none)
      have Ht2 : Hid (Two w.heap.size w2 (fun k => w.heap.size ≤ k ∧ k < wr.heap.size) (fun k => wr.heap.size ≤ k ∧ k < w2.heap.size)) := ⟨fun k q => ⟨q.1, by have := hf2.size; omega⟩, fun k q => ⟨by have := Hfr.out.size; omega, q.2⟩, fun k a b => by omega⟩
      clear hs2 hf2 hw2 hm
      generalize (fun k => w.heap.size ≤ k ∧ k < wr.heap.size) = S at *
      generalize (fun k => wr.heap.size ≤ k ∧ k < w2.heap.size) = T at *
      generalize wr.heap.size = sb at *
      go_loopw [8] (fun i wr => ∃ (k : Nat) (l : List Bool), i = .int .i64 k ∧ k ≤ j ∧ Turned fr j k l ∧ Fr (From w.heap.size) w wr ∧ Two w.heap.size wr S T ∧ ReadyAt wr S b (threes j) ∧ Sl wr T 4 1 (.slice (some ⟨sb, 0, none⟩) j j) j (bools l)) (fun i _ => j - (intOf i).toNat)
      case atStart => exact ⟨0, List.replicate j false, rfl, Nat.zero_le _, ⟨by simp, fun i hi => by simp [List.getD, hi]⟩, Hf2.out, Ht2.out, Hr2.out, Hs2.out⟩
      case round =>
        clear Hs2 Hr2 Hf2 Ht2
        rename_i wr9 _
        obtain ⟨k, l, rfl, hk, htn, hfr, htw, hr, hs⟩ := hrel
        have Hfr := Lib.hid hfr; have Htw := Lib.hid htw; have Hr := Lib.hid hr; have Hs := Lib.hid hs; have Htn := Lib.hid htn
        clear hfr htw hr hs htn
        by_cases hlt : k < j
        · have hk1 := Int.emod_nonneg (fr + k) (show (j : Int) ≠ 0 by omega)
          have hk2 := Int.emod_lt_of_pos (fr + k) (show 0 < (j : Int) by omega)
          obtain ⟨p, hp⟩ := Int.eq_ofNat_of_zero_le hk1
          rw [hp] at hk2
          have hpj : p < j := by omega
          have Hp := Lib.hid hp
          have hsum : wrap64 (fr + k) = fr + k := by unfold wrap64; omega
          clear hp hk1 hk2
          have hpk := ready_pick wr S b _ (fr + k) j (threes_len j) Hr.out (by omega)
          rw [Hp.out, Int.toNat_natCast, threes_get j p hpj] at hpk
          have Hpk := Lib.hid hpk
          clear hpk
          go_wp2_with fail
          refine Hpk.out.mono ?_
          rintro e w3 ⟨rfl, hf3⟩
          have Hs3 := Hs.out.fr hf3 fun _ _ q => q
          obtain ⟨gw, ow, cw, hv, hTg, hgw, hcw, hcm, hcell, hfz⟩ := Hs3.form (by omega)
          cases hv
          have hc := hcell p _ (bools_get (by rw [Htn.out.1]; exact hpj))
          rw [turned_new fr j k p l Htn.out Hp.out hpj hlt] at hc
          have hfzp := hfz (0 + p)
          rw [Nat.zero_add] at hc hfzp
          obtain ⟨t, ht⟩ : ∃ t : Int, t = 3 * (p : Int) := ⟨_, rfl⟩
          rw [← ht]
          have ht0 : ¬ t < 0 := by omega
          have ht1 : t.tmod 3 = 0 := by rw [ht]; exact Int.mul_tmod_right 3 _
          have ht2 : t.tdiv 3 = (p : Int) := by rw [ht]; exact Int.mul_tdiv_cancel_left _ (by omega)
          have ht3 : ¬ (j : Int) ≤ p := by omega
          have Hs3 := Lib.hid Hs3
          clear ht hcell hfz
          have Hfr3 := Lib.hid (Hfr.out.trans0 hf3.none)
          have Htw3 := Lib.hid (Htw.out.fr hf3)
          have Hr3 := Lib.hid (Hr.out.fr0 hf3)
          clear hf3 hsum
          go_wp2_with fail
          go_roundw
          case rel =>
            have hst := (Fr.refl T w3).setCell (p := ⟨sb, p, none⟩) (.inl hTg) (.bool true)
            refine ⟨k + 1, l.set p true, by go_num, by omega, turned_set fr j k p l Htn.out Hp.out hpj, Hfr3.out.trans0 (hst.fromR Htw3.out), Htw3.out.fr hst, Hr3.out.fr hst fun a b => Htw3.out.dis a b, ?_⟩
            have := Hs3.out.set p (by omega) (.bool true)
            rw [Nat.zero_add] at this
            simpa [bools, List.map_set] using this
          case measure => simp [intOf]; omega
        · go_wp2_with fail
          refine (ready_len wr S b _ j (threes_len j) Hr.out).mono ?_
          rintro e w3 ⟨rfl, rfl⟩
          go_wp2_with fail
          refine (ready_awake wr).mono ?_
          rintro e w4 ⟨rfl, hf4⟩
          go_wp2_with fail
          go_ret
          exact ⟨rfl, (Hfr.out.trans0 hf4.none).below (Nat.le_refl _) fun _ q => q⟩

theorem readyTurns_walk (n fr : Int) (w : World) (w0 : (Lit.int .i64 n).wf = true) (w1 : (Lit.int .i64 fr).wf = true) :
    Calls Try.prog 4 #[.int .i64 n, .int .i64 fr] w fun e w' => e = .returned (.bool true) ∧ Below w.heap.size w w' := by
  clear w0 w1
  by_cases hb : n < 1 ∨ 60 < n ∨ fr < -1099511627776 ∨ 1099511627776 < fr
  · exact readyTurns_bad n fr w hb
  · obtain ⟨k, rfl⟩ := Int.eq_ofNat_of_zero_le (show 0 ≤ n by omega)
    exact readyTurns_good k fr w (by omega) (by omega) (by omega) (by omega)

/-! The row: out of the walk above. -/
namespace readyTurns
open Go.ChangeShapes Go.WideShapes Go.ChangeAt Go.RowKit
open Go.ChangeMaps (open_string shut_string)
theorem own : ownKnob Try.prog.godebug = none := by kernel_rfl
theorem laidOut : laidOutB Try.prog = true := by kernel_rfl
set_option maxRecDepth 100000 in
theorem lifted (os : Os) (started : os.Started) (H : Type) (enc : TypeId × Value → H) :
    ReturnsInHanded {} Try.checked os 4 .any (Rows.readyTurnsSpec.pre6 enc Try.prog Try.f4 Rows.readyTurnsRow.domain false) (Rows.readyTurnsSpec.post enc Try.prog Try.f4 false true false false) := by
  refine returnsInHanded_of_change (C := Try.checked) own started (by kernel_rfl) Try.func4
    (ChangeSpec.witness6 (enc := enc) (C := Try.checked) false ⟨#[], #[.int .i64 0, .int .i64 0], []⟩ 8 (by kernel_rfl) (by kernel_rfl) (by kernel_rfl) (by kernel_rfl)) ?_
  intro W base args ds gs before hval0 hW hcnd _
  have hval : ∀ (j : Nat) t v, Try.f4.params[j]? = some t → args[j]? = some v → Value.okWide Try.prog W .any base t v := hval0
  have hW' := hW
  obtain ⟨p, q, hA0, hV, rfl, hfz, hnd⟩ := hW
  have hA : DataW.TrodAll enc Try.prog W 0 (fun _ => true) true Try.f4.params.toList args.toList ds p := hA0
  rw [Try.params4] at hA hval
  obtain ⟨v0, vs0, d0, ds0, p0, q0, hargs, rfl, rfl, h0, r0⟩ := trodAll_cons hA
  obtain ⟨v1, vs1, d1, ds1, p1, q1, rfl, rfl, rfl, h1, r1⟩ := trodAll_cons r0
  obtain ⟨rfl, rfl, rfl⟩ := trodAll_nil r1
  obtain rfl : args = #[v0, v1] := by cases args; simp_all
  obtain ⟨rfl, rfl⟩ := trodVars_none hV
  obtain ⟨a0, rfl, rfl, rfl, w0⟩ := open_int Try.underlying3 (hval 0 3 v0 rfl rfl) h0
  obtain ⟨a1, rfl, rfl, rfl, w1⟩ := open_int Try.underlying3 (hval 1 3 v1 rfl rfl) h1
  clear hA0 hval0
  refine (readyTurns_walk a0 a1 W w0 w1).mono fun e W' ⟨he, bel⟩ => ?_
  subst he
  exact ⟨_, rfl, _, _, _, [], _, [], hW', trodAll_mk1 (shut_bool Try.underlying4 _), (trodAll_cons_mk (shut_int Try.underlying3 w0) (trodAll_cons_mk (shut_int Try.underlying3 w1) trodAll_mk0)), rfl, bel.frame _, fun h => by cases h⟩
theorem over : Rows.readyTurnsRow.holds Try.pinned (OpenSpec.ofChange Rows.readyTurnsSpec) :=
  OpenClaim.holds_of_wide 4 Try.f4 rfl rfl rfl rfl rfl rfl rfl ⟨rfl, rfl, rfl, rfl, rfl⟩ rfl rfl rfl rfl rfl (by kernel_rfl) Try.func4 (by kernel_rfl)
    (of_decide_eq_true (by kernel_rfl)) (by unfold Func.isWrapper; first | (rw [if_pos (by decide +kernel)]; kernel_rfl) | (rw [if_neg (by decide +kernel)]; exact ⟨rfl, rfl⟩))
    (fun os started H enc _ => lifted os started H enc)
end readyTurns
/-- THE STATEMENT. -/
theorem readyTurns_holds : Rows.ReadyTurnsSaid := readyTurns.over
#print axioms readyTurns_holds
end Go.Proofs.Ytpjkjnejlmmapaa
