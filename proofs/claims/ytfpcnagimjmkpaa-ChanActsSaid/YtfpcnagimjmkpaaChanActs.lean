/- ChanActs answers true whatever its kind, size and acts are: no condition. -/
import Derived.Test.YtfpcnagimjmkpaaOpenActs9
import Derived.Test.YtfpcnagimjmkpaaChanPair
set_option linter.unusedVariables false
set_option linter.unusedSimpArgs false
namespace Go.Proofs.Ytfpcnagimjmkpaa
open Go.RowKit
set_option maxRecDepth 100000
theorem chanActs_long (w : World) (kind size : Int) (v0 : Value) (l : List Act9) (n : Nat) (hn : l.length = n) (h60 : ¬ n ≤ 60) (hrd : Rd w 6 v0 n (l.flatMap act9En)) :
    Calls Try.prog 10 #[.int .i64 kind, .int .i64 size, v0] w fun e w' => e = .returned (.bool true) ∧ Fr Nob w w' := by
  obtain ⟨_, _, A, c, rfl, hc1, hc2, hA⟩ := hrd
  have Haw := Lib.hid (fun W => awake9 W)
  have d1 : decide ((60 : Int) < n) = true := decide_eq_true (by omega)
  have d1' : decide (60 < n) = true := decide_eq_true (by omega)
  clear hA hn h60
  go_enter Try.func10, Try.ntmps10
  go_wp2_with fail
  refine (Haw.out _).mono ?_
  rintro e w2 ⟨rfl, hf2⟩
  have F2 := Lib.hid hf2
  clear hf2
  go_wp2_with fail
  go_ret
  exact ⟨rfl, F2.out⟩
set_option maxHeartbeats 4000000 in
theorem chanActs_main (w : World) (kind size : Int) (v0 : Value) (l : List Act9) (n : Nat) (hn : l.length = n) (h60 : n ≤ 60) (hrd : Rd w 6 v0 n (l.flatMap act9En)) :
    Calls Try.prog 10 #[.int .i64 kind, .int .i64 size, v0] w fun e w' => e = .returned (.bool true) ∧ Fr Nob w w' := by
  obtain ⟨_, _, A, c0, rfl, hc1, hc2, hA⟩ := hrd
  have hg : ∀ k, k < n → ∃ x : Act9, l[k]? = some x ∧ ∀ j u, j < 6 → (act9En x)[j]? = some u → (l.flatMap act9En)[k * 6 + j]? = some u := fun k hk => by
    have h0 : l[k]? = some (l[k]'(by omega)) := by simp
    exact ⟨_, h0, fun j u hj hu => (rowsGet act9En (fun _ => rfl) l k j _ h0 hj).trans hu⟩
  have HA := Lib.hid hA; have Hg := Lib.hid hg
  have d1 : decide ((60 : Int) < n) = false := decide_eq_false (by omega)
  have d1' : ¬ (60 : Int) < n := by omega
  clear hA hg hn
  go_enter Try.func10, Try.ntmps10
  go_wp2_with fail
  refine (pair_any w kind size).mono ?_
  rintro e w1 h1
  rcases h1 with ⟨rfl, hf1⟩ | ⟨b, m, c, rfl, hb1, hr1, hs1⟩
  · have F1 := Lib.hid hf1
    clear hf1
    go_wp2_with fail
    go_loopw [9] (fun i wr => ∃ j : Nat, i = .int .i64 j ∧ j ≤ n ∧ Fr Nob w wr) (fun i _ => n - (intOf i).toNat)
    case atStart => exact ⟨0, rfl, Nat.zero_le _, F1.out⟩
    case round =>
      obtain ⟨j, rfl, hj, hfr⟩ := hrel
      have Hfr := Lib.hid hfr
      clear hfr
      by_cases hlt : j < n
      · have hlt' : (j : Int) < n := by omega
        obtain ⟨x, hx, hq⟩ := Hg.out j hlt
        obtain ⟨g, o, rfl, hgl, hc⟩ := HA.out (by omega)
        obtain ⟨kd, v, ⟨y0, y1, y2⟩, s⟩ := x
        have a0 := Hfr.out.cell (p := ⟨g, o + (j * 6 + 0), none⟩) id (hc _ _ (hq 0 _ (by omega) rfl))
        have a1 := Hfr.out.cell (p := ⟨g, o + (j * 6 + 1), none⟩) id (hc _ _ (hq 1 _ (by omega) rfl))
        have a2 := Hfr.out.cell (p := ⟨g, o + (j * 6 + 2), none⟩) id (hc _ _ (hq 2 _ (by omega) rfl))
        have a3 := Hfr.out.cell (p := ⟨g, o + (j * 6 + 3), none⟩) id (hc _ _ (hq 3 _ (by omega) rfl))
        have a4 := Hfr.out.cell (p := ⟨g, o + (j * 6 + 4), none⟩) id (hc _ _ (hq 4 _ (by omega) rfl))
        have a5 := Hfr.out.cell (p := ⟨g, o + (j * 6 + 5), none⟩) id (hc _ _ (hq 5 _ (by omega) rfl))
        rw [← Nat.add_assoc] at a1 a2 a3 a4 a5
        rw [Nat.add_zero] at a0
        clear hx hq hc
        go_wp2_with fail
        refine (doesn_any wr kd v y0 y1 y2 s).mono ?_
        rintro e w2 ⟨rfl, hf2⟩
        have F2 := Lib.hid (Hfr.out.trans0 hf2)
        clear hf2 a0 a1 a2 a3 a4 a5
        go_wp2_with fail
        refine (shows_nil w2).mono ?_
        rintro e w3 ⟨rfl, hf3⟩
        have F3 := Lib.hid (F2.out.trans0 hf3)
        clear hf3
        go_wp2_with fail
        go_roundw
        case rel => exact ⟨j + 1, by go_num, by omega, F3.out⟩
        case measure => simp [intOf]; omega
      · obtain rfl : n = j := by omega
        have hlt' : ¬ (n : Int) < n := by omega
        go_wp2_with fail
        refine (awake9 wr).mono ?_
        rintro e w2 ⟨rfl, hf⟩
        have Hf := Lib.hid hf
        clear hf
        go_wp2_with fail
        go_ret
        exact ⟨rfl, Hfr.out.trans0 Hf.out⟩
  · have HB1 := Lib.hid hb1
    have hl1 : c.rv.length ≤ 0 := by rw [hr1]; exact Nat.le_refl _
    have hl2 : c.sd.length ≤ 0 := by rw [hs1]; exact Nat.le_refl _
    clear hb1 hr1 hs1
    go_wp2_with fail
    go_loopw [9] (fun i wr => ∃ (j : Nat) (c : ChS), i = .int .i64 j ∧ j ≤ n ∧ c.rv.length ≤ j ∧ c.sd.length ≤ j ∧ Both w wr b m c) (fun i _ => n - (intOf i).toNat)
    case atStart => exact ⟨0, c, rfl, Nat.zero_le _, hl1, hl2, HB1.out⟩
    case round =>
      obtain ⟨j, c, rfl, hj, hl1, hl2, hb⟩ := hrel
      have Hb := Lib.hid hb; have Hl := Lib.hid (And.intro hl1 hl2)
      clear hb hl1 hl2
      by_cases hlt : j < n
      · have hlt' : (j : Int) < n := by omega
        obtain ⟨x, hx, hq⟩ := Hg.out j hlt
        obtain ⟨g, o, rfl, hgl, hc⟩ := HA.out (by omega)
        obtain ⟨kd, v, ⟨y0, y1, y2⟩, s⟩ := x
        have a0 := Hb.out.fr.cell (p := ⟨g, o + (j * 6 + 0), none⟩) id (hc _ _ (hq 0 _ (by omega) rfl))
        have a1 := Hb.out.fr.cell (p := ⟨g, o + (j * 6 + 1), none⟩) id (hc _ _ (hq 1 _ (by omega) rfl))
        have a2 := Hb.out.fr.cell (p := ⟨g, o + (j * 6 + 2), none⟩) id (hc _ _ (hq 2 _ (by omega) rfl))
        have a3 := Hb.out.fr.cell (p := ⟨g, o + (j * 6 + 3), none⟩) id (hc _ _ (hq 3 _ (by omega) rfl))
        have a4 := Hb.out.fr.cell (p := ⟨g, o + (j * 6 + 4), none⟩) id (hc _ _ (hq 4 _ (by omega) rfl))
        have a5 := Hb.out.fr.cell (p := ⟨g, o + (j * 6 + 5), none⟩) id (hc _ _ (hq 5 _ (by omega) rfl))
        rw [← Nat.add_assoc] at a1 a2 a3 a4 a5
        rw [Nat.add_zero] at a0
        clear hx hq hc
        go_wp2_with fail
        refine (does_any Hb.out (Hb.out.few Hl.out.1 Hl.out.2 (by omega)) kd v y0 y1 y2 s).mono ?_
        rintro e w2 ⟨rfl, c2, hb2, hr2, hs2⟩
        have HB2 := Lib.hid hb2
        have Hl2 := Lib.hid (And.intro hr2 hs2)
        clear hb2 hr2 hs2 a0 a1 a2 a3 a4 a5
        go_wp2_with fail
        refine (shows_both HB2.out).mono ?_
        rintro e w3 ⟨rfl, hb3⟩
        have HB3 := Lib.hid hb3
        clear hb3
        go_wp2_with fail
        go_roundw
        case rel => exact ⟨j + 1, c2, by go_num, by omega, by have := Hl.out.1; have := Hl2.out.1; omega, by have := Hl.out.2; have := Hl2.out.2; omega, HB3.out⟩
        case measure => simp [intOf]; omega
      · obtain rfl : n = j := by omega
        have hlt' : ¬ (n : Int) < n := by omega
        go_wp2_with fail
        refine (awake9 wr).mono ?_
        rintro e w2 ⟨rfl, hf⟩
        have Hf := Lib.hid hf
        clear hf
        go_wp2_with fail
        go_ret
        exact ⟨rfl, Hb.out.fr.trans0 Hf.out⟩
theorem chanActs_walk (kind size : Int) (v0 : Value) (l : List Act9) (w : World) (w0 : (Lit.int .i64 kind).wf = true) (w1 : (Lit.int .i64 size).wf = true) (h0 : IsActs9 w v0 l) :
    Calls Try.prog 10 #[.int .i64 kind, .int .i64 size, v0] w fun e w' => e = .returned (.bool true) ∧ Below w.heap.size w w' := by
  have key : Calls Try.prog 10 #[.int .i64 kind, .int .i64 size, v0] w fun e w' => e = .returned (.bool true) ∧ Fr Nob w w' := by
    by_cases h : l.length ≤ 60
    · exact chanActs_main w kind size v0 l _ rfl h h0.1
    · exact chanActs_long w kind size v0 l _ rfl h h0.1
  exact key.mono fun e w' ⟨h1, h2⟩ => ⟨h1, h2.below (Nat.le_refl _) fun _ q => q.elim⟩


/-! The row: out of the walk above. -/
namespace chanActs
open Go.ChangeShapes Go.WideShapes Go.ChangeAt Go.RowKit
open Go.ChangeMaps (open_string shut_string)
theorem own : ownKnob Try.prog.godebug = none := by kernel_rfl
theorem laidOut : laidOutB Try.prog = true := by kernel_rfl
set_option maxRecDepth 100000 in
theorem lifted (os : Os) (started : os.Started) (H : Type) (enc : TypeId × Value → H) :
    ReturnsInHanded {} Try.checked os 10 .any (Rows.chanActsSpec.pre6 enc Try.prog Try.f10 Rows.chanActsRow.domain false) (Rows.chanActsSpec.post enc Try.prog Try.f10 false true false false) := by
  refine returnsInHanded_of_change (C := Try.checked) own started (by kernel_rfl) Try.func10
    (ChangeSpec.witness6 (enc := enc) (C := Try.checked) false ⟨#[], #[.int .i64 0, .int .i64 0, .slice none 0 0], []⟩ 8 (by kernel_rfl) (by kernel_rfl) (by kernel_rfl) (by kernel_rfl)) ?_
  intro W base args ds gs before hval0 hW hcnd _
  have hval : ∀ (j : Nat) t v, Try.f10.params[j]? = some t → args[j]? = some v → Value.okWide Try.prog W .any base t v := hval0
  have hW' := hW
  obtain ⟨p, q, hA0, hV, rfl, hfz, hnd⟩ := hW
  have hA : DataW.TrodAll enc Try.prog W 0 (fun _ => true) true Try.f10.params.toList args.toList ds p := hA0
  rw [Try.params10] at hA hval
  obtain ⟨v0, vs0, d0, ds0, p0, q0, hargs, rfl, rfl, h0, r0⟩ := trodAll_cons hA
  obtain ⟨v1, vs1, d1, ds1, p1, q1, rfl, rfl, rfl, h1, r1⟩ := trodAll_cons r0
  obtain ⟨v2, vs2, d2, ds2, p2, q2, rfl, rfl, rfl, h2, r2⟩ := trodAll_cons r1
  obtain ⟨rfl, rfl, rfl⟩ := trodAll_nil r2
  obtain rfl : args = #[v0, v1, v2] := by cases args; simp_all
  obtain ⟨rfl, rfl⟩ := trodVars_none hV
  obtain ⟨a0, rfl, rfl, rfl, w0⟩ := open_int Try.underlying3 (hval 0 3 v0 rfl rfl) h0
  obtain ⟨a1, rfl, rfl, rfl, w1⟩ := open_int Try.underlying3 (hval 1 3 v1 rfl rfl) h1
  have k2 := h2
  have lt2 : ∀ x ∈ p2, x.block < W.heap.size := by obtain ⟨m, hm⟩ := k2; exact DataW.trod_lt m _ _ _ hm
  obtain ⟨x2, g2⟩ := opn_acts9 (hval 2 58 v2 rfl rfl) h2
  clear hA0 hval0
  refine (chanActs_walk a0 a1 v2 x2 W w0 w1 g2).mono fun e W' ⟨he, bel⟩ => ?_
  subst he
  exact ⟨_, rfl, _, _, _, [], _, [], hW', trodAll_mk1 (shut_bool Try.underlying4 _), (trodAll_cons_mk (shut_int Try.underlying3 w0) (trodAll_cons_mk (shut_int Try.underlying3 w1) (trodAll_cons_mk (Below.trod laidOut (by kernel_rfl) (of_decide_eq_true (by kernel_rfl)) k2 bel lt2) trodAll_mk0))), rfl, bel.frame _, fun h => by cases h⟩
theorem over : Rows.chanActsRow.holds Try.pinned (OpenSpec.ofChange Rows.chanActsSpec) :=
  OpenClaim.holds_of_wide 10 Try.f10 rfl rfl rfl rfl rfl rfl rfl ⟨rfl, rfl, rfl, rfl, rfl⟩ rfl rfl rfl rfl rfl (by kernel_rfl) Try.func10 (by kernel_rfl)
    (of_decide_eq_true (by kernel_rfl)) (by unfold Func.isWrapper; first | (rw [if_pos (by decide +kernel)]; kernel_rfl) | (rw [if_neg (by decide +kernel)]; exact ⟨rfl, rfl⟩))
    (fun os started H enc _ => lifted os started H enc)
end chanActs
/-- THE STATEMENT. -/
theorem chanActs_holds : Rows.ChanActsSaid := chanActs.over
#print axioms chanActs_holds
end Go.Proofs.Ytfpcnagimjmkpaa
