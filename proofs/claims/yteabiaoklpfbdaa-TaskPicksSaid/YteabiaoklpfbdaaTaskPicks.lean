/- TaskPicks answers true whatever its numbers are: no condition. -/
import Derived.Test.YteabiaoklpfbdaaOpen
import Derived.Test.YteabiaoklpfbdaaRound
import Derived.Test.YteabiaoklpfbdaaTaskAwake
set_option linter.unusedVariables false
set_option linter.unusedSimpArgs false
namespace Go.Proofs.Yteabiaoklpfbdaa
open Go.RowKit
set_option maxRecDepth 100000
theorem Try.info_int17 : (Try.prog.info? 3).map (fun i => (i.zero, i.size, i.bytes)) = some (some (.int .i64 0), 1, 8) := by kernel_rfl
theorem ints_in {w : World} {l : List Int} {n : Nat} {v : Value} (hn : l.length = n) (h : Rd w 1 v n (ints l)) : ∃ A c, v = .slice A n c ∧ n ≤ c ∧ c ≤ maxLen ∧ ∀ k, k < n → ∃ g o, A = some ⟨g, o, none⟩ ∧ w.cell? ⟨g, o + k, none⟩ = some (.int .i64 (l.getD k 0)) := by
  obtain ⟨_, hl, A, c, rfl, hc1, hc2, hA⟩ := h
  refine ⟨A, c, rfl, hc1, hc2, fun k hk => ?_⟩
  obtain ⟨g, o, rfl, hg, hc⟩ := hA (by omega)
  have hk2 : k < l.length := by omega
  exact ⟨g, o, rfl, hc k _ (by simp [List.getD, hk2])⟩
theorem erase_snoc (l : List Int) (x : Int) (h : x ∉ l) : (l ++ [x]).erase x = l := by rw [List.erase_append_right _ h]; simp
/-- What the rounds keep: a table of n tasks, and a slice of our own that says its line. -/
def PickAt (base : Nat) (w : World) (b n q : Nat) (v : Value) (line : List Int) : Prop := ∃ (S T : Nat → Prop) (ts : List Tk), TableAt w S b ts line ∧ ts.length = n ∧ (∀ x ∈ line, x < (n : Int)) ∧ line.length = q ∧ q ≤ n ∧ Two base w S T ∧ Sl w T 3 1 v q (ints line)
theorem PickAt.fr0 {base : Nat} {w w' : World} {b n q : Nat} {v : Value} {line : List Int} (h : PickAt base w b n q v line) (hf : Fr Nob w w') : PickAt base w' b n q v line := by
  obtain ⟨S, T, ts, ⟨ab, lb, SA, SL, h⟩, h1, h2, h3, h4, h5, h6⟩ := h
  exact ⟨S, T, ts, ⟨ab, lb, SA, SL, h.fr0 hf⟩, h1, h2, h3, h4, h5.fr hf, h6.fr hf fun _ _ q => q⟩
theorem taskPicks_long (w : World) (v0 : Value) (l : List Int) (k : Int) (n : Nat) (hn : l.length = n) (h60 : ¬ n ≤ 60) (hrd : Rd w 1 v0 n (ints l)) :
    Calls Try.prog 5 #[v0, .int .i64 k] w fun e w' => e = .returned (.bool true) ∧ Fr Nob w w' := by
  obtain ⟨_, _, A, c, rfl, hc1, hc2, hA⟩ := hrd
  have Haw := Lib.hid (fun W => awake17 W)
  have d1 : decide ((60 : Int) < n) = true := decide_eq_true (by omega)
  have d1' : decide (60 < n) = true := decide_eq_true (by omega)
  clear hA hn h60
  go_enter Try.func5, Try.ntmps5
  go_wp2_with fail
  refine (Haw.out _).mono ?_
  rintro e w2 ⟨rfl, hf2⟩
  have F2 := Lib.hid hf2
  clear hf2
  go_wp2_with fail
  go_ret
  exact ⟨rfl, F2.out⟩
set_option maxHeartbeats 4000000 in
theorem taskPicks_main (w : World) (v0 : Value) (l : List Int) (k : Int) (n : Nat) (hn : l.length = n) (h60 : n ≤ 60) (hrd : Rd w 1 v0 n (ints l)) :
    Calls Try.prog 5 #[v0, .int .i64 k] w fun e w' => e = .returned (.bool true) ∧ Fr Nob w w' := by
  obtain ⟨A0, c0, rfl, hc1, hc2, hin⟩ := ints_in hn hrd
  have Hin := Lib.hid hin
  have d1 : decide ((60 : Int) < n) = false := decide_eq_false (by omega)
  have d1' : ¬ (60 : Int) < n := by omega
  clear hin hrd hn
  go_enter Try.func5, Try.ntmps5
  go_wp2_with fail
  refine (task_new w).mono ?_
  rintro e w1 ⟨b, S0, rfl, hf1, ht1, hs1⟩
  have F1 := Lib.hid hf1
  have HT1 : Hid (PickAt w.heap.size w1 b 0 0 (.slice none 0 0) []) := Lib.hid ⟨S0, Nob, [], ht1, rfl, by simp, rfl, Nat.le_refl _, ⟨fun k q => ⟨hs1 k q, by obtain ⟨ab, lb, SA, SL, h⟩ := ht1; exact h.lt k q⟩, fun _ q => q.elim, fun _ _ q => q⟩, Sl.nil _ _ _ _⟩
  clear hf1 ht1 hs1
  go_wp2_with fail
  go_loopw [6, 7] (fun v i wr => ∃ (j q : Nat) (A : Option Addr) (cp : Nat) (line : List Int), i = .int .i64 j ∧ v = .slice A q cp ∧ j ≤ n ∧ Fr Nob w wr ∧ PickAt w.heap.size wr b j q (.slice A q cp) line) (fun _ i _ => n - (intOf i).toNat)
  case atStart => exact ⟨0, 0, none, 0, [], rfl, rfl, by omega, F1.out, HT1.out⟩
  case round =>
    obtain ⟨j, q, A, cp, line, rfl, rfl, hj, hfr, hr⟩ := hrel
    have Hfr := Lib.hid hfr; have Hr := Lib.hid hr; clear hfr hr
    by_cases hlt : j < n
    · have hlt' : (j : Int) < n := by omega
      go_wp2_with fail
      obtain ⟨S, T, ts, ht, hnn, hmem, hq, hqj, htw, hs⟩ := Hr.out
      have hni : ((j : Int)) ∉ line := fun q => by have := hmem _ q; omega
      refine (task_start ht 0 (by omega) rg0 j hnn (by omega) hni (by omega)).mono ?_
      rintro e w2 ⟨S2, rfl, hf2, ht2, hs2⟩
      have F2 := Lib.hid (Hfr.out.trans hf2 fun k hk q => by have := (htw.l k q).1; omega)
      have HT2 := Lib.hid ht2
      have Htw2 : Hid (Two w.heap.size w2 S2 T) := Lib.hid ⟨fun k q => ⟨by have := Hfr.out.size; rcases hs2 k q with q | q; exact (htw.l k q).1; omega, by obtain ⟨ab, lb, SA, SL, h⟩ := ht2; exact h.lt k q⟩, fun k q => ⟨(htw.r k q).1, by have := hf2.size; have := (htw.r k q).2; omega⟩, fun k q r => by rcases hs2 k q with q | q; exact htw.dis k q r; have := (htw.r k r).2; omega⟩
      have Hs2 := Lib.hid (hs.fr hf2 fun k q r => htw.dis k r q)
      have Hni := Lib.hid hni; have Hnn := Lib.hid hnn; have Hmem := Lib.hid hmem; have Hq := Lib.hid hq
      have Hi2 : Hid ((ts ++ [(newT 0 rg0, false)])[j]? = some (newT 0 rg0, false)) := Lib.hid (by rw [List.getElem?_append_right (by omega), hnn]; simp)
      have Hlen2 : Hid ((ts ++ [(newT 0 rg0, false)]).length = j + 1) := Lib.hid (by rw [List.length_append, hnn]; rfl)
      have Hmem2 : Hid (∀ x ∈ line ++ [(j : Int)], x < ((j + 1 : Nat) : Int)) := Lib.hid fun x hx => by
        rcases List.mem_append.1 hx with h | h
        · have := hmem x h; omega
        · simp at h; omega
      have Hmem3 : Hid (∀ x ∈ line, x < ((j + 1 : Nat) : Int)) := Lib.hid fun x hx => by have := hmem x hx; omega
      obtain ⟨g, o, rfl, hcell⟩ := Hin.out j hlt
      have hc := F2.out.cell (p := ⟨g, o + j, none⟩) id hcell
      obtain ⟨x, hx⟩ : ∃ x, x = l.getD j 0 := ⟨_, rfl⟩
      rw [← hx] at hc
      have h3 : x % 3 = 0 ∨ x % 3 = 1 ∨ x % 3 = 2 := by omega
      clear hf2 ht2 hs2 ht hnn hmem hq htw hs hni hcell hx Hr
      rcases h3 with h3 | h3 | h3
      · have H3 := Lib.hid h3; clear h3
        go_wp2_with fail
        refine (alike_round w2 x 3 (by omega) (by omega)).mono ?_
        rintro e _ ⟨rfl, rfl⟩
        rw [H3.out]
        clear hc
        go_wp2_with (at_builtin; refine wpList_append1 _ rfl _ _ _ rfl T 3 _ 1 8 Try.underlying22 Try.info_int17 rfl (by omega) (.slice A q cp) q (ints line) [.int .i64 (j : Int)] rfl Hs2.out rfl rfl rfl (by omega) (by omega) ?_; intro v3 w3 hs3 hf3 hz3; obtain ⟨A3, c3, rfl⟩ := hs3.slice; have Hs3 := Lib.hid hs3; have Hf3 := Lib.hid hf3; clear hs3 hf3)
        have hf3 := Hf3.out
        have HP : Hid (PickAt w.heap.size w3 b (j + 1) (q + 1) (.slice A3 (q + 1) c3) (line ++ [(j : Int)])) := Lib.hid ⟨S2, And' T w2 w3, _, by obtain ⟨ab, lb, SA, SL, h⟩ := HT2.out; exact ⟨ab, lb, SA, SL, h.fr hf3 fun k q r => Htw2.out.dis k q r⟩, Hlen2.out, Hmem2.out, by rw [List.length_append, Hq.out]; rfl, by omega, Htw2.out.growR hf3.size F2.out.size, by
          have := Hs3.out.mono (S' := And' T w2 w3) fun k hk q => by rcases q with q | q; exact .inl q; exact .inr ⟨q, hk⟩
          simpa using this⟩
        have F3 := Lib.hid (F2.out.trans hf3 fun k hk q => by have := (Htw2.out.r k q).1; omega)
        clear hf3 HT2 Hs2 Hs3 Hf3
        go_roundw
        case rel => exact ⟨j + 1, q + 1, A3, c3, _, by go_num, rfl, by omega, F3.out, HP.out⟩
        case measure => simp [intOf]; omega
      · have H3 := Lib.hid h3; clear h3
        go_wp2_with fail
        refine (alike_round w2 x 3 (by omega) (by omega)).mono ?_
        rintro e _ ⟨rfl, rfl⟩
        rw [H3.out]
        clear hc
        go_wp2_with fail
        refine (park_ok HT2.out j _ false Hi2.out 11 0 0 0 false rfl (.inr (.inl rfl)) rfl).mono ?_
        rintro e w3 ⟨rfl, hf3, ht3⟩
        rw [erase_snoc _ _ Hni.out] at ht3
        have HP : Hid (PickAt w.heap.size w3 b (j + 1) q (.slice A q cp) line) := Lib.hid ⟨S2, T, _, ht3, by rw [List.length_set]; exact Hlen2.out, Hmem3.out, Hq.out, by omega, Htw2.out.fr hf3, Hs2.out.fr hf3 fun k q r => Htw2.out.dis k r q⟩
        have F3 := Lib.hid (F2.out.trans hf3 fun k hk q => by have := (Htw2.out.l k q).1; omega)
        clear hf3 ht3 HT2 Hs2
        go_wp2_with fail
        go_roundw
        case rel => exact ⟨j + 1, q, A, cp, _, by go_num, rfl, by omega, F3.out, HP.out⟩
        case measure => simp [intOf]; omega
      · have H3 := Lib.hid h3; clear h3
        go_wp2_with fail
        refine (alike_round w2 x 3 (by omega) (by omega)).mono ?_
        rintro e _ ⟨rfl, rfl⟩
        rw [H3.out]
        clear hc
        go_wp2_with fail
        refine (end_ok HT2.out j _ false Hi2.out rfl 1).mono ?_
        rintro e w3 ⟨rfl, hf3, ht3⟩
        rw [erase_snoc _ _ Hni.out] at ht3
        have HP : Hid (PickAt w.heap.size w3 b (j + 1) q (.slice A q cp) line) := Lib.hid ⟨S2, T, _, ht3, by rw [List.length_set]; exact Hlen2.out, Hmem3.out, Hq.out, by omega, Htw2.out.fr hf3, Hs2.out.fr hf3 fun k q r => Htw2.out.dis k r q⟩
        have F3 := Lib.hid (F2.out.trans hf3 fun k hk q => by have := (Htw2.out.l k q).1; omega)
        clear hf3 ht3 HT2 Hs2
        go_wp2_with fail
        go_roundw
        case rel => exact ⟨j + 1, q, A, cp, _, by go_num, rfl, by omega, F3.out, HP.out⟩
        case measure => simp [intOf]; omega
    · have hlt' : ¬ (j : Int) < n := by omega
      obtain rfl : j = n := by omega
      by_cases hq0 : q = 0
      · subst hq0
        obtain rfl : line = [] := by obtain ⟨S, T, ts, ht, hnn, hmem, hq, hqj, htw, hs⟩ := Hr.out; exact List.eq_nil_of_length_eq_zero hq
        go_wp2_with fail
        obtain ⟨S, T, ts, ht, hnn, hmem, hq, hqj, htw, hs⟩ := Hr.out
        refine (task_pick_none ht k).mono ?_
        rintro e w2 ⟨rfl, hf2⟩
        have F2 := Lib.hid (Hfr.out.trans0 hf2)
        have HP2 := Lib.hid (Hr.out.fr0 hf2)
        clear hf2 ht hnn hmem hq hqj htw hs Hr
        go_wp2_with fail
        obtain ⟨S, T, ts, ht, hnn, hmem, hq, hqj, htw, hs⟩ := HP2.out
        refine (task_pick_none ht k).mono ?_
        rintro e w3 ⟨rfl, hf3⟩
        have F3 := Lib.hid (F2.out.trans0 hf3)
        have HP3 := Lib.hid (HP2.out.fr0 hf3)
        clear hf3 ht hnn hmem hq hqj htw hs HP2
        go_wp2_with fail
        obtain ⟨S, T, ts, ht, hnn, hmem, hq, hqj, htw, hs⟩ := HP3.out
        refine (task_ready ht 0 rfl).mono ?_
        rintro e w4 ⟨A4, c4, rfl, hf4, hs4⟩
        have F4 := Lib.hid (F3.out.trans0 hf4)
        have Hs4 := Lib.hid hs4
        have Hv4 := Lib.hid (hs.fr hf4 fun _ _ q => q)
        clear hf4 hs4 ht hnn hmem hq hqj htw hs HP3
        go_wp2_with fail
        refine (alike_ints_n _ _ _ [] 0 rfl Hs4.out.rd Hv4.out.rd).mono ?_
        rintro e w5 ⟨rfl, hq5⟩
        have F5 := Lib.hid (F4.out.trans0 (Fr.ofDrew hq5))
        clear hq5
        go_wp2_with fail
        refine (awake17 w5).mono ?_
        rintro e w6 ⟨rfl, hf6⟩
        go_wp2_with fail
        go_ret
        exact ⟨rfl, F5.out.trans0 hf6⟩
      · have hq1 : 0 < q := by omega
        have hq1' : (0 : Int) < q := by omega
        have hk1 := Int.emod_nonneg k (show (q : Int) ≠ 0 by omega)
        have hk2 := Int.emod_lt_of_pos k (show 0 < (q : Int) by omega)
        obtain ⟨p, hp⟩ := Int.eq_ofNat_of_zero_le hk1
        rw [hp] at hk2
        have hpq : p < q := by omega
        obtain ⟨z, hz⟩ : ∃ z, z = line.getD p 0 := ⟨_, rfl⟩
        have hpk := fun (W : World) (S : Nat → Prop) (ts : List Tk) (h : TableAt W S b ts line) (hl : line.length = q) => task_pick h k q hl hq1
        rw [hp, Int.toNat_natCast, ← hz] at hpk
        have Hpk := Lib.hid hpk; have Hp := Lib.hid hp; have Hz := Lib.hid hz
        clear hpk hp hz hk1 hk2
        go_wp2_with fail
        obtain ⟨S, T, ts, ht, hnn, hmem, hq, hqj, htw, hs⟩ := Hr.out
        refine (Hpk.out _ _ _ ht hq).mono ?_
        rintro e w2 ⟨rfl, hf2⟩
        have F2 := Lib.hid (Hfr.out.trans0 hf2)
        have HP2 := Lib.hid (Hr.out.fr0 hf2)
        clear hf2 ht hnn hmem hq hqj htw hs Hr
        go_wp2_with fail
        obtain ⟨S, T, ts, ht, hnn, hmem, hq, hqj, htw, hs⟩ := HP2.out
        refine (Hpk.out _ _ _ ht hq).mono ?_
        rintro e w3 ⟨rfl, hf3⟩
        have F3 := Lib.hid (F2.out.trans0 hf3)
        have HP3 := Lib.hid (HP2.out.fr0 hf3)
        clear hf3 ht hnn hmem hq hqj htw hs HP2
        obtain ⟨S, T, ts, ht, hnn, hmem, hq, hqj, htw, hs⟩ := HP3.out
        obtain ⟨gw, ow, cw, hv, hTg, hgw, hcw, hcm, hcell, hfz⟩ := hs.form (by omega)
        cases hv
        have hc := hcell p _ (ints_get (by rw [hq]; exact hpq))
        rw [← Hz.out] at hc
        have Hq := Lib.hid hq
        have hq60 : q ≤ 60 := by omega
        clear hcell hfz hTg hgw ht hnn hmem hq hqj htw hs
        go_wp2_with fail
        refine (alike_round w3 k q (by omega) (by omega)).mono ?_
        rintro e _ ⟨rfl, rfl⟩
        rw [Hp.out]
        go_wp2_with fail
        obtain ⟨S, T, ts, ht, hnn, hmem, hq, hqj, htw, hs⟩ := HP3.out
        refine (task_ready ht q hq).mono ?_
        rintro e w4 ⟨A4, c4, rfl, hf4, hs4⟩
        have F4 := Lib.hid (F3.out.trans0 hf4)
        have Hs4 := Lib.hid hs4
        have Hv4 := Lib.hid (hs.fr hf4 fun _ _ q => q)
        clear hf4 hs4 ht hnn hmem hq hqj htw hs HP3 hc
        go_wp2_with fail
        refine (alike_ints_n _ _ _ line q Hq.out Hs4.out.rd Hv4.out.rd).mono ?_
        rintro e w5 ⟨rfl, hq5⟩
        have F5 := Lib.hid (F4.out.trans0 (Fr.ofDrew hq5))
        clear hq5
        go_wp2_with fail
        refine (awake17 w5).mono ?_
        rintro e w6 ⟨rfl, hf6⟩
        go_wp2_with fail
        go_ret
        exact ⟨rfl, F5.out.trans0 hf6⟩
theorem taskPicks_walk (v0 : Value) (l : List Int) (k : Int) (w : World) (h0 : IsInts w v0 l) (w1 : (Lit.int .i64 k).wf = true) :
    Calls Try.prog 5 #[v0, .int .i64 k] w fun e w' => e = .returned (.bool true) ∧ Below w.heap.size w w' := by
  have key : Calls Try.prog 5 #[v0, .int .i64 k] w fun e w' => e = .returned (.bool true) ∧ Fr Nob w w' := by
    by_cases h : l.length ≤ 60
    · exact taskPicks_main w v0 l k _ rfl h h0.1
    · exact taskPicks_long w v0 l k _ rfl h h0.1
  exact key.mono fun e w' ⟨h1, h2⟩ => ⟨h1, h2.below (Nat.le_refl _) fun _ q => q.elim⟩

/-! The row: out of the walk above. -/
namespace taskPicks
open Go.ChangeShapes Go.WideShapes Go.ChangeAt Go.RowKit
open Go.ChangeMaps (open_string shut_string)
theorem own : ownKnob Try.prog.godebug = none := by kernel_rfl
theorem laidOut : laidOutB Try.prog = true := by kernel_rfl
set_option maxRecDepth 100000 in
theorem lifted (os : Os) (started : os.Started) (H : Type) (enc : TypeId × Value → H) :
    ReturnsInHanded {} Try.checked os 5 .any (Rows.taskPicksSpec.pre6 enc Try.prog Try.f5 Rows.taskPicksRow.domain false) (Rows.taskPicksSpec.post enc Try.prog Try.f5 false true false false) := by
  refine returnsInHanded_of_change (C := Try.checked) own started (by kernel_rfl) Try.func5
    (ChangeSpec.witness6 (enc := enc) (C := Try.checked) false ⟨#[], #[.slice none 0 0, .int .i64 0], []⟩ 8 (by kernel_rfl) (by kernel_rfl) (by kernel_rfl) (by kernel_rfl)) ?_
  intro W base args ds gs before hval0 hW hcnd _
  have hval : ∀ (j : Nat) t v, Try.f5.params[j]? = some t → args[j]? = some v → Value.okWide Try.prog W .any base t v := hval0
  have hW' := hW
  obtain ⟨p, q, hA0, hV, rfl, hfz, hnd⟩ := hW
  have hA : DataW.TrodAll enc Try.prog W 0 (fun _ => true) true Try.f5.params.toList args.toList ds p := hA0
  rw [Try.params5] at hA hval
  obtain ⟨v0, vs0, d0, ds0, p0, q0, hargs, rfl, rfl, h0, r0⟩ := trodAll_cons hA
  obtain ⟨v1, vs1, d1, ds1, p1, q1, rfl, rfl, rfl, h1, r1⟩ := trodAll_cons r0
  obtain ⟨rfl, rfl, rfl⟩ := trodAll_nil r1
  obtain rfl : args = #[v0, v1] := by cases args; simp_all
  obtain ⟨rfl, rfl⟩ := trodVars_none hV
  have k0 := h0
  have lt0 : ∀ x ∈ p0, x.block < W.heap.size := by obtain ⟨m, hm⟩ := k0; exact DataW.trod_lt m _ _ _ hm
  obtain ⟨x0, g0⟩ := opn_ints (hval 0 22 v0 rfl rfl) h0
  obtain ⟨a1, rfl, rfl, rfl, w1⟩ := open_int Try.underlying3 (hval 1 3 v1 rfl rfl) h1
  clear hA0 hval0
  refine (taskPicks_walk v0 x0 a1 W g0 w1).mono fun e W' ⟨he, bel⟩ => ?_
  subst he
  exact ⟨_, rfl, _, _, _, [], _, [], hW', trodAll_mk1 (shut_bool Try.underlying4 _), (trodAll_cons_mk (Below.trod laidOut (by kernel_rfl) (of_decide_eq_true (by kernel_rfl)) k0 bel lt0) (trodAll_cons_mk (shut_int Try.underlying3 w1) trodAll_mk0)), rfl, bel.frame _, fun h => by cases h⟩
theorem over : Rows.taskPicksRow.holds Try.pinned (OpenSpec.ofChange Rows.taskPicksSpec) :=
  OpenClaim.holds_of_wide 5 Try.f5 rfl rfl rfl rfl rfl rfl rfl ⟨rfl, rfl, rfl, rfl, rfl⟩ rfl rfl rfl rfl rfl (by kernel_rfl) Try.func5 (by kernel_rfl)
    (of_decide_eq_true (by kernel_rfl)) (by unfold Func.isWrapper; first | (rw [if_pos (by decide +kernel)]; kernel_rfl) | (rw [if_neg (by decide +kernel)]; exact ⟨rfl, rfl⟩))
    (fun os started H enc _ => lifted os started H enc)
end taskPicks
/-- THE STATEMENT. -/
theorem taskPicks_holds : Rows.TaskPicksSaid := taskPicks.over
#print axioms taskPicks_holds
end Go.Proofs.Yteabiaoklpfbdaa
