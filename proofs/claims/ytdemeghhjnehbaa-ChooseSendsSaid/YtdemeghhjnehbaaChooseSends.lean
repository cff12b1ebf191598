/- A case that sends on a closed channel is ready, and panics when it is drawn; one that receives of it tells that it is closed, for all that the statement draws. -/
import Derived.Test.YtdemeghhjnehbaaChooseLaw
set_option linter.unusedVariables false
set_option linter.unusedSimpArgs false
namespace Go.Proofs.Ytdemeghhjnehbaa
open Go.RowKit
set_option maxRecDepth 100000
abbrev chShut : ChS := ⟨0, [], [], [], false, false, true⟩
def sdC (h : Nat → Bool) (k : Nat) : List Cs := (List.range k).map fun i => (some 0, h i, 3)
theorem sdC_succ (h : Nat → Bool) (k : Nat) : sdC h (k + 1) = sdC h k ++ [(some 0, h k, 3)] := by simp [sdC, List.range_succ]
theorem sdC_get (h : Nat → Bool) (n k : Nat) (hk : k < n) : (sdC h n)[k]? = some (some 0, h k, 3) := by simp [sdC, hk]
theorem sdC_in (h : Nat → Bool) (n : Nat) (x : Cs) (hx : x ∈ sdC h n) : ∃ s, x = (some 0, s, 3) := by
  simp only [sdC, List.mem_map] at hx
  obtain ⟨i, _, rfl⟩ := hx
  exact ⟨_, rfl⟩
set_option maxHeartbeats 4000000 in
theorem sends_main (w : World) (v : Value) (l : List Bool) (n : Nat) (hn : l.length = n) (h1 : 1 ≤ n) (h16 : n ≤ 16) (hrd : Rd w 1 v n (bools l)) (dr : Int) :
    Calls Try.prog 7 #[v, .int .i64 dr] w fun e w' => e = .returned (.bool true) ∧ Fr Nob w w' := by
  obtain ⟨A0, c0, rfl, hc1, hc2, hA0⟩ := bools_in hn hrd
  have Haw := Lib.hid (fun W => awake10 W)
  have Hnew := Lib.hid (fun W => chan_new W 0 (by omega))
  have hlo := Int.emod_nonneg dr (show (n : Int) ≠ 0 by omega)
  have hhi := Int.emod_lt_of_pos dr (show (0 : Int) < n by omega)
  obtain ⟨j, hj⟩ := Int.eq_ofNat_of_zero_le hlo
  have hjn : j < n := by omega
  have hrnd := fun W => alike_round W dr n (by omega) (by omega)
  rw [hj] at hrnd
  have HA0 := Lib.hid hA0; have Hrnd := Lib.hid hrnd; have Hj := Lib.hid hj
  have d1 : decide ((n : Int) < 1) = false := decide_eq_false (by omega)
  have d2 : decide ((16 : Int) < n) = false := decide_eq_false (by omega)
  have d1' : ¬ (n : Int) < 1 := by omega
  have d2' : ¬ (16 : Int) < n := by omega
  generalize hh : (fun k => l.getD k false) = h at *
  have hg : ∀ k, l.getD k false = h k := fun k => by rw [← hh]
  simp only [hg] at HA0
  clear hA0 hrnd hj hlo hhi hrd hn hh hg
  unfold maxLen at hc2
  go_enter Try.func7, Try.ntmps7
  go_wp2_with fail
  refine (Hnew.out _).mono ?_
  intro e w1 hnew
  obtain ⟨b, S, rfl, hmk⟩ := Mk.first hnew
  have Hmk := Lib.hid hmk
  clear hnew hmk
  go_wp2_with fail
  refine (pool_close Hmk.out.pool 0 (P1_0 _) [] 0 0 (c' := chShut) rfl rfl rfl).mono ?_
  rintro e w2 ⟨A2, cp2, rfl, hf, hp⟩
  rw [P1_upd] at hp
  have Hm0 : Hid (Mk w w2 S Nob Nob (fun _ => b) (P1 chShut) (.slice none 0 0) 0 (sdC h 0) (.slice none 0 0) 0 []) := Lib.hid (Hmk.out.turn hf hp)
  clear hf hp Hmk
  go_wp2_with fail
  go_loopw [9, 10] (fun v9 i wr => ∃ (k : Nat) (A : Option Addr) (c : Nat) (T : Nat → Prop), i = .int .i64 k ∧ k ≤ n ∧ v9 = .slice A k c ∧ Hid (Mk w wr S T Nob (fun _ => b) (P1 chShut) (.slice A k c) k (sdC h k) (.slice none 0 0) 0 [])) (fun _ i _ => n - (intOf i).toNat)
  case atStart => exact ⟨0, none, 0, Nob, rfl, Nat.zero_le _, rfl, Hm0⟩
  case round =>
    obtain ⟨wo, rfl⟩ : ∃ wo : World, wo = wr := ⟨_, rfl⟩
    obtain ⟨k, A, c, T, rfl, hk, rfl, Hm⟩ := hrel
    by_cases hlt : k < n
    · obtain ⟨g, o, rfl, e0⟩ := HA0.out k hlt
      have f0 := Hm.out.fr.cell id e0
      have hki : (k : Int) < n := by omega
      have hgl : Hid (∀ q, T q → q < wo.heap.size) := Lib.hid fun q a => (Hm.out.t q a).2
      generalize hhk : h k = hb at *
      clear e0
      go_wp2_with (at_builtin; (refine wpList_append1 _ rfl _ _ _ rfl T 29 _ 3 24 Try.underlying23 info_case rfl (by omega) (.slice A k c) k (css (fun _ => b) (sdC h k)) [.pointer (some ⟨b, 0, none⟩), .bool hb, .int .i64 3] rfl Hm.out.sl rfl rfl rfl (by omega) (by omega) ?_; intro v5 w5 hs5 hf5 hz5))
      obtain ⟨A5, c5, rfl⟩ := hs5.slice
      have Hm5 : Hid (Mk w w5 S (And' T wo w5) Nob (fun _ => b) (P1 chShut) (.slice A5 (k + 1) c5) (k + 1) (sdC h (k + 1)) (.slice none 0 0) 0 []) := Lib.hid (by
        rw [sdC_succ, hhk]
        exact Hm.out.appL (x := (some 0, hb, 3)) hf5 hs5)
      clear hs5 hf5 hz5 f0 hhk
      go_wp2_with fail
      go_roundw
      case rel => exact ⟨k + 1, A5, c5, _, by go_num, by omega, rfl, Hm5⟩
      case measure => simp [intOf]; omega
    · obtain rfl : k = n := by omega
      have hdo : Calls Try.prog 11 #[.slice A k c, .bool false, .int .i64 dr, .int .i64 1] wo (DoP wo (fun _ => S) (fun _ => S) (fun _ => b) (upd (P1 chShut) 0 (some chShut)) j 0 false (h j) false false [] 0 0) := by
        refine do_ready Hm.out.pool (fun q a => (Hm.out.s q a).2) _ (sdC h k) k (by simp [sdC]) Hm.out.sl.rd ?_ ?_ (fun _ => true) ?_ h16 false dr 1 (by omega) k j j 0 (some 0, h j, 3) (c := chShut) ?_ (by omega) Hj.out hjn ?_ hjn (sdC_get h k j hjn) rfl (P1_0 _) 0 false (h j) [] 0 ?_ ?_ rfl
        · intro x hx
          obtain ⟨s, rfl⟩ := sdC_in h k x hx
          intro i hi; cases hi; exact ⟨_, P1_0 _⟩
        · intro x hx
          obtain ⟨s, rfl⟩ := sdC_in h k x hx
          simp [muteC, P1_0, ChS.mute]
        · intro q x hx
          obtain ⟨s, rfl⟩ := sdC_in h k x (List.mem_of_getElem? hx)
          simp [canC, P1_0, ChS.canR, ChS.mute]
        · rw [rdy_all fun _ _ => rfl]; simp
        · rw [rdy_all fun _ _ => rfl]; simp [hjn]
        · unfold oneR; cases h j <;> rfl
        · unfold oneS; cases h j <;> rfl
      rw [P1_upd] at hdo
      have Hdo := Lib.hid hdo
      clear hdo
      have hwz : Hid True := Lib.hid trivial
      go_wp2_with fail
      refine Hdo.out.mono ?_
      rintro e w3 ⟨A3, cp3, rfl, hf3, hp3, hs3⟩
      have Hm3 := Lib.hid (Hm.out.turn hf3 hp3)
      clear hf3 hp3 hs3 Hdo
      go_wp2_with fail
      obtain ⟨w4, hw4⟩ : ∃ w4, w4 = w3.alloc (resO (j : Int) 0 false (h j) false false) := ⟨_, rfl⟩
      rw [← hw4]
      have hf4 : Fr Nob w3 w4 := by rw [hw4]; exact (Fr.refl Nob w3).alloc _
      have hb4 : w4.heap[w3.heap.size]? = some (resO (j : Int) 0 false (h j) false false) := by rw [hw4]; exact heap_alloc_new _ _
      have Hm4 := Lib.hid (Hm3.out.fr0 hf4)
      obtain ⟨rb, hrb⟩ : ∃ rb, rb = w3.heap.size := ⟨_, rfl⟩
      rw [← hrb] at hb4 ⊢
      have Hb4 := Lib.hid hb4
      clear hw4 hf4 hb4 Hm3 hrb
      refine (Hrnd.out w4).mono ?_
      rintro e _ ⟨rfl, rfl⟩
      obtain ⟨g, o, rfl, e0⟩ := HA0.out j hjn
      have hji : (j : Int) < k := by omega
      have key : ∀ W, Fr Nob w4 W → Fr Nob w4 W ∧ W.cell? ⟨rb, 0, none⟩ = some (.int .i64 (j : Int)) ∧ W.cell? ⟨rb, 1, none⟩ = some (.int .i64 0) ∧ W.cell? ⟨rb, 2, none⟩ = some (.bool false) ∧ W.cell? ⟨rb, 3, none⟩ = some (.bool (h j)) ∧ W.cell? ⟨rb, 4, none⟩ = some (.bool false) ∧ W.cell? ⟨rb, 5, none⟩ = some (.bool false) ∧ W.cell? ⟨g, o + j, none⟩ = some (.bool (h j)) := fun W hW => by
        have hb := hW.blk id Hb4.out
        exact ⟨hW, blk_cell hb 0 rfl, blk_cell hb 1 rfl, blk_cell hb 2 rfl, blk_cell hb 3 rfl, blk_cell hb 4 rfl, blk_cell hb 5 rfl, (Hm4.out.fr.trans0 hW).cell id e0⟩
      have Key := Lib.hid key
      have hrdy : ∀ W, Fr Nob w4 W → Calls Try.prog 15 #[.slice A k c] W fun e w' => ∃ (A' : Option Addr) (cp : Nat), e = .returned (.slice A' k cp) ∧ Fr Nob W w' := fun W hW => by
        have hm := Hm4.out.fr0 hW
        refine (choose_ready hm.pool _ (sdC h k) k (by simp [sdC]) hm.sl.rd ?_ (fun _ => true) ?_ (by omega) k ?_).mono ?_
        · intro x hx
          obtain ⟨s, rfl⟩ := sdC_in h k x hx
          intro i hi; cases hi; exact ⟨_, P1_0 _⟩
        · intro q x hx
          obtain ⟨s, rfl⟩ := sdC_in h k x (List.mem_of_getElem? hx)
          simp [canC, P1_0, ChS.canR, ChS.mute]
        · rw [rdy_all fun _ _ => rfl]; simp
        · rintro e w' ⟨A', cp, rfl, hf, _⟩
          exact ⟨A', cp, rfl, hf⟩
      have Hrdy := Lib.hid hrdy
      clear key hrdy e0
      generalize h j = hb at *
      have hf4 : Fr Nob w4 w4 := Fr.refl _ _
      go_wp2_with fail
      go_region_held3 (fun W => Fr Nob w4 W ∧ W.cell? ⟨rb, 0, none⟩ = some (.int .i64 (j : Int)) ∧ W.cell? ⟨rb, 1, none⟩ = some (.int .i64 0) ∧ W.cell? ⟨rb, 2, none⟩ = some (.bool false) ∧ W.cell? ⟨rb, 3, none⟩ = some (.bool hb) ∧ W.cell? ⟨rb, 4, none⟩ = some (.bool false) ∧ W.cell? ⟨rb, 5, none⟩ = some (.bool false) ∧ W.cell? ⟨g, o + j, none⟩ = some (.bool hb))
        ((refine Key.out _ ?_; first | with_reducible exact hf6 | with_reducible exact hf5 | with_reducible exact hf4 | assumption | exact Fr.drew (by assumption)))
        ((first | (go_at_call 15; refine (Hrdy.out _ (by first | assumption | exact Fr.drew (by assumption))).mono ?_; rintro e w5 ⟨A5, c5, rfl, hf⟩; have hf5 : Fr Nob w4 w5 := Fr.trans0 (by first | assumption | exact Fr.drew (by assumption)) hf; clear hf) | (go_at_call 9; refine (Haw.out _).mono ?_; rintro e w6 ⟨rfl, hf⟩; have hf6 : Fr Nob w4 w6 := Fr.trans0 (by first | assumption | exact Fr.drew (by assumption)) hf; clear hf)))
      all_goals (
        have F6 := Lib.hid (Hm4.out.fr.trans0 hf6)
        go_wp2_with fail
        go_ret
        exact ⟨rfl, F6.out⟩)

theorem sends_bad (w : World) (v : Value) (l : List Bool) (n : Nat) (hn : l.length = n) (hb : n < 1 ∨ 16 < n) (hrd : Rd w 1 v n (bools l)) (dr : Int) :
    Calls Try.prog 7 #[v, .int .i64 dr] w fun e w' => e = .returned (.bool true) ∧ Fr Nob w w' := by
  obtain ⟨A0, c0, rfl, hc1, hc2, _⟩ := bools_in hn hrd
  have Haw := Lib.hid (fun W => awake10 W)
  unfold maxLen at hc2
  clear hrd hn
  by_cases h1 : n < 1
  · have d1 : decide ((n : Int) < 1) = true := decide_eq_true (by omega)
    have d1' : (n : Int) < 1 := by omega
    clear hb h1
    go_enter Try.func7, Try.ntmps7
    go_wp2_with fail
    refine (Haw.out _).mono ?_
    rintro e w2 ⟨rfl, hf2⟩
    have F2 := Lib.hid hf2
    clear hf2
    go_wp2_with fail
    go_ret
    exact ⟨rfl, F2.out⟩
  · have d1 : decide ((n : Int) < 1) = false := decide_eq_false (by omega)
    have d2 : decide ((16 : Int) < n) = true := decide_eq_true (by omega)
    have d1' : ¬ (n : Int) < 1 := by omega
    have d2' : (16 : Int) < n := by omega
    clear hb h1
    go_enter Try.func7, Try.ntmps7
    go_wp2_with fail
    refine (Haw.out _).mono ?_
    rintro e w2 ⟨rfl, hf2⟩
    have F2 := Lib.hid hf2
    clear hf2
    go_wp2_with fail
    go_ret
    exact ⟨rfl, F2.out⟩

theorem chooseSends_walk (v : Value) (l : List Bool) (dr : Int) (w : World) (h0 : IsBools w v l) (w1 : (Lit.int .i64 dr).wf = true) :
    Calls Try.prog 7 #[v, .int .i64 dr] w fun e w' => e = .returned (.bool true) ∧ Below w.heap.size w w' := by
  have key : Calls Try.prog 7 #[v, .int .i64 dr] w fun e w' => e = .returned (.bool true) ∧ Fr Nob w w' := by
    by_cases h : l.length < 1 ∨ 16 < l.length
    · exact sends_bad w v l _ rfl h h0 dr
    · exact sends_main w v l _ rfl (by omega) (by omega) h0 dr
  exact key.mono fun e w' ⟨h1, h2⟩ => ⟨h1, h2.below (Nat.le_refl _) fun _ q => q.elim⟩

/-! The row: out of the walk above. -/
namespace chooseSends
open Go.ChangeShapes Go.WideShapes Go.ChangeAt Go.RowKit
open Go.ChangeMaps (open_string shut_string)
theorem own : ownKnob Try.prog.godebug = none := by kernel_rfl
theorem laidOut : laidOutB Try.prog = true := by kernel_rfl
set_option maxRecDepth 100000 in
theorem lifted (os : Os) (started : os.Started) (H : Type) (enc : TypeId × Value → H) :
    ReturnsInHanded {} Try.checked os 7 .any (Rows.chooseSendsSpec.pre6 enc Try.prog Try.f7 Rows.chooseSendsRow.domain false) (Rows.chooseSendsSpec.post enc Try.prog Try.f7 false true false false) := by
  refine returnsInHanded_of_change (C := Try.checked) own started (by kernel_rfl) Try.func7
    (ChangeSpec.witness6 (enc := enc) (C := Try.checked) false ⟨#[], #[.slice none 0 0, .int .i64 0], []⟩ 8 (by kernel_rfl) (by kernel_rfl) (by kernel_rfl) (by kernel_rfl)) ?_
  intro W base args ds gs before hval0 hW hcnd _
  have hval : ∀ (j : Nat) t v, Try.f7.params[j]? = some t → args[j]? = some v → Value.okWide Try.prog W .any base t v := hval0
  have hW' := hW
  obtain ⟨p, q, hA0, hV, rfl, hfz, hnd⟩ := hW
  have hA : DataW.TrodAll enc Try.prog W 0 (fun _ => true) true Try.f7.params.toList args.toList ds p := hA0
  rw [Try.params7] at hA hval
  obtain ⟨v0, vs0, d0, ds0, p0, q0, hargs, rfl, rfl, h0, r0⟩ := trodAll_cons hA
  obtain ⟨v1, vs1, d1, ds1, p1, q1, rfl, rfl, rfl, h1, r1⟩ := trodAll_cons r0
  obtain ⟨rfl, rfl, rfl⟩ := trodAll_nil r1
  obtain rfl : args = #[v0, v1] := by cases args; simp_all
  obtain ⟨rfl, rfl⟩ := trodVars_none hV
  have k0 := h0
  have lt0 : ∀ x ∈ p0, x.block < W.heap.size := by obtain ⟨m, hm⟩ := k0; exact DataW.trod_lt m _ _ _ hm
  obtain ⟨x0, g0⟩ := opn_bools (hval 0 45 v0 rfl rfl) h0
  obtain ⟨a1, rfl, rfl, rfl, w1⟩ := open_int Try.underlying3 (hval 1 3 v1 rfl rfl) h1
  clear hA0 hval0
  refine (chooseSends_walk v0 x0 a1 W g0 w1).mono fun e W' ⟨he, bel⟩ => ?_
  subst he
  exact ⟨_, rfl, _, _, _, [], _, [], hW', trodAll_mk1 (shut_bool Try.underlying4 _), (trodAll_cons_mk (Below.trod laidOut (by kernel_rfl) (of_decide_eq_true (by kernel_rfl)) k0 bel lt0) (trodAll_cons_mk (shut_int Try.underlying3 w1) trodAll_mk0)), rfl, bel.frame _, fun h => by cases h⟩
theorem over : Rows.chooseSendsRow.holds Try.pinned (OpenSpec.ofChange Rows.chooseSendsSpec) :=
  OpenClaim.holds_of_wide 7 Try.f7 rfl rfl rfl rfl rfl rfl rfl ⟨rfl, rfl, rfl, rfl, rfl⟩ rfl rfl rfl rfl rfl (by kernel_rfl) Try.func7 (by kernel_rfl)
    (of_decide_eq_true (by kernel_rfl)) (by unfold Func.isWrapper; first | (rw [if_pos (by decide +kernel)]; kernel_rfl) | (rw [if_neg (by decide +kernel)]; exact ⟨rfl, rfl⟩))
    (fun os started H enc _ => lifted os started H enc)
end chooseSends
/-- THE STATEMENT. -/
theorem chooseSends_holds : Rows.ChooseSendsSaid := chooseSends.over
#print axioms chooseSends_holds
end Go.Proofs.Ytdemeghhjnehbaa
