/- Without room a value goes from hand to hand, with room it stays until it is asked for, for all numbers that the statement draws. -/
import Derived.Test.YtfpcnagimjmkpaaChanLaw
import Derived.Test.YtfpcnagimjmkpaaOpen
set_option linter.unusedVariables false
set_option linter.unusedSimpArgs false
namespace Go.Proofs.Ytfpcnagimjmkpaa
open Go.RowKit
set_option maxRecDepth 100000
abbrev handW (k : Nat) : Wt := ((k : Int), 2, 0)
def hndW (room i : Nat) : ChS := ⟨room, [], (List.range i).map handW, [], false, false, false⟩
def hndS (room waits i : Nat) : ChS := ⟨room, (List.range (min (i - waits) room)).map (fun k : Nat => (40 : Int) + (waits : Int) + (k : Int)), ((List.range waits).drop i).map handW, [], false, false, false⟩
theorem hnd_waitR (room i : Nat) : (hndW room i).waitR (handW i) false = 0 := by simp [ChS.waitR, ChS.mute, ChS.free, ChS.queue, hndW]
theorem hnd_waitS (room i : Nat) : (hndW room i).waitS (handW i) false = hndW room (i + 1) := by
  unfold ChS.waitS; rw [hnd_waitR, if_pos rfl]; simp [hndW, List.range_succ]
theorem hnd_start (room waits : Nat) : hndW room waits = hndS room waits 0 := by simp [hndW, hndS]
theorem drop_range (n i : Nat) (h : i < n) : (List.range n).drop i = i :: (List.range n).drop (i + 1) := by
  rw [List.drop_eq_getElem_cons (by simpa using h)]; simp
theorem hnd_sendR1 (room waits i : Nat) (h : i < waits) : (hndS room waits i).sendR (40 + (i : Int)) = (true, [((i : Int), (2 : Int), (40 : Int) + (i : Int), true, false)], 0) := by
  simp [ChS.sendR, ChS.mute, hndS, drop_range waits i h]
theorem hnd_sendS1 (room waits i : Nat) (h : i < waits) : (hndS room waits i).sendS (40 + (i : Int)) = hndS room waits (i + 1) := by
  have h1 : i - waits = 0 := by omega
  have h2 : i + 1 - waits = 0 := by omega
  simp [ChS.sendS, ChS.mute, hndS, drop_range waits i h, h1, h2]
theorem hnd_sendR2 (room waits i : Nat) (h : ¬ i < waits) : (hndS room waits i).sendR (40 + (i : Int)) = (decide (i < waits + room), [], 0) := by
  have h1 : (List.range waits).drop i = [] := List.drop_eq_nil_of_le (by simpa using h)
  have h2 : min (i - waits) room < room ↔ i < waits + room := by omega
  simp [ChS.sendR, ChS.mute, hndS, h1, h2]
theorem hnd_sendS2 (room waits i : Nat) (h : ¬ i < waits) : (hndS room waits i).sendS (40 + (i : Int)) = hndS room waits (i + 1) := by
  have h1 : (List.range waits).drop i = [] := List.drop_eq_nil_of_le (by simpa using h)
  have h1' : (List.range waits).drop (i + 1) = [] := List.drop_eq_nil_of_le (by simp; omega)
  by_cases h2 : i < waits + room
  · have h3 : min (i - waits) room = i - waits := by omega
    have h4 : min (i + 1 - waits) room = i - waits + 1 := by omega
    have h5 : i - waits < room := by omega
    have h6 : (40 : Int) + waits + ((i - waits : Nat) : Int) = 40 + i := by omega
    simp [ChS.sendS, ChS.mute, hndS, h1, h1', h3, h4, h5, List.range_succ, h6]
  · have h3 : min (i - waits) room = room := by omega
    have h4 : min (i + 1 - waits) room = room := by omega
    simp [ChS.sendS, ChS.mute, hndS, h1, h1', h3, h4]
theorem hnd_len (room waits i : Nat) : (hndS room waits i).lenR = min (i - waits) room := by simp [ChS.lenR, hndS]
theorem hnd_left (room waits i : Nat) : ((hndS room waits i).queue false).length = waits - i := by simp [ChS.queue, hndS]
set_option maxHeartbeats 4000000 in
theorem hands_main (w : World) (room waits sends : Nat) (h1 : room ≤ 10) (h2 : waits ≤ 10) (h3 : sends ≤ 30) :
    Calls Try.prog 5 #[.int .i64 room, .int .i64 waits, .int .i64 sends] w fun e w' => e = .returned (.bool true) ∧ Fr Nob w w' := by
  have Haw := Lib.hid (fun W => awake9 W)
  have Hnew := Lib.hid (fun W => chan_new W room (by omega))
  have d1 : decide ((room : Int) < 0) = false := decide_eq_false (by omega)
  have d2 : decide ((10 : Int) < room) = false := decide_eq_false (by omega)
  have d2' : decide (10 < room) = false := decide_eq_false (by omega)
  have d3 : decide ((waits : Int) < 0) = false := decide_eq_false (by omega)
  have d4 : decide ((10 : Int) < waits) = false := decide_eq_false (by omega)
  have d4' : decide (10 < waits) = false := decide_eq_false (by omega)
  have d5 : decide ((sends : Int) < 0) = false := decide_eq_false (by omega)
  have d6 : decide ((30 : Int) < sends) = false := decide_eq_false (by omega)
  have d6' : decide (30 < sends) = false := decide_eq_false (by omega)
  go_enter Try.func5, Try.ntmps5
  go_wp2_with fail
  refine (Hnew.out _).mono ?_
  intro e w1 hnew
  obtain ⟨b, rfl, hone⟩ := One.ofNew hnew
  have Hone : Hid (One w w1 b (hndW room 0)) := Lib.hid hone
  clear hnew hone
  go_wp2_with fail
  go_loopw [9] (fun vi wr => ∃ i : Nat, vi = .int .i64 i ∧ i ≤ waits ∧ Hid (One w wr b (hndW room i))) (fun vi _ => waits - (intOf vi).toNat)
  case atStart => exact ⟨0, rfl, Nat.zero_le _, Hone⟩
  case round =>
    obtain ⟨i, rfl, hi, H1⟩ := hrel
    by_cases hlt : i < waits
    · have l1 : decide ((i : Int) < waits) = true := decide_eq_true (by omega)
      have l2 : decide (i < waits) = true := decide_eq_true hlt
      have hc := H1.out.wait (handW i) false 0 _ (hnd_waitR room i) (hnd_waitS room i) ⟨by simp [hndW]; omega, by simp [hndW]⟩
      have Hc := Lib.hid hc
      clear hc H1 Hone
      go_wp2_with fail
      refine Hc.out.mono ?_
      rintro e w2 ⟨rfl, hone⟩
      have H2 := Lib.hid hone
      clear hone
      go_wp2_with fail
      go_roundw
      case rel => exact ⟨i + 1, by go_num, by omega, H2⟩
      case measure => simp [intOf]; omega
    · have hiw : i = waits := by omega
      subst hiw
      have H2 : Hid (One w wr b (hndS room i 0)) := Lib.hid (by have := H1.out; rwa [hnd_start] at this)
      clear H1 Hone
      obtain ⟨wa, rfl⟩ : ∃ wa : World, wa = wr := ⟨_, rfl⟩
      go_wp2_with fail
      go_loopw [10] (fun vj wr => ∃ j : Nat, vj = .int .i64 j ∧ j ≤ sends ∧ Hid (One w wr b (hndS room i j))) (fun vj _ => sends - (intOf vj).toNat)
      case atStart => exact ⟨0, rfl, Nat.zero_le _, H2⟩
      case round =>
        obtain ⟨j, rfl, hj, H3⟩ := hrel
        by_cases hlt2 : j < sends
        · have l1 : decide ((j : Int) < sends) = true := decide_eq_true (by omega)
          have l2 : decide (j < sends) = true := decide_eq_true hlt2
          by_cases hjw : j < i
          · have l3 : decide ((j : Int) < i) = true := decide_eq_true (by omega)
            have l4 : decide (j < i) = true := decide_eq_true hjw
            have Hc := Lib.hid (H3.out.send (40 + j) true _ 1 0 _ (hnd_sendR1 room i j hjw) (hnd_sendS1 room i j hjw) rfl)
            clear H3 H2
            go_wp2_with fail
            refine Hc.out.mono ?_
            rintro e w2 ⟨A, cp, rfl, hone, hrd⟩
            obtain ⟨g, o, rfl, hcp, hk⟩ := rd_one hrd
            obtain ⟨c0, c1, c2, c3, c4⟩ := hk
            have H4 := Lib.hid hone
            clear hone hrd
            dsimp only at c0 c1 c2 c3 c4
            go_wp2_with fail
            go_roundw
            case rel => exact ⟨j + 1, by go_num, by omega, H4⟩
            case measure => simp [intOf]; omega
          · have l3 : decide ((j : Int) < i) = false := decide_eq_false (by omega)
            have l4 : decide (j < i) = false := decide_eq_false hjw
            have Hc := Lib.hid (H3.out.send (40 + j) _ _ 0 0 _ (hnd_sendR2 room i j hjw) (hnd_sendS2 room i j hjw) rfl)
            have l5 : decide ((j : Int) < (i : Int) + room) = decide (j < i + room) := by
              by_cases h : j < i + room
              · rw [decide_eq_true h]; exact decide_eq_true (by omega)
              · rw [decide_eq_false h]; exact decide_eq_false (by omega)
            generalize decide (j < i + room) = bb at *
            clear H3 H2
            go_wp2_with fail
            refine Hc.out.mono ?_
            rintro e w2 ⟨A, cp, rfl, hone, _⟩
            have H4 := Lib.hid hone
            clear hone
            go_wp2_with fail
            go_roundw
            case rel => exact ⟨j + 1, by go_num, by omega, H4⟩
            case measure => simp [intOf]; omega
        · have hjs : j = sends := by omega
          subst hjs
          have l1 : decide ((j : Int) < j) = false := decide_eq_false (by omega)
          have Hl := Lib.hid (H3.out.len _ (hnd_len room i j))
          have Hw := Lib.hid (H3.out.waiting false _ (hnd_left room i j))
          clear H3 H2
          obtain ⟨m, hm⟩ : ∃ m, m = min (j - i) room := ⟨_, rfl⟩
          obtain ⟨n, hn⟩ : ∃ n, n = i - j := ⟨_, rfl⟩
          rw [← hm] at Hl
          rw [← hn] at Hw
          have key : ∀ K : Prop, ((m : Int) = (j : Int) - i → ((m : Int) == (j : Int) - i) = true → K) → ((m : Int) ≠ (j : Int) - i → ((m : Int) == (j : Int) - i) = false → K) → K := fun K a b => by
            by_cases h : (m : Int) = (j : Int) - i
            · exact a h (beq_iff_eq.2 h)
            · exact b h (beq_eq_false_iff_ne.2 h)
          have key2 : ∀ K : Prop, (m = room → ((m : Int) == (room : Int)) = true → (m == room) = true → K) → (m ≠ room → ((m : Int) == (room : Int)) = false → (m == room) = false → K) → K := fun K a b => by
            by_cases h : m = room
            · exact a h (beq_iff_eq.2 (by omega)) (beq_iff_eq.2 h)
            · exact b h (beq_eq_false_iff_ne.2 (by omega)) (beq_eq_false_iff_ne.2 h)
          have key3 : ∀ K : Prop, (m = 0 → ((m : Int) == 0) = true → (m == 0) = true → K) → (m ≠ 0 → ((m : Int) == 0) = false → (m == 0) = false → K) → K := fun K a b => by
            by_cases h : m = 0
            · exact a h (beq_iff_eq.2 (by omega)) (beq_iff_eq.2 h)
            · exact b h (beq_eq_false_iff_ne.2 (by omega)) (beq_eq_false_iff_ne.2 h)
          have key4 : ∀ K : Prop, (n = i - j → j ≤ i → ((n : Int) == (i : Int) - j) = true → K) → (n = 0 → i < j → ((n : Int) == 0) = true → (n == 0) = true → K) → K := fun K a b => by
            by_cases h : j ≤ i
            · exact a hn h (beq_iff_eq.2 (by omega))
            · exact b (by omega) (by omega) (beq_iff_eq.2 (by omega)) (beq_iff_eq.2 (by omega))
          refine key _ ?_ ?_ <;> intro k1 k2 <;> refine key2 _ ?_ ?_ <;> intro k3 k4 k5 <;> refine key3 _ ?_ ?_ <;> intro k6 k7 k8 <;> try (exfalso; omega)
          all_goals (clear key key2 key3; refine key4 _ ?_ ?_) <;> intros <;> clear key4 <;> try (exfalso; omega)
          all_goals go_wp2_with fail
          all_goals try (exfalso; omega)
          all_goals (refine Hl.out.mono ?_; rintro e _ ⟨rfl, rfl⟩)
          all_goals go_wp2_with fail
          all_goals try (exfalso; omega)
          all_goals (refine Hw.out.mono ?_; rintro e w2 ⟨A, cp, rfl, hone⟩; have H4 := Lib.hid hone; clear hone)
          all_goals go_wp2_with fail
          all_goals try (exfalso; omega)
          all_goals (refine (Haw.out _).mono ?_; rintro e w3 ⟨rfl, hf3⟩; have F3 := Lib.hid (H4.out.fr.trans0 hf3); clear hf3)
          all_goals go_wp2_with fail
          all_goals go_ret
          all_goals exact ⟨rfl, F3.out⟩
theorem hands_bad (w : World) (a0 a1 a2 : Int) (h : a0 < 0 ∨ 10 < a0 ∨ a1 < 0 ∨ 10 < a1 ∨ a2 < 0 ∨ 30 < a2) :
    Calls Try.prog 5 #[.int .i64 a0, .int .i64 a1, .int .i64 a2] w fun e w' => e = .returned (.bool true) ∧ Fr Nob w w' := by
  have Haw := Lib.hid (fun W => awake9 W)
  by_cases h0 : a0 < 0
  · have d0 : decide (a0 < 0) = true := decide_eq_true h0
    clear h h0
    go_enter Try.func5, Try.ntmps5
    go_wp2_with fail
    refine (Haw.out _).mono ?_
    rintro e w2 ⟨rfl, hf2⟩
    have F2 := Lib.hid (hf2)
    clear hf2
    go_wp2_with fail
    go_ret
    exact ⟨rfl, F2.out⟩
  · have d0 : decide (a0 < 0) = false := decide_eq_false h0
    by_cases h1 : 10 < a0
    · have d1 : decide (10 < a0) = true := decide_eq_true h1
      clear h h0 h1
      go_enter Try.func5, Try.ntmps5
      go_wp2_with fail
      refine (Haw.out _).mono ?_
      rintro e w2 ⟨rfl, hf2⟩
      have F2 := Lib.hid (hf2)
      clear hf2
      go_wp2_with fail
      go_ret
      exact ⟨rfl, F2.out⟩
    · have d1 : decide (10 < a0) = false := decide_eq_false h1
      by_cases h2 : a1 < 0
      · have d2 : decide (a1 < 0) = true := decide_eq_true h2
        clear h h0 h1 h2
        go_enter Try.func5, Try.ntmps5
        go_wp2_with fail
        refine (Haw.out _).mono ?_
        rintro e w2 ⟨rfl, hf2⟩
        have F2 := Lib.hid (hf2)
        clear hf2
        go_wp2_with fail
        go_ret
        exact ⟨rfl, F2.out⟩
      · have d2 : decide (a1 < 0) = false := decide_eq_false h2
        by_cases h3 : 10 < a1
        · have d3 : decide (10 < a1) = true := decide_eq_true h3
          clear h h0 h1 h2 h3
          go_enter Try.func5, Try.ntmps5
          go_wp2_with fail
          refine (Haw.out _).mono ?_
          rintro e w2 ⟨rfl, hf2⟩
          have F2 := Lib.hid (hf2)
          clear hf2
          go_wp2_with fail
          go_ret
          exact ⟨rfl, F2.out⟩
        · have d3 : decide (10 < a1) = false := decide_eq_false h3
          by_cases h4 : a2 < 0
          · have d4 : decide (a2 < 0) = true := decide_eq_true h4
            clear h h0 h1 h2 h3 h4
            go_enter Try.func5, Try.ntmps5
            go_wp2_with fail
            refine (Haw.out _).mono ?_
            rintro e w2 ⟨rfl, hf2⟩
            have F2 := Lib.hid (hf2)
            clear hf2
            go_wp2_with fail
            go_ret
            exact ⟨rfl, F2.out⟩
          · have d4 : decide (a2 < 0) = false := decide_eq_false h4
            have d5 : decide (30 < a2) = true := decide_eq_true (by omega)
            clear h h0 h1 h2 h3 h4
            go_enter Try.func5, Try.ntmps5
            go_wp2_with fail
            refine (Haw.out _).mono ?_
            rintro e w2 ⟨rfl, hf2⟩
            have F2 := Lib.hid (hf2)
            clear hf2
            go_wp2_with fail
            go_ret
            exact ⟨rfl, F2.out⟩

theorem chanHands_walk (a0 a1 a2 : Int) (w : World) (w0 : (Lit.int .i64 a0).wf = true) (w1 : (Lit.int .i64 a1).wf = true) (w2 : (Lit.int .i64 a2).wf = true) :
    Calls Try.prog 5 #[.int .i64 a0, .int .i64 a1, .int .i64 a2] w fun e w' => e = .returned (.bool true) ∧ Below w.heap.size w w' := by
  have key : Calls Try.prog 5 #[.int .i64 a0, .int .i64 a1, .int .i64 a2] w fun e w' => e = .returned (.bool true) ∧ Fr Nob w w' := by
    by_cases h : a0 < 0 ∨ 10 < a0 ∨ a1 < 0 ∨ 10 < a1 ∨ a2 < 0 ∨ 30 < a2
    · exact hands_bad w a0 a1 a2 h
    · obtain ⟨r, rfl⟩ : ∃ n : Nat, a0 = n := ⟨a0.toNat, by omega⟩
      obtain ⟨x, rfl⟩ : ∃ n : Nat, a1 = n := ⟨a1.toNat, by omega⟩
      obtain ⟨y, rfl⟩ : ∃ n : Nat, a2 = n := ⟨a2.toNat, by omega⟩
      exact hands_main w r x y (by omega) (by omega) (by omega)
  exact key.mono fun e w' ⟨h1, h2⟩ => ⟨h1, h2.below (Nat.le_refl _) fun _ q => q.elim⟩

/-! The row: out of the walk above. -/
namespace chanHands
open Go.ChangeShapes Go.WideShapes Go.ChangeAt Go.RowKit
open Go.ChangeMaps (open_string shut_string)
theorem own : ownKnob Try.prog.godebug = none := by kernel_rfl
theorem laidOut : laidOutB Try.prog = true := by kernel_rfl
set_option maxRecDepth 100000 in
theorem lifted (os : Os) (started : os.Started) (H : Type) (enc : TypeId × Value → H) :
    ReturnsInHanded {} Try.checked os 5 .any (Rows.chanHandsSpec.pre6 enc Try.prog Try.f5 Rows.chanHandsRow.domain false) (Rows.chanHandsSpec.post enc Try.prog Try.f5 false true false false) := by
  refine returnsInHanded_of_change (C := Try.checked) own started (by kernel_rfl) Try.func5
    (ChangeSpec.witness6 (enc := enc) (C := Try.checked) false ⟨#[], #[.int .i64 0, .int .i64 0, .int .i64 0], []⟩ 8 (by kernel_rfl) (by kernel_rfl) (by kernel_rfl) (by kernel_rfl)) ?_
  intro W base args ds gs before hval0 hW hcnd _
  have hval : ∀ (j : Nat) t v, Try.f5.params[j]? = some t → args[j]? = some v → Value.okWide Try.prog W .any base t v := hval0
  have hW' := hW
  obtain ⟨p, q, hA0, hV, rfl, hfz, hnd⟩ := hW
  have hA : DataW.TrodAll enc Try.prog W 0 (fun _ => true) true Try.f5.params.toList args.toList ds p := hA0
  rw [Try.params5] at hA hval
  obtain ⟨v0, vs0, d0, ds0, p0, q0, hargs, rfl, rfl, h0, r0⟩ := trodAll_cons hA
  obtain ⟨v1, vs1, d1, ds1, p1, q1, rfl, rfl, rfl, h1, r1⟩ := trodAll_cons r0
  obtain ⟨v2, vs2, d2, ds2, p2, q2, rfl, rfl, rfl, h2, r2⟩ := trodAll_cons r1
  obtain ⟨rfl, rfl, rfl⟩ := trodAll_nil r2
  obtain rfl : args = #[v0, v1, v2] := by cases args; simp_all
  obtain ⟨rfl, rfl⟩ := trodVars_none hV
  obtain ⟨a0, rfl, rfl, rfl, w0⟩ := open_int Try.underlying3 (hval 0 3 v0 rfl rfl) h0
  obtain ⟨a1, rfl, rfl, rfl, w1⟩ := open_int Try.underlying3 (hval 1 3 v1 rfl rfl) h1
  obtain ⟨a2, rfl, rfl, rfl, w2⟩ := open_int Try.underlying3 (hval 2 3 v2 rfl rfl) h2
  clear hA0 hval0
  refine (chanHands_walk a0 a1 a2 W w0 w1 w2).mono fun e W' ⟨he, bel⟩ => ?_
  subst he
  exact ⟨_, rfl, _, _, _, [], _, [], hW', trodAll_mk1 (shut_bool Try.underlying4 _), (trodAll_cons_mk (shut_int Try.underlying3 w0) (trodAll_cons_mk (shut_int Try.underlying3 w1) (trodAll_cons_mk (shut_int Try.underlying3 w2) trodAll_mk0))), rfl, bel.frame _, fun h => by cases h⟩
theorem over : Rows.chanHandsRow.holds Try.pinned (OpenSpec.ofChange Rows.chanHandsSpec) :=
  OpenClaim.holds_of_wide 5 Try.f5 rfl rfl rfl rfl rfl rfl rfl ⟨rfl, rfl, rfl, rfl, rfl⟩ rfl rfl rfl rfl rfl (by kernel_rfl) Try.func5 (by kernel_rfl)
    (of_decide_eq_true (by kernel_rfl)) (by unfold Func.isWrapper; first | (rw [if_pos (by decide +kernel)]; kernel_rfl) | (rw [if_neg (by decide +kernel)]; exact ⟨rfl, rfl⟩))
    (fun os started H enc _ => lifted os started H enc)
end chanHands
/-- THE STATEMENT. -/
theorem chanHands_holds : Rows.ChanHandsSaid := chanHands.over
#print axioms chanHands_holds
end Go.Proofs.Ytfpcnagimjmkpaa
