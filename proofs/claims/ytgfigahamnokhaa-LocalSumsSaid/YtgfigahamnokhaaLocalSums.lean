/- A row of sets, moves and sums leaves in each register what they say, and in all others what was there; it ends behind its last one, for any row and registers that the statement draws. -/
import Derived.Test.YtgfigahamnokhaaSumsPl
import Derived.Test.YtgfigahamnokhaaOpenArr8
import Derived.Test.YtgfigahamnokhaaRound
set_option linter.unusedVariables false
set_option linter.unusedSimpArgs false
namespace Go.Proofs.Ytgfigahamnokhaa
open Go.RowKit
set_option maxRecDepth 100000
abbrev wants (r : Nat → Int) (L : List Tri) : Nat → Int := L.foldl wT r
theorem info_instr : (Try.prog.info? 39).map (fun i => (i.zero, i.size, i.bytes)) = some (some (.agg #[.int .i64 0, .int .i64 0, .int .i64 0, .int .i64 0, .slice none 0 0, .bool false]), 6, 64) := by kernel_rfl
theorem tri_get (L : List Tri) (k j : Nat) (p : Tri) (h : L[k]? = some p) (hj : j < 3) : (L.flatMap triEn)[k * 3 + j]? = (triEn p)[j]? := flat_get triEn L (fun _ _ => rfl) k j p h hj
theorem reg_set (r : Nat → Int) (a : Nat) (ha : a < 8) (x : Int) : (regA r).setIfInBounds a (.int .i64 x) = regA (upd r a x) := by
  rcases (by omega : a = 0 ∨ a = 1 ∨ a = 2 ∨ a = 3 ∨ a = 4 ∨ a = 5 ∨ a = 6 ∨ a = 7) with rfl | rfl | rfl | rfl | rfl | rfl | rfl | rfl <;> rfl
abbrev put8R (w : World) (b : Nat) (q : Nat → Int) : World := ((((((((w.setCell ⟨b, 0, none⟩ (.int .i64 (q 0))).setCell ⟨b, 1, none⟩ (.int .i64 (q 1))).setCell ⟨b, 2, none⟩ (.int .i64 (q 2))).setCell ⟨b, 3, none⟩ (.int .i64 (q 3))).setCell ⟨b, 4, none⟩ (.int .i64 (q 4))).setCell ⟨b, 5, none⟩ (.int .i64 (q 5))).setCell ⟨b, 6, none⟩ (.int .i64 (q 6))).setCell ⟨b, 7, none⟩ (.int .i64 (q 7)))
theorem put8R_blk {w : World} {b : Nat} {r : Nat → Int} {T : TypeId} (h : w.heap[b]? = some (.cells (regA r) T (0, 0))) (q : Nat → Int) : (put8R w b q).heap[b]? = some (.cells (regA q) T (0, 0)) := by
  have h0 := blk_set h 0 (.int .i64 (q 0))
  have h1 := blk_set h0 1 (.int .i64 (q 1))
  have h2 := blk_set h1 2 (.int .i64 (q 2))
  have h3 := blk_set h2 3 (.int .i64 (q 3))
  have h4 := blk_set h3 4 (.int .i64 (q 4))
  have h5 := blk_set h4 5 (.int .i64 (q 5))
  have h6 := blk_set h5 6 (.int .i64 (q 6))
  have h7 := blk_set h6 7 (.int .i64 (q 7))
  rw [h7]
  simp
theorem put8R_fr (w : World) (b : Nat) (q : Nat → Int) : Fr (fun k => k = b) w (put8R w b q) :=
  (((((((((Fr.refl (fun k => k = b) w).setCell (.inl rfl) _).setCell (.inl rfl) _).setCell (.inl rfl) _).setCell (.inl rfl) _).setCell (.inl rfl) _).setCell (.inl rfl) _).setCell (.inl rfl) _).setCell (.inl rfl) _)
theorem reg_froz {w : World} {b : Nat} {r : Nat → Int} {T : TypeId} (h : w.heap[b]? = some (.cells (regA r) T (0, 0))) : w.frozen? ⟨b, 0, none⟩ = false ∧ w.frozen? ⟨b, 1, none⟩ = false ∧ w.frozen? ⟨b, 2, none⟩ = false ∧ w.frozen? ⟨b, 3, none⟩ = false ∧ w.frozen? ⟨b, 4, none⟩ = false ∧ w.frozen? ⟨b, 5, none⟩ = false ∧ w.frozen? ⟨b, 6, none⟩ = false ∧ w.frozen? ⟨b, 7, none⟩ = false :=
  ⟨blk_froz h 0, blk_froz h 1, blk_froz h 2, blk_froz h 3, blk_froz h 4, blk_froz h 5, blk_froz h 6, blk_froz h 7⟩
theorem sum_step (W : World) (L : List Tri) (n : Nat) (hL : L.length = n) (hn : n ≤ 40) (v : Value) (h : Rd W 6 v n ((L.map insT).flatMap insEn)) (q q' : Nat → Int) (j : Nat) (p : Tri) (hj : L[j]? = some p) (hq : q' = wT q p) :
    Calls Try.prog 9 #[v, .int .i64 j, .agg (regA q), .int .i64 5] W fun e w' => e = .returned (.tuple #[.agg (outA ((j : Int) + 1) q' false 0 false), .int .i64 0]) ∧ Fr Nob W w' := by
  have h1 := do_any W v (L.map insT) n q 5 (by simpa using hL) h (ok_insT W L) j
  rw [do_insT L (by omega) j p hj q 5] at h1
  rw [hq]
  exact h1
theorem sum_end (W : World) (L : List Tri) (n : Nat) (hL : L.length = n) (hn : n ≤ 40) (v : Value) (h : Rd W 6 v n ((L.map insT).flatMap insEn)) (q : Nat → Int) :
    Calls Try.prog 9 #[v, .int .i64 n, .agg (regA q), .int .i64 5] W fun e w' => e = .returned (.tuple #[.agg (outA (n : Int) q false 0 true), .int .i64 0]) ∧ Fr Nob W w' := by
  subst hL
  have h1 := do_any W v (L.map insT) L.length q 5 (by simp) h (ok_insT W L) L.length
  rw [end_insT L (by omega) q 5] at h1
  exact h1
set_option maxHeartbeats 4000000 in
theorem sums_main (w : World) (v0 : Value) (L : List Tri) (N : Nat) (r : Nat → Int) (hL : L.length = N) (hN : N ≤ 40) (hrd : Rd w 3 v0 N (L.flatMap triEn)) :
    Calls Try.prog 5 #[v0, .agg (regA r)] w fun e w' => e = .returned (.bool true) ∧ Fr Nob w w' := by
  obtain ⟨_, hl, A, c, rfl, hc1, hc2, hA⟩ := hrd
  unfold maxLen at hl
  have HA := Lib.hid hA
  have Haw := Lib.hid (fun W => awake18 W)
  clear hA
  have d0 : decide (40 < (N : Int)) = false := decide_eq_false (by omega)
  have d0' : decide (40 < N) = false := decide_eq_false (by omega)
  have hb := blk_alloc_eq (w := w) (.cells (regA r) 23) rfl
  obtain ⟨r0, r1, r2, r3, r4, r5, r6, r7⟩ := reg_cells hb
  clear hb
  go_enter Try.func5, Try.ntmps5
  go_wp2_with fail
  clear r0 r1 r2 r3 r4 r5 r6 r7
  go_loopw [7] (fun vi wr => ∃ i : Nat, vi = .int .i64 i ∧ i ≤ 8 ∧ Fr Nob w wr ∧ Hid (wr.heap[w.heap.size]? = some (.cells (regA r) 23 (0, 0))) ∧ Hid (wr.heap[w.heap.size + 1]? = some (.cells (regA r) 23 (0, 0)))) (fun vi _ => 8 - (intOf vi).toNat)
  case atStart => exact ⟨0, rfl, by omega, ((Fr.refl _ _).alloc _).alloc _, Lib.hid (((Fr.refl Nob _).alloc _).blk id (blk_alloc_eq _ rfl)), Lib.hid (blk_alloc_eq _ (by simp))⟩
  case round =>
    obtain ⟨i, rfl, hi, hfr, Hr, Hw⟩ := hrel
    have Hfr := Lib.hid hfr
    clear hfr
    by_cases hlt : i < 8
    · have l1 : decide ((i : Int) < 8) = true := decide_eq_true (by omega)
      have l2 : decide (i < 8) = true := decide_eq_true hlt
      have i0 : (0 : Int) ≤ i := by omega
      have i8 : (i : Int) < 8 := by omega
      have ci := blk_cell Hr.out i (reg_get r i hlt)
      by_cases h1 : 4611686018427387904 < r i
      · have t1 : decide (4611686018427387904 < r i) = true := decide_eq_true h1
        clear h1
        go_wp2_with fail
        refine (Haw.out _).mono ?_
        rintro e w2 ⟨rfl, hf2⟩
        have F2 := Lib.hid (Hfr.out.trans0 hf2)
        clear hf2
        go_wp2_with fail
        go_ret
        exact ⟨rfl, F2.out⟩
      · have t1 : decide (4611686018427387904 < r i) = false := decide_eq_false h1
        clear h1
        by_cases h2 : r i < -4611686018427387904
        · have t2 : decide (r i < -4611686018427387904) = true := decide_eq_true h2
          clear h2
          go_wp2_with fail
          refine (Haw.out _).mono ?_
          rintro e w2 ⟨rfl, hf2⟩
          have F2 := Lib.hid (Hfr.out.trans0 hf2)
          clear hf2
          go_wp2_with fail
          go_ret
          exact ⟨rfl, F2.out⟩
        · have t2 : decide (r i < -4611686018427387904) = false := decide_eq_false h2
          clear h2
          go_wp2_with fail
          go_roundw
          case rel => exact ⟨i + 1, by go_num, by omega, Hfr.out, Hr, Hw⟩
          case measure => simp [intOf]; omega
    · obtain rfl : i = 8 := by omega
      have HfrA := Hfr; have HrA := Hr; have HwA := Hw
      clear Hfr Hr Hw
      obtain ⟨wa, rfl⟩ : ∃ wa : World, wa = wr := ⟨_, rfl⟩
      have hsz := lt_of_block HwA.out
      have Hsz := Lib.hid hsz
      clear hsz
      go_wp2_with fail
      go_loopw [5, 8] (fun vp vi wr => ∃ (i : Nat) (Ap : Option Addr) (cp : Nat), vp = .slice Ap i cp ∧ vi = .int .i64 i ∧ i ≤ N ∧ Fr Nob w wr ∧ Hid (wr.heap[w.heap.size]? = some (.cells (regA r) 23 (0, 0))) ∧ Hid (wr.heap[w.heap.size + 1]? = some (.cells (regA (wants r (L.take i))) 23 (0, 0))) ∧ Sl wr (From (w.heap.size + 2)) 39 6 (.slice Ap i cp) i (((L.take i).map insT).flatMap insEn)) (fun _ vi _ => N - (intOf vi).toNat)
      case atStart => exact ⟨0, none, 0, rfl, rfl, Nat.zero_le _, HfrA.out, HrA, HwA, Sl.nil _ _ _ _⟩
      case round =>
        obtain ⟨i, Ap, cp, rfl, rfl, hi, hfr, Hr, Hw, hs⟩ := hrel
        have Hfr := Lib.hid hfr; have Hs := Lib.hid hs
        clear hfr hs
        by_cases hlt : i < N
        · have hx : L[i]? = some (L[i]'(by omega)) := List.getElem?_eq_getElem _
          generalize L[i]'(by omega) = p at hx
          obtain ⟨g, o, rfl, hg, hc⟩ := HA.out (by omega)
          have c0 := Hfr.out.cell (p := ⟨g, o + (i * 3 + 0), none⟩) id (hc _ _ ((tri_get L i 0 p hx (by omega)).trans rfl))
          have c1 := Hfr.out.cell (p := ⟨g, o + (i * 3 + 1), none⟩) id (hc _ _ ((tri_get L i 1 p hx (by omega)).trans rfl))
          have c2 := Hfr.out.cell (p := ⟨g, o + (i * 3 + 2), none⟩) id (hc _ _ ((tri_get L i 2 p hx (by omega)).trans rfl))
          rw [← Nat.add_assoc] at c1 c2
          rw [Nat.add_zero] at c0
          obtain ⟨x, y, z⟩ := p
          dsimp only at c0 c1 c2
          have l1 : decide ((i : Int) < N) = true := decide_eq_true (by omega)
          have l2 : decide (i < N) = true := decide_eq_true hlt
          have i0 : (0 : Int) ≤ i := by omega
          have iN : (i : Int) < N := by omega
          have Hx := Lib.hid hx
          clear hx hc
          have ha0 := Int.emod_nonneg x (show (8 : Int) ≠ 0 by omega)
          have ha8 := Int.emod_lt_of_pos x (show (0 : Int) < 8 by omega)
          have hb0 := Int.emod_nonneg y (show (8 : Int) ≠ 0 by omega)
          have hb8 := Int.emod_lt_of_pos y (show (0 : Int) < 8 by omega)
          have hc0 := Int.emod_nonneg z (show (1000 : Int) ≠ 0 by omega)
          have hc8 := Int.emod_lt_of_pos z (show (0 : Int) < 1000 by omega)
          have R1 := Lib.hid (fun W => (alike_round W x 8 (by omega) (by omega)).mono fun e w' h => (⟨h.1, h.2.symm⟩ : e = .returned (.int .i64 (x % 8)) ∧ w' = W))
          have R2 := Lib.hid (fun W => (alike_round W y 8 (by omega) (by omega)).mono fun e w' h => (⟨h.1, h.2.symm⟩ : e = .returned (.int .i64 (y % 8)) ∧ w' = W))
          have R3 := Lib.hid (fun W => (alike_round W z 1000 (by omega) (by omega)).mono fun e w' h => (⟨h.1, h.2.symm⟩ : e = .returned (.int .i64 (z % 1000)) ∧ w' = W))
          have hn1 : wants r (L.take (i + 1)) = wT (wants r (L.take i)) (x, y, z) := by unfold wants; rw [List.take_add_one, Hx.out]; simp
          have hn2 : ((L.take (i + 1)).map insT).flatMap insEn = ((L.take i).map insT).flatMap insEn ++ insEn (insT (x, y, z)) := by rw [List.take_add_one, Hx.out]; simp
          obtain ⟨a, ha⟩ : ∃ a : Nat, x % 8 = a := ⟨(x % 8).toNat, by omega⟩
          obtain ⟨b, hb⟩ : ∃ b : Nat, y % 8 = b := ⟨(y % 8).toNat, by omega⟩
          have ha8' : a < 8 := by omega
          have hb8' : b < 8 := by omega
          have q1 : insT (x, y, z) = if x.tmod 3 = 0 then plainI 1 (x % 8) (z % 1000 - 500) 0 else if x.tmod 3 = 1 then plainI 2 (x % 8) (y % 8) 0 else plainI 3 (x % 8) (z % 1000 - 500) 0 := rfl
          have q2 : ∀ q, wT q (x, y, z) = if x.tmod 3 = 0 then upd q (x % 8).toNat (z % 1000 - 500) else if x.tmod 3 = 1 then upd q (x % 8).toNat (q (y % 8).toNat) else upd q (x % 8).toNat (addT (q (x % 8).toNat) (z % 1000 - 500)) := fun _ => rfl
          rw [q2] at hn1
          rw [q1] at hn2
          clear q1 q2
          rw [ha, hb, Int.toNat_natCast, Int.toNat_natCast] at hn1
          rw [ha, hb] at hn2
          rw [ha] at R1 ha0 ha8
          rw [hb] at R2 hb0 hb8
          clear ha hb
          by_cases t0 : x.tmod 3 = 0
          · rw [if_pos t0] at hn1 hn2
            have t0b : (x.tmod 3 == 0) = true := beq_iff_eq.2 t0
            clear t0
            have Hn1 := Lib.hid hn1; have Hn2 := Lib.hid hn2
            clear hn1 hn2
            go_wp2_with fail
            go_quiet ((first | (go_at_call_of 13 (Value.int .i64 x); exact Calls.quiet_of_same (R1.out _)) | (go_at_call_of 13 (Value.int .i64 y); exact Calls.quiet_of_same (R2.out _)) | (go_at_call_of 13 (Value.int .i64 z); exact Calls.quiet_of_same (R3.out _))))
            go_wp2_with (at_builtin; refine wpList_append1 _ rfl _ _ _ rfl (From (w.heap.size + 2)) 39 _ 6 64 Try.underlying22 info_instr rfl (by omega) (.slice Ap i cp) i _ [.int .i64 1, .int .i64 (a : Int), .int .i64 (z % 1000 - 500), .int .i64 0, .slice none 0 0, .bool false] rfl (Hs.out.drewN _) rfl rfl rfl (by omega) (by omega) ?_; intro v3 w3 hs3 hf3 hz3; obtain ⟨A3, c3, rfl⟩ := hs3.slice; have Hw3 := Lib.hid (hf3.blk (k := w.heap.size + 1) (by unfold From; omega) Hw.out); have Hr3 := Lib.hid (hf3.blk (k := w.heap.size) (by unfold From; omega) Hr.out); have Hf3 := Lib.hid (Hfr.out.trans (((Fr.refl (From (w.heap.size + 2)) wr).drewN nq).trans0 hf3) (fun k hk q => by unfold From at q; omega)); have Hs3 := Lib.hid (hs3.mono (S' := From (w.heap.size + 2)) (fun k hk q => by rcases q with q | q; exact q; have := lt_of_block Hw.out; unfold From; simp at q; omega)); have oc := blk_cell Hw3.out a (reg_get _ a ha8'); have of := blk_froz Hw3.out a; clear hs3 hf3)
            refine ⟨?_, ?measure⟩
            (repeat apply Exists.intro)
            refine ⟨?rel, rfl⟩
            case rel => exact ⟨i + 1, A3, c3, rfl, by go_num, by omega, Hf3.out.setCell (.inr (by simp)) _, Lib.hid ((blk_set_ne _ _ (by omega)).trans Hr3.out), Lib.hid (by rw [blk_set Hw3.out a _, reg_set _ a ha8', Hn1.out]), by rw [Hn2.out]; exact Hs3.out.fr ((Fr.refl (fun k => k = w.heap.size + 1) w3).setCell (.inl rfl) _) (fun k q e => by unfold From at q; omega)⟩
            case measure => simp [intOf]; omega
          · rw [if_neg t0] at hn1 hn2
            have t0b : (x.tmod 3 == 0) = false := beq_eq_false_iff_ne.2 t0
            clear t0
            by_cases t1 : x.tmod 3 = 1
            · rw [if_pos t1] at hn1 hn2
              have t1b : (x.tmod 3 == 1) = true := beq_iff_eq.2 t1
              clear t1
              have Hn1 := Lib.hid hn1; have Hn2 := Lib.hid hn2
              clear hn1 hn2
              go_wp2_with fail
              go_quiet ((first | (go_at_call_of 13 (Value.int .i64 x); exact Calls.quiet_of_same (R1.out _)) | (go_at_call_of 13 (Value.int .i64 y); exact Calls.quiet_of_same (R2.out _)) | (go_at_call_of 13 (Value.int .i64 z); exact Calls.quiet_of_same (R3.out _))))
              go_wp2_with (at_builtin; refine wpList_append1 _ rfl _ _ _ rfl (From (w.heap.size + 2)) 39 _ 6 64 Try.underlying22 info_instr rfl (by omega) (.slice Ap i cp) i _ [.int .i64 2, .int .i64 (a : Int), .int .i64 (b : Int), .int .i64 0, .slice none 0 0, .bool false] rfl (Hs.out.drewN _) rfl rfl rfl (by omega) (by omega) ?_; intro v3 w3 hs3 hf3 hz3; obtain ⟨A3, c3, rfl⟩ := hs3.slice; have Hw3 := Lib.hid (hf3.blk (k := w.heap.size + 1) (by unfold From; omega) Hw.out); have Hr3 := Lib.hid (hf3.blk (k := w.heap.size) (by unfold From; omega) Hr.out); have Hf3 := Lib.hid (Hfr.out.trans (((Fr.refl (From (w.heap.size + 2)) wr).drewN nq).trans0 hf3) (fun k hk q => by unfold From at q; omega)); have Hs3 := Lib.hid (hs3.mono (S' := From (w.heap.size + 2)) (fun k hk q => by rcases q with q | q; exact q; have := lt_of_block Hw.out; unfold From; simp at q; omega)); have oc := blk_cell Hw3.out a (reg_get _ a ha8'); have of := blk_froz Hw3.out a; have ob := blk_cell Hw3.out b (reg_get _ b hb8'); clear hs3 hf3)
              refine ⟨?_, ?measure⟩
              (repeat apply Exists.intro)
              refine ⟨?rel, rfl⟩
              case rel => exact ⟨i + 1, A3, c3, rfl, by go_num, by omega, Hf3.out.setCell (.inr (by simp)) _, Lib.hid ((blk_set_ne _ _ (by omega)).trans Hr3.out), Lib.hid (by rw [blk_set Hw3.out a _, reg_set _ a ha8', Hn1.out]), by rw [Hn2.out]; exact Hs3.out.fr ((Fr.refl (fun k => k = w.heap.size + 1) w3).setCell (.inl rfl) _) (fun k q e => by unfold From at q; omega)⟩
              case measure => simp [intOf]; omega
            · rw [if_neg t1] at hn1 hn2
              have t1b : (x.tmod 3 == 1) = false := beq_eq_false_iff_ne.2 t1
              clear t1
              have Hn1 := Lib.hid hn1; have Hn2 := Lib.hid hn2
              clear hn1 hn2
              go_wp2_with fail
              go_quiet ((first | (go_at_call_of 13 (Value.int .i64 x); exact Calls.quiet_of_same (R1.out _)) | (go_at_call_of 13 (Value.int .i64 y); exact Calls.quiet_of_same (R2.out _)) | (go_at_call_of 13 (Value.int .i64 z); exact Calls.quiet_of_same (R3.out _))))
              go_wp2_with (at_builtin; refine wpList_append1 _ rfl _ _ _ rfl (From (w.heap.size + 2)) 39 _ 6 64 Try.underlying22 info_instr rfl (by omega) (.slice Ap i cp) i _ [.int .i64 3, .int .i64 (a : Int), .int .i64 (z % 1000 - 500), .int .i64 0, .slice none 0 0, .bool false] rfl (Hs.out.drewN _) rfl rfl rfl (by omega) (by omega) ?_; intro v3 w3 hs3 hf3 hz3; obtain ⟨A3, c3, rfl⟩ := hs3.slice; have Hw3 := Lib.hid (hf3.blk (k := w.heap.size + 1) (by unfold From; omega) Hw.out); have Hr3 := Lib.hid (hf3.blk (k := w.heap.size) (by unfold From; omega) Hr.out); have Hf3 := Lib.hid (Hfr.out.trans (((Fr.refl (From (w.heap.size + 2)) wr).drewN nq).trans0 hf3) (fun k hk q => by unfold From at q; omega)); have Hs3 := Lib.hid (hs3.mono (S' := From (w.heap.size + 2)) (fun k hk q => by rcases q with q | q; exact q; have := lt_of_block Hw.out; unfold From; simp at q; omega)); have oc := blk_cell Hw3.out a (reg_get _ a ha8'); have of := blk_froz Hw3.out a; clear hs3 hf3)
              go_wp2_with fail
              refine (ref_add _ _ _).mono ?_
              rintro e _ ⟨rfl, rfl⟩
              go_wp2_with fail
              refine ⟨?_, ?measure⟩
              (repeat apply Exists.intro)
              refine ⟨?rel, rfl⟩
              case rel => exact ⟨i + 1, A3, c3, rfl, by go_num, by omega, Hf3.out.setCell (.inr (by simp)) _, Lib.hid ((blk_set_ne _ _ (by omega)).trans Hr3.out), Lib.hid (by rw [blk_set Hw3.out a _, reg_set _ a ha8', Hn1.out]), by rw [Hn2.out]; exact Hs3.out.fr ((Fr.refl (fun k => k = w.heap.size + 1) w3).setCell (.inl rfl) _) (fun k q e => by unfold From at q; omega)⟩
              case measure => simp [intOf]; omega
        · have hiN : i = N := by omega
          subst hiN
          have hall : L.take i = L := List.take_of_length_le (by omega)
          have HwB : Hid (wr.heap[w.heap.size + 1]? = some (.cells (regA (wants r L)) 23 (0, 0))) := Lib.hid (by have := Hw.out; rwa [hall] at this)
          have HsB : Hid (Sl wr (From (w.heap.size + 2)) 39 6 (.slice Ap i cp) i ((L.map insT).flatMap insEn)) := Lib.hid (by have := Hs.out; rwa [hall] at this)
          have HfB := Hfr; have HrB := Hr
          clear Hw Hs Hfr Hr hall
          obtain ⟨wb, rfl⟩ : ∃ wb : World, wb = wr := ⟨_, rfl⟩
          go_wp2_with fail
          go_loopw [12] (fun vj wr => ∃ j : Nat, vj = .int .i64 j ∧ j ≤ i ∧ Fr Nob w wr ∧ Hid (wr.heap[w.heap.size]? = some (.cells (regA (wants r (L.take j))) 23 (0, 0))) ∧ Hid (wr.heap[w.heap.size + 1]? = some (.cells (regA (wants r L)) 23 (0, 0))) ∧ Hid (Sl wr (From (w.heap.size + 2)) 39 6 (.slice Ap i cp) i ((L.map insT).flatMap insEn))) (fun vj _ => i - (intOf vj).toNat)
          case atStart => exact ⟨0, rfl, Nat.zero_le _, HfB.out, HrB, HwB, HsB⟩
          case round =>
            obtain ⟨j, rfl, hj, hfr, Hr, Hw, Hs⟩ := hrel
            have Hfr := Lib.hid hfr
            clear hfr
            by_cases hlt : j < i
            · have hx : L[j]? = some (L[j]'(by omega)) := List.getElem?_eq_getElem _
              generalize L[j]'(by omega) = p at hx
              have l1 : decide ((j : Int) < i) = true := decide_eq_true (by omega)
              have l2 : decide (j < i) = true := decide_eq_true hlt
              have hn1 : wants r (L.take (j + 1)) = wT (wants r (L.take j)) p := by unfold wants; rw [List.take_add_one, hx]; simp
              obtain ⟨q, hq⟩ : ∃ q, q = wants r (L.take j) := ⟨_, rfl⟩
              obtain ⟨q', hq'⟩ : ∃ q', q' = wT q p := ⟨_, rfl⟩
              rw [← hq, ← hq'] at hn1
              rw [← hq] at Hr
              have Hn1 := Lib.hid hn1
              have Hx := Lib.hid hx
              have Hq' := Lib.hid hq'
              clear hn1 hq hx hq'
              obtain ⟨r0, r1, r2, r3, r4, r5, r6, r7⟩ := reg_cells Hr.out
              go_wp2_with fail
              refine (sum_step wr L i hL hN _ Hs.out.rd q q' j p Hx.out Hq'.out).mono ?_
              rintro e w1 ⟨rfl, hf1⟩
              have F1 := Lib.hid (Hfr.out.trans0 hf1)
              have G1 := Lib.hid (((Fr.refl Nob w1).alloc (.cells (outA ((j : Int) + 1) q' false 0 false) 28)).blk id (hf1.blk id Hr.out))
              have W1 := Lib.hid (((Fr.refl Nob w1).alloc (.cells (outA ((j : Int) + 1) q' false 0 false) 28)).blk id (hf1.blk id Hw.out))
              have S1 := Lib.hid ((Hs.out.fr hf1 (fun _ _ q => q)).alloc (.cells (outA ((j : Int) + 1) q' false 0 false) 28))
              clear hf1 r0 r1 r2 r3 r4 r5 r6 r7
              obtain ⟨u0, u1, u2, u3, u4, u5, u6, u7⟩ := reg_cells G1.out
              obtain ⟨f0, f1, f2, f3, f4, f5, f6, f7⟩ := reg_froz G1.out
              go_wp2_with fail
              refine ⟨?_, ?measure⟩
              (repeat apply Exists.intro)
              refine ⟨?rel, rfl⟩
              case rel => exact ⟨j + 1, by go_num, by omega, (F1.out.alloc _).trans (put8R_fr _ _ q') (fun k hk q => by omega), Lib.hid (by rw [Hn1.out]; exact put8R_blk G1.out q'), Lib.hid ((put8R_fr _ _ q').blk (by omega) W1.out), Lib.hid (S1.out.fr (put8R_fr _ _ q') (fun k a e => by unfold From at a; omega))⟩
              case measure => simp [intOf]; omega
            · have hji : j = i := by omega
              subst hji
              have hall : L.take j = L := List.take_of_length_le (by omega)
              have Hr' : Hid (wr.heap[w.heap.size]? = some (.cells (regA (wants r L)) 23 (0, 0))) := Lib.hid (by have := Hr.out; rwa [hall] at this)
              clear Hr hall
              generalize wants r L = q at *
              obtain ⟨r0, r1, r2, r3, r4, r5, r6, r7⟩ := reg_cells Hr'.out
              go_wp2_with fail
              refine (sum_end wr L j hL hN _ Hs.out.rd q).mono ?_
              rintro e w1 ⟨rfl, hf1⟩
              have F1 := Lib.hid (Hfr.out.trans0 hf1)
              have G1 := Lib.hid (((Fr.refl Nob w1).alloc (.cells (outA (j : Int) q false 0 true) 28)).blk id (hf1.blk id Hw.out))
              clear hf1 r0 r1 r2 r3 r4 r5 r6 r7
              obtain ⟨u0, u1, u2, u3, u4, u5, u6, u7⟩ := reg_cells G1.out
              have heq := run_eql_arr (P := Try.prog) 23 3 8 [q 0, q 1, q 2, q 3, q 4, q 5, q 6, q 7] Try.underlying23 Try.underlying3 (by kernel_rfl) rfl
              simp only [ints, List.map_cons, List.map_nil] at heq
              go_wp2_with fail
              refine (Haw.out _).mono ?_
              rintro e w2 ⟨rfl, hf2⟩
              have F2 := Lib.hid ((F1.out.alloc _).trans0 hf2)
              clear hf2
              go_wp2_with fail
              go_ret
              exact ⟨rfl, F2.out⟩

theorem sums_long (w : World) (v0 : Value) (L : List Tri) (hL : ¬ L.length ≤ 40) (hrd : Rd w 3 v0 L.length (L.flatMap triEn)) (r : Nat → Int) :
    Calls Try.prog 5 #[v0, .agg (regA r)] w fun e w' => e = .returned (.bool true) ∧ Fr Nob w w' := by
  obtain ⟨_, hl, A, c, rfl, hc1, hc2, hA⟩ := hrd
  have Haw := Lib.hid (fun W => awake18 W)
  clear hA
  generalize L.length = N at *
  have d0 : decide (40 < (N : Int)) = true := decide_eq_true (by omega)
  have d0' : decide (40 < N) = true := decide_eq_true (by omega)
  clear hL hl hc1
  go_enter Try.func5, Try.ntmps5
  go_wp2_with fail
  refine (Haw.out _).mono ?_
  rintro e w2 ⟨rfl, hf2⟩
  have F2 := Lib.hid (((Fr.refl Nob w).alloc _).trans0 hf2)
  clear hf2
  go_wp2_with fail
  go_ret
  exact ⟨rfl, F2.out⟩

theorem localSums_walk (v0 : Value) (l : List Tri) (v1 : Value) (r : Nat → Int) (w : World) (h0 : IsTriples w v0 l) (h1 : IsArr8 w v1 r) :
    Calls Try.prog 5 #[v0, v1] w fun e w' => e = .returned (.bool true) ∧ Below w.heap.size w w' := by
  have h1 := h1.1
  subst h1
  have key : Calls Try.prog 5 #[v0, .agg (regA r)] w fun e w' => e = .returned (.bool true) ∧ Fr Nob w w' := by
    by_cases h : l.length ≤ 40
    · exact sums_main w v0 l l.length r rfl h h0.1
    · exact sums_long w v0 l h h0.1 r
  exact key.mono fun e w' ⟨h1, h2⟩ => ⟨h1, h2.below (Nat.le_refl _) fun _ q => q.elim⟩

/-! The row: out of the walk above. -/
namespace localSums
open Go.ChangeShapes Go.WideShapes Go.ChangeAt Go.RowKit
open Go.ChangeMaps (open_string shut_string)
theorem own : ownKnob Try.prog.godebug = none := by kernel_rfl
theorem laidOut : laidOutB Try.prog = true := by kernel_rfl
set_option maxRecDepth 100000 in
theorem lifted (os : Os) (started : os.Started) (H : Type) (enc : TypeId × Value → H) :
    ReturnsInHanded {} Try.checked os 5 .any (Rows.localSumsSpec.pre6 enc Try.prog Try.f5 Rows.localSumsRow.domain false) (Rows.localSumsSpec.post enc Try.prog Try.f5 false true false false) := by
  refine returnsInHanded_of_change (C := Try.checked) own started (by kernel_rfl) Try.func5
    (ChangeSpec.witness6 (enc := enc) (C := Try.checked) false ⟨#[], #[.slice none 0 0, .agg #[.int .i64 0, .int .i64 0, .int .i64 0, .int .i64 0, .int .i64 0, .int .i64 0, .int .i64 0, .int .i64 0]], []⟩ 8 (by kernel_rfl) (by kernel_rfl) (by kernel_rfl) (by kernel_rfl)) ?_
  intro W base args ds gs before hval0 hW hcnd _
  have hval : ∀ (j : Nat) t v, Try.f5.params[j]? = some t → args[j]? = some v → Value.okWide Try.prog W .any base t v := hval0
  have hW' := hW
  obtain ⟨p, q, hA0, hV, rfl, hfz, hnd⟩ := hW
  have hA : DataW.TrodAll enc Try.prog W 0 (fun _ => true) true Try.f5.params.toList args.toList ds p := hA0
  rw [Try.params5] at hA hval
  obtain ⟨v0, vs0, d0, ds0, p0, q0, hargs, rfl, rfl, h0, r0⟩ := trodAll_cons hA
  obtain ⟨v1, vs1, d1, ds1, p1, q1, rfl, rfl, rfl, h1, r1⟩ := trodAll_cons r0
  obtain ⟨rfl, rfl, rfl⟩ := trodAll_nil r1
  obtain rfl : args = #[v0, v1] := by cases args; simp_all
  obtain ⟨rfl, rfl⟩ := trodVars_none hV
  have k0 := h0
  have lt0 : ∀ x ∈ p0, x.block < W.heap.size := by obtain ⟨m, hm⟩ := k0; exact DataW.trod_lt m _ _ _ hm
  obtain ⟨x0, g0⟩ := opn_triples (hval 0 41 v0 rfl rfl) h0
  have k1 := h1
  have lt1 : ∀ x ∈ p1, x.block < W.heap.size := by obtain ⟨m, hm⟩ := k1; exact DataW.trod_lt m _ _ _ hm
  obtain ⟨x1, g1⟩ := opn_arr8 (hval 1 23 v1 rfl rfl) h1
  clear hA0 hval0
  refine (localSums_walk v0 x0 v1 x1 W g0 g1).mono fun e W' ⟨he, bel⟩ => ?_
  subst he
  exact ⟨_, rfl, _, _, _, [], _, [], hW', trodAll_mk1 (shut_bool Try.underlying4 _), (trodAll_cons_mk (Below.trod laidOut (by kernel_rfl) (of_decide_eq_true (by kernel_rfl)) k0 bel lt0) (trodAll_cons_mk (Below.trod laidOut (by kernel_rfl) (of_decide_eq_true (by kernel_rfl)) k1 bel lt1) trodAll_mk0)), rfl, bel.frame _, fun h => by cases h⟩
theorem over : Rows.localSumsRow.holds Try.pinned (OpenSpec.ofChange Rows.localSumsSpec) :=
  OpenClaim.holds_of_wide 5 Try.f5 rfl rfl rfl rfl rfl rfl rfl ⟨rfl, rfl, rfl, rfl, rfl⟩ rfl rfl rfl rfl rfl (by kernel_rfl) Try.func5 (by kernel_rfl)
    (of_decide_eq_true (by kernel_rfl)) (by unfold Func.isWrapper; first | (rw [if_pos (by decide +kernel)]; kernel_rfl) | (rw [if_neg (by decide +kernel)]; exact ⟨rfl, rfl⟩))
    (fun os started H enc _ => lifted os started H enc)
end localSums
/-- THE STATEMENT. -/
theorem localSums_holds : Rows.LocalSumsSaid := localSums.over
#print axioms localSums_holds
end Go.Proofs.Ytgfigahamnokhaa
