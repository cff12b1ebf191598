/- TaskLine answers true whatever its numbers are: no condition. -/
import Derived.Test.YteabiaoklpfbdaaOpen
import Derived.Test.YteabiaoklpfbdaaRound
import Derived.Test.YteabiaoklpfbdaaMoreA
import Derived.Test.YteabiaoklpfbdaaTaskLn
set_option linter.unusedVariables false
set_option linter.unusedSimpArgs false
namespace Go.Proofs.Yteabiaoklpfbdaa
open Go.RowKit
set_option maxRecDepth 100000
theorem ints_in {w : World} {l : List Int} {n : Nat} {v : Value} (hn : l.length = n) (h : Rd w 1 v n (ints l)) : ∃ A c, v = .slice A n c ∧ n ≤ c ∧ c ≤ maxLen ∧ ∀ k, k < n → ∃ g o, A = some ⟨g, o, none⟩ ∧ w.cell? ⟨g, o + k, none⟩ = some (.int .i64 (l.getD k 0)) := by
  obtain ⟨_, hl, A, c, rfl, hc1, hc2, hA⟩ := h
  refine ⟨A, c, rfl, hc1, hc2, fun k hk => ?_⟩
  obtain ⟨g, o, rfl, hg, hc⟩ := hA (by omega)
  have hk2 : k < l.length := by omega
  exact ⟨g, o, rfl, hc k _ (by simp [List.getD, hk2])⟩
theorem TableAt.fr0 {w w' : World} {S : Nat → Prop} {b : Nat} {ts : List Tk} {line : List Int} (h : TableAt w S b ts line) (hf : Fr Nob w w') : TableAt w' S b ts line := by
  obtain ⟨ab, lb, SA, SL, h⟩ := h
  exact ⟨ab, lb, SA, SL, h.fr0 hf⟩
theorem TableAt.lt {w : World} {S : Nat → Prop} {b : Nat} {ts : List Tk} {line : List Int} (h : TableAt w S b ts line) (k : Nat) (q : S k) : k < w.heap.size := by
  obtain ⟨ab, lb, SA, SL, h⟩ := h
  exact h.lt k q
/-- What the rounds keep. -/
def LnAt (base : Nat) (w : World) (b j n q1 q2 : Nat) (v1 v2 : Value) : Prop := ∃ (S T : Nat → Prop) (ts : List Tk) (line pk : List Int), TableAt w S b ts line ∧ ts.length = n ∧ LineOk j ts line pk ∧ line.length = q1 ∧ pk.length = q2 ∧ q1 ≤ j ∧ q2 ≤ j ∧ n ≤ 64 ∧ Two base w S T ∧ Sl w T 3 1 v1 q1 (ints line) ∧ Sl w T 3 1 v2 q2 (ints pk)
theorem LnAt.fr0 {base : Nat} {w w' : World} {b j n q1 q2 : Nat} {v1 v2 : Value} (h : LnAt base w b j n q1 q2 v1 v2) (hf : Fr Nob w w') : LnAt base w' b j n q1 q2 v1 v2 := by
  obtain ⟨S, T, ts, line, pk, ht, h1, h2, h3, h4, h5, h6, h7, h8, h9, h10⟩ := h
  exact ⟨S, T, ts, line, pk, ht.fr0 hf, h1, h2, h3, h4, h5, h6, h7, h8.fr hf, h9.fr hf fun _ _ q => q, h10.fr hf fun _ _ q => q⟩
theorem LnAt.up {base : Nat} {w : World} {b j n q1 q2 : Nat} {v1 v2 : Value} (h : LnAt base w b j n q1 q2 v1 v2) : LnAt base w b (j + 1) n q1 q2 v1 v2 := by
  obtain ⟨S, T, ts, line, pk, ht, h1, h2, h3, h4, h5, h6, h7, h8, h9, h10⟩ := h
  exact ⟨S, T, ts, line, pk, ht, h1, lineOk_up h2, h3, h4, by omega, by omega, h7, h8, h9, h10⟩
theorem Two.more {base : Nat} {w w' : World} {S S' T T' : Nat → Prop} (h : Two base w S T) (hb : base ≤ w.heap.size) (hS : ∀ k, S' k → (S k ∨ w.heap.size ≤ k) ∧ k < w'.heap.size) (hz : w.heap.size ≤ w'.heap.size) (hT : ∀ k, T' k → T k) : Two base w' S' T' :=
  ⟨fun k q => ⟨by rcases (hS k q).1 with r | r; exact (h.l k r).1; omega, (hS k q).2⟩, fun k q => ⟨(h.r k (hT k q)).1, by have := (h.r k (hT k q)).2; omega⟩, fun k q r => by rcases (hS k q).1 with s | s; exact h.dis k s (hT k r); have := (h.r k (hT k r)).2; omega⟩
theorem taskLine_long (w : World) (v0 : Value) (l : List Int) (n : Nat) (hn : l.length = n) (h60 : ¬ n ≤ 120) (hrd : Rd w 1 v0 n (ints l)) :
    Calls Try.prog 3 #[v0] w fun e w' => e = .returned (.bool true) ∧ Fr Nob w w' := by
  obtain ⟨_, _, A, c, rfl, hc1, hc2, hA⟩ := hrd
  have Haw := Lib.hid (fun W => awake17 W)
  have d1 : decide ((120 : Int) < n) = true := decide_eq_true (by omega)
  have d1' : decide (120 < n) = true := decide_eq_true (by omega)
  clear hA hn h60
  go_enter Try.func3, Try.ntmps3
  go_wp2_with fail
  refine (Haw.out _).mono ?_
  rintro e w2 ⟨rfl, hf2⟩
  have F2 := Lib.hid hf2
  clear hf2
  go_wp2_with fail
  go_ret
  exact ⟨rfl, F2.out⟩
set_option maxHeartbeats 8000000 in
theorem taskLine_main (w : World) (v0 : Value) (l : List Int) (n : Nat) (hn : l.length = n) (h60 : n ≤ 120) (hrd : Rd w 1 v0 n (ints l)) :
    Calls Try.prog 3 #[v0] w fun e w' => e = .returned (.bool true) ∧ Fr Nob w w' := by
  obtain ⟨A0, c0, rfl, hc1, hc2, hin⟩ := ints_in hn hrd
  have Hin := Lib.hid hin
  have d1 : decide ((120 : Int) < n) = false := decide_eq_false (by omega)
  have d1' : ¬ (120 : Int) < n := by omega
  clear hin hrd hn
  go_enter Try.func3, Try.ntmps3
  go_wp2_with fail
  refine (task_new w).mono ?_
  rintro e w1 ⟨b, S0, rfl, hf1, ht1, hs1⟩
  have F1 := Lib.hid hf1
  have HT1 : Hid (LnAt w.heap.size w1 b 0 0 0 0 (.slice none 0 0) (.slice none 0 0)) := Lib.hid ⟨S0, Nob, [], [], [], ht1, rfl, lineOk_nil, rfl, rfl, Nat.le_refl _, Nat.le_refl _, by omega, ⟨fun k q => ⟨hs1 k q, ht1.lt k q⟩, fun _ q => q.elim, fun _ _ q => q⟩, Sl.nil _ _ _ _, Sl.nil _ _ _ _⟩
  clear hf1 ht1 hs1
  go_wp2_with fail
  go_loopw [4, 5, 6, 7] (fun v1 v2 nn i wr => ∃ (j m q1 q2 : Nat) (A1 : Option Addr) (c1 : Nat) (A2 : Option Addr) (c2 : Nat), v1 = .slice A1 q1 c1 ∧ v2 = .slice A2 q2 c2 ∧ nn = .int .i64 m ∧ i = .int .i64 j ∧ j ≤ n ∧ Fr Nob w wr ∧ LnAt w.heap.size wr b j m q1 q2 (.slice A1 q1 c1) (.slice A2 q2 c2)) (fun _ _ _ i _ => n - (intOf i).toNat)
  case atStart => exact ⟨0, 0, 0, 0, none, 0, none, 0, rfl, rfl, rfl, rfl, by omega, F1.out, HT1.out⟩
  case round =>
    obtain ⟨j, m, q1, q2, A1, c1, A2, c2, rfl, rfl, rfl, rfl, hj, hfr, hr⟩ := hrel
    have Hfr := Lib.hid hfr; have Hr := Lib.hid hr; clear hfr hr
    by_cases hlt : j < n
    · have hlt' : (j : Int) < n := by omega
      have hb12 : q1 ≤ j ∧ q2 ≤ j ∧ m ≤ 64 := by obtain ⟨S, T, ts, line, pk, ht, h1, h2, h3, h4, h5, h6, h7, h8, h9, h10⟩ := Hr.out; exact ⟨h5, h6, h7⟩
      obtain ⟨hq1j, hq2j, hm64⟩ := hb12
      obtain ⟨g, o, rfl, hcell⟩ := Hin.out j hlt
      have hc := Hfr.out.cell (p := ⟨g, o + j, none⟩) id hcell
      obtain ⟨x, hx⟩ : ∃ x, x = l.getD j 0 := ⟨_, rfl⟩
      rw [← hx] at hc
      clear hcell hx
      go_wp2_with fail
      refine (alike_round wr x 4 (by omega) (by omega)).mono ?_
      rintro e _ ⟨rfl, rfl⟩
      obtain ⟨kk, hkk⟩ : ∃ kk, kk = x % 4 := ⟨_, rfl⟩
      rw [← hkk]
      have h4 : kk = 0 ∨ kk = 1 ∨ kk = 2 ∨ kk = 3 := by omega
      clear hkk
      go_wp2_with fail
      refine (alike_round wr _ 7 (by omega) (by omega)).mono ?_
      rintro e _ ⟨rfl, rfl⟩
      generalize hy : wrap64 (x.tdiv 4) = y
      have hm1 := Int.emod_nonneg y (show (7 : Int) ≠ 0 by omega)
      have hm2 := Int.emod_lt_of_pos y (show (0 : Int) < 7 by omega)
      obtain ⟨a, ha⟩ := Int.eq_ofNat_of_zero_le hm1
      rw [ha] at hm2
      rw [ha]
      have ha7 : a < 7 := by omega
      clear hm1 hm2 ha hy hc
      rcases h4 with rfl | rfl | rfl | rfl
      · by_cases hm : m < 64
        · have hm' : (m : Int) < 64 := by omega
          go_wp2_with fail
          obtain ⟨S, T, ts, line, pk, ht, hn, hok, hq1, hq2, hj1, hj2, hn64, htw, hs1, hs2⟩ := Hr.out
          obtain ⟨hni, hok2⟩ := lineOk_start hok m hn
          refine (task_start ht 0 (by omega) rg0 m hn hm hni (by omega)).mono ?_
          rintro e w2 ⟨S2, rfl, hf2, ht2, hsub2⟩
          have F2 := Lib.hid (Hfr.out.trans hf2 fun k hk q => by have := (htw.l k q).1; omega)
          have Htw2 : Hid (Two w.heap.size w2 S2 T) := Lib.hid (htw.more Hfr.out.size (fun k q => ⟨hsub2 k q, ht2.lt k q⟩) hf2.size fun k q => q)
          have Hs1 := Lib.hid (hs1.fr hf2 fun k q r => htw.dis k r q); have Hs2 := Lib.hid (hs2.fr hf2 fun k q r => htw.dis k r q)
          have HT2 := Lib.hid ht2; have Hok2 := Lib.hid hok2; have Hq1 := Lib.hid hq1; have Hq2 := Lib.hid hq2
          have Hn2 : Hid ((ts ++ [(newT 0 rg0, false)]).length = m + 1) := Lib.hid (by rw [List.length_append, hn]; rfl)
          have Hrd1 : Hid (Rd (w2.alloc (.cells #[] 3)) 1 (.slice A1 q1 c1) q1 (ints line)) := Lib.hid (Hs1.out.alloc _).rd
          have He := Lib.hid (sl_empty w2)
          clear hf2 ht2 hsub2 ht hn hok hq1 hq2 hj1 hj2 hn64 htw hs1 hs2 hok2 hni Hr
          go_wp2_with (at_builtin; first
            | (refine wpList_append1 _ rfl _ _ _ rfl (From w2.heap.size) 3 _ 1 8 Try.underlying22 Try.info_int18 rfl (by omega) (.slice A3 q1 c3) q1 (ints line) [.int .i64 (m : Int)] rfl Hs3.out rfl rfl rfl (by omega) (by omega) ?_; intro v4 w4 hs4 hf4 hz4; obtain ⟨A4, c4, rfl⟩ := hs4.slice; have Hs4r := Lib.hid hs4; have Hf4r := Lib.hid hf4; clear hs4 hf4 hz4)
            | (refine wpList_append_rd _ rfl _ _ _ rfl (From w2.heap.size) 3 _ 1 8 Try.underlying22 Try.info_int18 rfl (by omega) (.slice (some ⟨w2.heap.size, 0, none⟩) 0 0) 0 [] rfl He.out (.slice A1 q1 c1) q1 (ints line) rfl Hrd1.out (ints_one line) (by omega) (by omega) ?_; intro v3 w3 hs3 hf3; simp only [Nat.zero_add, List.nil_append] at hs3; obtain ⟨A3, c3, rfl⟩ := (hs3.mono (S' := From w2.heap.size) (fun k hk q => by have hz := ((Fr.refl Nob w2).alloc (.cells #[] 3)).size; rcases q with q | q; exact q; unfold From; omega)).slice; have Hs3 : Hid (Sl w3 (From w2.heap.size) 3 1 (.slice A3 q1 c3) q1 (ints line)) := Lib.hid (hs3.mono (fun k hk q => by have hz := ((Fr.refl Nob w2).alloc (.cells #[] 3)).size; rcases q with q | q; exact q; unfold From; omega)); have Hf3 := Lib.hid hf3; clear hs3 hf3; simp only [Nat.zero_add]))
          have Hf4 : Hid (Fr Nob w2 w4) := Lib.hid ((((Fr.refl Nob w2).alloc _).trans Hf3.out fun k hk q => by unfold From at q; omega).trans Hf4r.out fun k hk q => by unfold From at q; omega)
          have Hs4 : Hid (∀ T : Nat → Prop, Sl w4 (And' T w2 w4) 3 1 (.slice A4 (q1 + 1) c4) (q1 + 1) (ints (line ++ [(m : Int)]))) := Lib.hid fun T => by
            have hz1 := ((Fr.refl Nob w2).alloc (.cells #[] 3)).size
            have hz2 := Hf3.out.size
            have := Hs4r.out.mono (S' := And' T w2 w4) fun k hk q => .inr ⟨by rcases q with q | q; exact q; omega, hk⟩
            simpa [ints] using this
          have HFT : Hid (∀ S ts line, TableAt w2 S b ts line → TableAt w4 S b ts line) := Lib.hid fun S ts line h => h.fr0 Hf4.out
          have F4 := Lib.hid (F2.out.trans0 Hf4.out)
          clear Hf3 Hf4r Hs4r Hs3 He Hrd1
          have HL : Hid (LnAt w.heap.size w4 b (j + 1) (m + 1) (q1 + 1) q2 (.slice A4 (q1 + 1) c4) (.slice A2 q2 c2)) := Lib.hid ⟨S2, And' T w2 w4, _, _, pk, HFT.out _ _ _ HT2.out, Hn2.out, Hok2.out, by rw [List.length_append, Hq1.out]; rfl, Hq2.out, by omega, by omega, by omega, Htw2.out.growR Hf4.out.size F2.out.size, Hs4.out T, (Hs2.out.fr Hf4.out fun _ _ q => q).mono fun k hk q => .inl q⟩
          clear HT2 Hs4 Hs2 Hs1
          obtain ⟨S9, T9, ts9, line9, pk9, ht9, hn9, hok9, hq19, hq29, hj19, hj29, hn649, htw9, hs19, hs29⟩ := HL.out
          refine (task_ready ht9 (q1 + 1) hq19).mono ?_
          rintro e w8 ⟨A8, c8, rfl, hf8, hs8⟩
          have F8 := Lib.hid (F4.out.trans0 hf8); have HL8 := Lib.hid (HL.out.fr0 hf8)
          have Hs8 := Lib.hid hs8; have Hv8 := Lib.hid (hs19.fr hf8 fun _ _ q => q); have Hq19 := Lib.hid hq19
          clear hf8 hs8 ht9 hn9 hok9 hq19 hq29 hj19 hj29 hn649 htw9 hs19 hs29
          go_wp2_with fail
          refine (alike_ints_n _ _ _ line9 (q1 + 1) Hq19.out Hs8.out.rd Hv8.out.rd).mono ?_
          rintro e w9 ⟨rfl, hq9⟩
          have hf9 := Fr.ofDrew hq9
          have F9 := Lib.hid (F8.out.trans0 hf9); have HL9 := Lib.hid (HL8.out.fr0 hf9)
          clear hf9 hq9 HL8 Hs8 Hv8 Hq19
          go_wp2_with fail
          go_roundw
          case rel => exact ⟨j + 1, m + 1, q1 + 1, q2, A4, c4, A2, c2, rfl, rfl, by first | rfl | go_num, by go_num, by omega, F9.out, HL9.out⟩
          case measure => simp [intOf]; omega
        · have hm' : ¬ (m : Int) < 64 := by omega
          have hm64' : (64 : Int) ≤ m := by omega
          go_wp2_with fail
          obtain ⟨S, T, ts, line, pk, ht, hn, hok, hq1, hq2, hj1, hj2, hn64, htw, hs1, hs2⟩ := Hr.out
          refine (start_full ht 0 (by omega) rg0 (by omega)).mono ?_
          rintro e w2 ⟨rfl, hf2⟩
          have F2 := Lib.hid (Hfr.out.trans0 hf2)
          have HL := Lib.hid (Hr.out.fr0 hf2).up
          clear hf2 ht hn hok hq1 hq2 hj1 hj2 hn64 htw hs1 hs2 Hr
          go_wp2_with fail
          go_roundw
          case rel => exact ⟨j + 1, m, q1, q2, A1, c1, A2, c2, rfl, rfl, rfl, by go_num, by omega, F2.out, HL.out⟩
          case measure => simp [intOf]; omega
      · by_cases hq0 : q1 = 0
        · have Hu := Lib.hid Hr.out.up
          have hq00 : ¬ (0 : Int) < q1 := by omega
          clear Hr hq0
          go_wp2_with fail
          obtain ⟨S9, T9, ts9, line9, pk9, ht9, hn9, hok9, hq19, hq29, hj19, hj29, hn649, htw9, hs19, hs29⟩ := Hu.out
          refine (task_ready ht9 (q1) hq19).mono ?_
          rintro e w8 ⟨A8, c8, rfl, hf8, hs8⟩
          have F8 := Lib.hid (Hfr.out.trans0 hf8); have HL8 := Lib.hid (Hu.out.fr0 hf8)
          have Hs8 := Lib.hid hs8; have Hv8 := Lib.hid (hs19.fr hf8 fun _ _ q => q); have Hq19 := Lib.hid hq19
          clear hf8 hs8 ht9 hn9 hok9 hq19 hq29 hj19 hj29 hn649 htw9 hs19 hs29
          go_wp2_with fail
          refine (alike_ints_n _ _ _ line9 (q1) Hq19.out Hs8.out.rd Hv8.out.rd).mono ?_
          rintro e w9 ⟨rfl, hq9⟩
          have hf9 := Fr.ofDrew hq9
          have F9 := Lib.hid (F8.out.trans0 hf9); have HL9 := Lib.hid (HL8.out.fr0 hf9)
          clear hf9 hq9 HL8 Hs8 Hv8 Hq19
          go_wp2_with fail
          go_roundw
          case rel => exact ⟨j + 1, m, q1, q2, A1, c1, A2, c2, rfl, rfl, by first | rfl | go_num, by go_num, by omega, F9.out, HL9.out⟩
          case measure => simp [intOf]; omega
        · have hq0' : (0 : Int) < q1 := by omega
          have hq0e : ¬ (((q1 : Nat) : Int) = 0) := by omega
          obtain ⟨p, hp⟩ : ∃ p, p = a % q1 := ⟨_, rfl⟩
          have hpq : p < q1 := by rw [hp]; exact Nat.mod_lt _ (by omega)
          have hpm : (a : Int) % (q1 : Int) = (p : Int) := by rw [hp]; exact (Int.natCast_emod a q1).symm
          obtain ⟨S, T, ts, line, pk, ht, hn, hok, hq1, hq2, hj1, hj2, hn64, htw, hs1, hs2⟩ := Hr.out
          obtain ⟨gw, ow, cw, hv, hTg, hgw, hcw, hcm, hcell, hfz⟩ := hs1.form (by omega)
          cases hv
          have hcp := hcell p _ (ints_get (by rw [hq1]; exact hpq))
          have hmem : line.getD p 0 ∈ line := by
            have : p < line.length := by omega
            simp [List.getD, this]
          obtain ⟨i, t, d, hzi, hi, h2⟩ := hok.2.2.1 _ hmem
          rw [hzi] at hcp
          have HT := Lib.hid ht; have Hok := Lib.hid hok; have Hq1 := Lib.hid hq1; have Hq2 := Lib.hid hq2; have Htw := Lib.hid htw; have Hs1 := Lib.hid hs1; have Hs2 := Lib.hid hs2; have Hn := Lib.hid hn; have Hi := Lib.hid hi; have H2 := Lib.hid h2
          have Hmi : Hid ((i : Int) ∈ line) := Lib.hid (hzi ▸ hmem)
          clear hp hTg hgw hcell hfz hmem hzi ht hn hok hq1 hq2 hj1 hj2 hn64 htw hs1 hs2 hi h2 Hr
          go_wp2_with fail
          refine (park_ok HT.out i t d Hi.out 15 0 0 0 false (by rw [H2.out]; rfl) (.inr (.inr rfl)) rfl).mono ?_
          rintro e w2 ⟨rfl, hf2, ht2⟩
          have F2 := Lib.hid (Hfr.out.trans hf2 fun k hk q => by have := (Htw.out.l k q).1; omega)
          have HT2 := Lib.hid ht2
          have Hok2 := Lib.hid (lineOk_park Hok.out Hi.out H2.out)
          have Htw2 := Lib.hid (Htw.out.fr hf2)
          have Hs1b := Lib.hid (Hs1.out.fr hf2 fun k q r => Htw.out.dis k r q); have Hs2b := Lib.hid (Hs2.out.fr hf2 fun k q r => Htw.out.dis k r q)
          have Hrd1 : Hid (Rd (w2.alloc (.cells #[] 3)) 1 (.slice A2 q2 c2) q2 (ints pk)) := Lib.hid (Hs2b.out.alloc _).rd
          have He := Lib.hid (sl_empty w2)
          clear hf2 ht2 hcp HT
          go_wp2_with (at_builtin; first
            | (refine wpList_append1 _ rfl _ _ _ rfl (From w2.heap.size) 3 _ 1 8 Try.underlying22 Try.info_int18 rfl (by omega) (.slice A3 q2 c3) q2 (ints pk) [.int .i64 (i : Int)] rfl Hs3.out rfl rfl rfl (by omega) (by omega) ?_; intro v4 w4 hs4 hf4 hz4; obtain ⟨A4, c4, rfl⟩ := hs4.slice; have Hs4r := Lib.hid hs4; have Hf4r := Lib.hid hf4; clear hs4 hf4 hz4)
            | (refine wpList_append_rd _ rfl _ _ _ rfl (From w2.heap.size) 3 _ 1 8 Try.underlying22 Try.info_int18 rfl (by omega) (.slice (some ⟨w2.heap.size, 0, none⟩) 0 0) 0 [] rfl He.out (.slice A2 q2 c2) q2 (ints pk) rfl Hrd1.out (ints_one pk) (by omega) (by omega) ?_; intro v3 w3 hs3 hf3; simp only [Nat.zero_add, List.nil_append] at hs3; obtain ⟨A3, c3, rfl⟩ := (hs3.mono (S' := From w2.heap.size) (fun k hk q => by have hz := ((Fr.refl Nob w2).alloc (.cells #[] 3)).size; rcases q with q | q; exact q; unfold From; omega)).slice; have Hs3 : Hid (Sl w3 (From w2.heap.size) 3 1 (.slice A3 q2 c3) q2 (ints pk)) := Lib.hid (hs3.mono (fun k hk q => by have hz := ((Fr.refl Nob w2).alloc (.cells #[] 3)).size; rcases q with q | q; exact q; unfold From; omega)); have Hf3 := Lib.hid hf3; clear hs3 hf3; simp only [Nat.zero_add]))
          have Hf4 : Hid (Fr Nob w2 w4) := Lib.hid ((((Fr.refl Nob w2).alloc _).trans Hf3.out fun k hk q => by unfold From at q; omega).trans Hf4r.out fun k hk q => by unfold From at q; omega)
          have Hs4 : Hid (∀ T : Nat → Prop, Sl w4 (And' T w2 w4) 3 1 (.slice A4 (q2 + 1) c4) (q2 + 1) (ints (pk ++ [(i : Int)]))) := Lib.hid fun T => by
            have hz1 := ((Fr.refl Nob w2).alloc (.cells #[] 3)).size
            have hz2 := Hf3.out.size
            have := Hs4r.out.mono (S' := And' T w2 w4) fun k hk q => .inr ⟨by rcases q with q | q; exact q; omega, hk⟩
            simpa [ints] using this
          have HFT : Hid (∀ S ts line, TableAt w2 S b ts line → TableAt w4 S b ts line) := Lib.hid fun S ts line h => h.fr0 Hf4.out
          have F4 := Lib.hid (F2.out.trans0 Hf4.out)
          clear Hf3 Hf4r Hs4r Hs3 He Hrd1
          have Hs1c := Lib.hid (Hs1b.out.fr Hf4.out fun _ _ q => q)
          have hnd := Hok.out.1
          go_wp2_with fail
          refine (out_ints w4 T (some ⟨gw, ow, none⟩) c1 line q1 Hq1.out (by omega) Hs1c.out (i : Int)).mono ?_
          rintro e w5 ⟨A5, c5, p5, rfl, hf5, hp5, hs5⟩
          have hfe : line.filter (· != (i : Int)) = line.erase (i : Int) := (List.Nodup.erase_eq_filter hnd _).symm
          rw [hfe] at hp5 hs5
          have hp5l : p5 ≤ j := by rw [← hp5, List.length_erase_of_mem Hmi.out, Hq1.out]; omega
          have Hp5 := Lib.hid hp5; have Hs5 := Lib.hid hs5; have Hf5 := Lib.hid hf5
          have F5 := Lib.hid (F4.out.trans0 hf5)
          clear hf5 hp5 hs5 hfe
          have hz24 := Hf4.out.size; have hz45 := Hf5.out.size
          have HL : Hid (LnAt w.heap.size w5 b (j + 1) m p5 (q2 + 1) (.slice A5 p5 c5) (.slice A4 (q2 + 1) c4)) := Lib.hid ⟨S, And' T w2 w5, _, _, _, (HFT.out _ _ _ HT2.out).fr0 Hf5.out, by rw [List.length_set]; exact Hn.out, Hok2.out, Hp5.out, by rw [List.length_append, Hq2.out]; rfl, by omega, by omega, hm64, Htw2.out.growR (by omega) F2.out.size, Hs5.out.mono (fun k hk q => .inr ⟨by unfold From at q; omega, hk⟩), ((Hs4.out T).fr Hf5.out fun _ _ q => q).mono fun k hk q => by rcases q with q | q; exact .inl q; exact .inr ⟨q.1, hk⟩⟩
          clear HT2 Hs4 Hs5 Hs1c Hs2b Hs1b Hs1 Hs2 hnd hz24 hz45
          go_wp2_with fail
          obtain ⟨S9, T9, ts9, line9, pk9, ht9, hn9, hok9, hq19, hq29, hj19, hj29, hn649, htw9, hs19, hs29⟩ := HL.out
          refine (task_ready ht9 (p5) hq19).mono ?_
          rintro e w8 ⟨A8, c8, rfl, hf8, hs8⟩
          have F8 := Lib.hid (F5.out.trans0 hf8); have HL8 := Lib.hid (HL.out.fr0 hf8)
          have Hs8 := Lib.hid hs8; have Hv8 := Lib.hid (hs19.fr hf8 fun _ _ q => q); have Hq19 := Lib.hid hq19
          clear hf8 hs8 ht9 hn9 hok9 hq19 hq29 hj19 hj29 hn649 htw9 hs19 hs29
          go_wp2_with fail
          refine (alike_ints_n _ _ _ line9 (p5) Hq19.out Hs8.out.rd Hv8.out.rd).mono ?_
          rintro e w9 ⟨rfl, hq9⟩
          have hf9 := Fr.ofDrew hq9
          have F9 := Lib.hid (F8.out.trans0 hf9); have HL9 := Lib.hid (HL8.out.fr0 hf9)
          clear hf9 hq9 HL8 Hs8 Hv8 Hq19
          go_wp2_with fail
          go_roundw
          case rel => exact ⟨j + 1, m, p5, q2 + 1, A5, c5, A4, c4, rfl, rfl, by first | rfl | go_num, by go_num, by omega, F9.out, HL9.out⟩
          case measure => simp [intOf]; omega
      · by_cases hq0 : q2 = 0
        · have Hu := Lib.hid Hr.out.up
          have hq00 : ¬ (0 : Int) < q2 := by omega
          clear Hr hq0
          go_wp2_with fail
          obtain ⟨S9, T9, ts9, line9, pk9, ht9, hn9, hok9, hq19, hq29, hj19, hj29, hn649, htw9, hs19, hs29⟩ := Hu.out
          refine (task_ready ht9 (q1) hq19).mono ?_
          rintro e w8 ⟨A8, c8, rfl, hf8, hs8⟩
          have F8 := Lib.hid (Hfr.out.trans0 hf8); have HL8 := Lib.hid (Hu.out.fr0 hf8)
          have Hs8 := Lib.hid hs8; have Hv8 := Lib.hid (hs19.fr hf8 fun _ _ q => q); have Hq19 := Lib.hid hq19
          clear hf8 hs8 ht9 hn9 hok9 hq19 hq29 hj19 hj29 hn649 htw9 hs19 hs29
          go_wp2_with fail
          refine (alike_ints_n _ _ _ line9 (q1) Hq19.out Hs8.out.rd Hv8.out.rd).mono ?_
          rintro e w9 ⟨rfl, hq9⟩
          have hf9 := Fr.ofDrew hq9
          have F9 := Lib.hid (F8.out.trans0 hf9); have HL9 := Lib.hid (HL8.out.fr0 hf9)
          clear hf9 hq9 HL8 Hs8 Hv8 Hq19
          go_wp2_with fail
          go_roundw
          case rel => exact ⟨j + 1, m, q1, q2, A1, c1, A2, c2, rfl, rfl, by first | rfl | go_num, by go_num, by omega, F9.out, HL9.out⟩
          case measure => simp [intOf]; omega
        · have hq0' : (0 : Int) < q2 := by omega
          have hq0e : ¬ (((q2 : Nat) : Int) = 0) := by omega
          obtain ⟨p, hp⟩ : ∃ p, p = a % q2 := ⟨_, rfl⟩
          have hpq : p < q2 := by rw [hp]; exact Nat.mod_lt _ (by omega)
          have hpm : (a : Int) % (q2 : Int) = (p : Int) := by rw [hp]; exact (Int.natCast_emod a q2).symm
          obtain ⟨S, T, ts, line, pk, ht, hn, hok, hq1, hq2, hj1, hj2, hn64, htw, hs1, hs2⟩ := Hr.out
          obtain ⟨gw, ow, cw, hv, hTg, hgw, hcw, hcm, hcell, hfz⟩ := hs2.form (by omega)
          cases hv
          have hcp := hcell p _ (ints_get (by rw [hq2]; exact hpq))
          have hmem : pk.getD p 0 ∈ pk := by
            have : p < pk.length := by omega
            simp [List.getD, this]
          obtain ⟨i, t, d, hzi, hi, h2⟩ := hok.2.2.2.1 _ hmem
          rw [hzi] at hcp
          have HT := Lib.hid ht; have Hok := Lib.hid hok; have Hq1 := Lib.hid hq1; have Hq2 := Lib.hid hq2; have Htw := Lib.hid htw; have Hs1 := Lib.hid hs1; have Hs2 := Lib.hid hs2; have Hn := Lib.hid hn; have Hi := Lib.hid hi; have H2 := Lib.hid h2
          have Hmi : Hid ((i : Int) ∈ pk) := Lib.hid (hzi ▸ hmem)
          clear hp hTg hgw hcell hfz hmem hzi ht hn hok hq1 hq2 hj1 hj2 hn64 htw hs1 hs2 hi h2 Hr
          by_cases ha6 : a = 6
          · have e6 : ((a : Int) == 6) = true := by simp [ha6]
            have e6d : decide ((a : Int) = 6) = true := by simp [ha6]
            clear ha6
            go_wp2_with fail
            refine (wake_panic HT.out i t d Hi.out 0 0 false (by rw [H2.out.1]; rfl)).mono ?_
            rintro e w2 ⟨rfl, hf2, ht2⟩
            have F2 := Lib.hid (Hfr.out.trans hf2 fun k hk q => by have := (Htw.out.l k q).1; omega)
            have HT2 := Lib.hid ht2
            have Hok2 := Lib.hid (lineOk_panic Hok.out Hi.out H2.out.1)
            have Htw2 := Lib.hid (Htw.out.fr hf2)
            have Hs1b := Lib.hid (Hs1.out.fr hf2 fun k q r => Htw.out.dis k r q); have Hs2c := Lib.hid (Hs2.out.fr hf2 fun k q r => Htw.out.dis k r q)
            have hnd := Hok.out.2.1
            clear hf2 ht2 hcp HT
            go_wp2_with fail
            refine (out_ints w2 T (some ⟨gw, ow, none⟩) c2 pk q2 Hq2.out (by omega) Hs2c.out (i : Int)).mono ?_
            rintro e w5 ⟨A5, c5, p5, rfl, hf5, hp5, hs5⟩
            have hfe : pk.filter (· != (i : Int)) = pk.erase (i : Int) := (List.Nodup.erase_eq_filter hnd _).symm
            rw [hfe] at hp5 hs5
            have hp5l : p5 ≤ j := by rw [← hp5, List.length_erase_of_mem Hmi.out, Hq2.out]; omega
            have Hp5 := Lib.hid hp5; have Hs5 := Lib.hid hs5; have Hf5 := Lib.hid hf5
            have F5 := Lib.hid (F2.out.trans0 hf5)
            clear hf5 hp5 hs5 hfe
            have hz25 := Hf5.out.size
            have HL : Hid (LnAt w.heap.size w5 b (j + 1) m q1 p5 (.slice A1 q1 c1) (.slice A5 p5 c5)) := Lib.hid ⟨S, And' T w2 w5, _, line, _, HT2.out.fr0 Hf5.out, by rw [List.length_set]; exact Hn.out, Hok2.out, Hq1.out, Hp5.out, by omega, by omega, hm64, Htw2.out.growR hz25 F2.out.size, (Hs1b.out.fr Hf5.out fun _ _ q => q).mono fun k hk q => .inl q, Hs5.out.mono (fun k hk q => .inr ⟨q, hk⟩)⟩
            clear HT2 Hs5 Hs2c Hs1b Hs1 Hs2 hnd hz25
            go_wp2_with fail
            obtain ⟨S9, T9, ts9, line9, pk9, ht9, hn9, hok9, hq19, hq29, hj19, hj29, hn649, htw9, hs19, hs29⟩ := HL.out
            refine (task_ready ht9 (q1) hq19).mono ?_
            rintro e w8 ⟨A8, c8, rfl, hf8, hs8⟩
            have F8 := Lib.hid (F5.out.trans0 hf8); have HL8 := Lib.hid (HL.out.fr0 hf8)
            have Hs8 := Lib.hid hs8; have Hv8 := Lib.hid (hs19.fr hf8 fun _ _ q => q); have Hq19 := Lib.hid hq19
            clear hf8 hs8 ht9 hn9 hok9 hq19 hq29 hj19 hj29 hn649 htw9 hs19 hs29
            go_wp2_with fail
            refine (alike_ints_n _ _ _ line9 (q1) Hq19.out Hs8.out.rd Hv8.out.rd).mono ?_
            rintro e w9 ⟨rfl, hq9⟩
            have hf9 := Fr.ofDrew hq9
            have F9 := Lib.hid (F8.out.trans0 hf9); have HL9 := Lib.hid (HL8.out.fr0 hf9)
            clear hf9 hq9 HL8 Hs8 Hv8 Hq19
            go_wp2_with fail
            go_roundw
            case rel => exact ⟨j + 1, m, q1, p5, A1, c1, A5, c5, rfl, rfl, by first | rfl | go_num, by go_num, by omega, F9.out, HL9.out⟩
            case measure => simp [intOf]; omega
          · have e6 : ((a : Int) == 6) = false := by rw [beq_eq_false_iff_ne]; omega
            have e6d : decide ((a : Int) = 6) = false := decide_eq_false (by omega)
            clear ha6
            go_wp2_with fail
            obtain ⟨hni, hok2⟩ := lineOk_wake Hok.out Hi.out H2.out.1
            refine (wake_ok HT.out i t d Hi.out 0 0 false (by rw [H2.out.1]; rfl) (updT t 4 0) (fun W tb hb => told_sel W tb t d hb H2.out.2.1 H2.out.2.2 i 0 0 false false) (by have := Hok.out.2.2.2.2 i t d Hi.out; show IntKind.i64.wrap (t 1 + 1) = t 1 + 1; exact IntWalk.i64_in _ (by omega)) hni (by rw [Hq1.out]; omega)).mono ?_
            rintro e w2 ⟨S2, rfl, hf2, ht2, hsub2⟩
            have F2 := Lib.hid (Hfr.out.trans hf2 fun k hk q => by have := (Htw.out.l k q).1; omega)
            have Htw2 : Hid (Two w.heap.size w2 S2 T) := Lib.hid (Htw.out.more Hfr.out.size (fun k q => ⟨hsub2 k q, ht2.lt k q⟩) hf2.size fun k q => q)
            have HT2 := Lib.hid ht2; have Hok2 := Lib.hid hok2
            have Hs1b := Lib.hid (Hs1.out.fr hf2 fun k q r => Htw.out.dis k r q); have Hs2c := Lib.hid (Hs2.out.fr hf2 fun k q r => Htw.out.dis k r q)
            have hnd := Hok.out.2.1
            clear hf2 ht2 hcp HT hok2 hni hsub2
            go_wp2_with fail
            refine (out_ints w2 T (some ⟨gw, ow, none⟩) c2 pk q2 Hq2.out (by omega) Hs2c.out (i : Int)).mono ?_
            rintro e w5 ⟨A5, c5, p5, rfl, hf5, hp5, hs5⟩
            have hfe : pk.filter (· != (i : Int)) = pk.erase (i : Int) := (List.Nodup.erase_eq_filter hnd _).symm
            rw [hfe] at hp5 hs5
            have hp5l : p5 ≤ j := by rw [← hp5, List.length_erase_of_mem Hmi.out, Hq2.out]; omega
            have Hp5 := Lib.hid hp5; have Hs5 := Lib.hid hs5; have Hf5 := Lib.hid hf5
            have F5 := Lib.hid (F2.out.trans0 hf5)
            clear hf5 hp5 hs5 hfe
            have hz25 := Hf5.out.size
            have Hs1c := Lib.hid (Hs1b.out.fr Hf5.out fun _ _ q => q)
            have Hrd1 : Hid (Rd (w5.alloc (.cells #[] 3)) 1 (.slice A1 q1 c1) q1 (ints line)) := Lib.hid (Hs1c.out.alloc _).rd
            have He := Lib.hid (sl_empty w5)
            go_wp2_with (at_builtin; first
              | (refine wpList_append1 _ rfl _ _ _ rfl (From w5.heap.size) 3 _ 1 8 Try.underlying22 Try.info_int18 rfl (by omega) (.slice A3 q1 c3) q1 (ints line) [.int .i64 (i : Int)] rfl Hs3.out rfl rfl rfl (by omega) (by omega) ?_; intro v4 w4 hs4 hf4 hz4; obtain ⟨A4, c4, rfl⟩ := hs4.slice; have Hs4r := Lib.hid hs4; have Hf4r := Lib.hid hf4; clear hs4 hf4 hz4)
              | (refine wpList_append_rd _ rfl _ _ _ rfl (From w5.heap.size) 3 _ 1 8 Try.underlying22 Try.info_int18 rfl (by omega) (.slice (some ⟨w5.heap.size, 0, none⟩) 0 0) 0 [] rfl He.out (.slice A1 q1 c1) q1 (ints line) rfl Hrd1.out (ints_one line) (by omega) (by omega) ?_; intro v3 w3 hs3 hf3; simp only [Nat.zero_add, List.nil_append] at hs3; obtain ⟨A3, c3, rfl⟩ := (hs3.mono (S' := From w5.heap.size) (fun k hk q => by have hz := ((Fr.refl Nob w5).alloc (.cells #[] 3)).size; rcases q with q | q; exact q; unfold From; omega)).slice; have Hs3 : Hid (Sl w3 (From w5.heap.size) 3 1 (.slice A3 q1 c3) q1 (ints line)) := Lib.hid (hs3.mono (fun k hk q => by have hz := ((Fr.refl Nob w5).alloc (.cells #[] 3)).size; rcases q with q | q; exact q; unfold From; omega)); have Hf3 := Lib.hid hf3; clear hs3 hf3; simp only [Nat.zero_add]))
            have Hf4 : Hid (Fr Nob w5 w4) := Lib.hid ((((Fr.refl Nob w5).alloc _).trans Hf3.out fun k hk q => by unfold From at q; omega).trans Hf4r.out fun k hk q => by unfold From at q; omega)
            have Hs4 : Hid (∀ T : Nat → Prop, Sl w4 (And' T w5 w4) 3 1 (.slice A4 (q1 + 1) c4) (q1 + 1) (ints (line ++ [(i : Int)]))) := Lib.hid fun T => by
              have hz1 := ((Fr.refl Nob w5).alloc (.cells #[] 3)).size
              have hz2 := Hf3.out.size
              have := Hs4r.out.mono (S' := And' T w5 w4) fun k hk q => .inr ⟨by rcases q with q | q; exact q; omega, hk⟩
              simpa [ints] using this
            have HFT : Hid (∀ S ts line, TableAt w5 S b ts line → TableAt w4 S b ts line) := Lib.hid fun S ts line h => h.fr0 Hf4.out
            have F4 := Lib.hid (F5.out.trans0 Hf4.out)
            clear Hf3 Hf4r Hs4r Hs3 He Hrd1
            have hz54 := Hf4.out.size
            have HL : Hid (LnAt w.heap.size w4 b (j + 1) m (q1 + 1) p5 (.slice A4 (q1 + 1) c4) (.slice A5 p5 c5)) := Lib.hid ⟨S2, And' T w2 w4, _, _, _, HFT.out _ _ _ (HT2.out.fr0 Hf5.out), by rw [List.length_set]; exact Hn.out, Hok2.out, by rw [List.length_append, Hq1.out]; rfl, Hp5.out, by omega, by omega, hm64, Htw2.out.growR (by omega) F2.out.size, (Hs4.out T).mono (fun k hk q => by rcases q with q | q; exact .inl q; exact .inr ⟨by omega, hk⟩), (Hs5.out.fr Hf4.out fun _ _ q => q).mono fun k hk q => .inr ⟨by unfold From at q; omega, hk⟩⟩
            clear HT2 Hs4 Hs5 Hs1c Hs2c Hs1b Hs1 Hs2 hnd hz25 hz54
            obtain ⟨S9, T9, ts9, line9, pk9, ht9, hn9, hok9, hq19, hq29, hj19, hj29, hn649, htw9, hs19, hs29⟩ := HL.out
            refine (task_ready ht9 (q1 + 1) hq19).mono ?_
            rintro e w8 ⟨A8, c8, rfl, hf8, hs8⟩
            have F8 := Lib.hid (F4.out.trans0 hf8); have HL8 := Lib.hid (HL.out.fr0 hf8)
            have Hs8 := Lib.hid hs8; have Hv8 := Lib.hid (hs19.fr hf8 fun _ _ q => q); have Hq19 := Lib.hid hq19
            clear hf8 hs8 ht9 hn9 hok9 hq19 hq29 hj19 hj29 hn649 htw9 hs19 hs29
            go_wp2_with fail
            refine (alike_ints_n _ _ _ line9 (q1 + 1) Hq19.out Hs8.out.rd Hv8.out.rd).mono ?_
            rintro e w9 ⟨rfl, hq9⟩
            have hf9 := Fr.ofDrew hq9
            have F9 := Lib.hid (F8.out.trans0 hf9); have HL9 := Lib.hid (HL8.out.fr0 hf9)
            clear hf9 hq9 HL8 Hs8 Hv8 Hq19
            go_wp2_with fail
            go_roundw
            case rel => exact ⟨j + 1, m, q1 + 1, p5, A4, c4, A5, c5, rfl, rfl, by first | rfl | go_num, by go_num, by omega, F9.out, HL9.out⟩
            case measure => simp [intOf]; omega
      · by_cases hq0 : q1 = 0
        · have Hu := Lib.hid Hr.out.up
          have hq00 : ¬ (0 : Int) < q1 := by omega
          clear Hr hq0
          go_wp2_with fail
          obtain ⟨S9, T9, ts9, line9, pk9, ht9, hn9, hok9, hq19, hq29, hj19, hj29, hn649, htw9, hs19, hs29⟩ := Hu.out
          refine (task_ready ht9 (q1) hq19).mono ?_
          rintro e w8 ⟨A8, c8, rfl, hf8, hs8⟩
          have F8 := Lib.hid (Hfr.out.trans0 hf8); have HL8 := Lib.hid (Hu.out.fr0 hf8)
          have Hs8 := Lib.hid hs8; have Hv8 := Lib.hid (hs19.fr hf8 fun _ _ q => q); have Hq19 := Lib.hid hq19
          clear hf8 hs8 ht9 hn9 hok9 hq19 hq29 hj19 hj29 hn649 htw9 hs19 hs29
          go_wp2_with fail
          refine (alike_ints_n _ _ _ line9 (q1) Hq19.out Hs8.out.rd Hv8.out.rd).mono ?_
          rintro e w9 ⟨rfl, hq9⟩
          have hf9 := Fr.ofDrew hq9
          have F9 := Lib.hid (F8.out.trans0 hf9); have HL9 := Lib.hid (HL8.out.fr0 hf9)
          clear hf9 hq9 HL8 Hs8 Hv8 Hq19
          go_wp2_with fail
          go_roundw
          case rel => exact ⟨j + 1, m, q1, q2, A1, c1, A2, c2, rfl, rfl, by first | rfl | go_num, by go_num, by omega, F9.out, HL9.out⟩
          case measure => simp [intOf]; omega
        · have hq0' : (0 : Int) < q1 := by omega
          have hq0e : ¬ (((q1 : Nat) : Int) = 0) := by omega
          obtain ⟨p, hp⟩ : ∃ p, p = a % q1 := ⟨_, rfl⟩
          have hpq : p < q1 := by rw [hp]; exact Nat.mod_lt _ (by omega)
          have hpm : (a : Int) % (q1 : Int) = (p : Int) := by rw [hp]; exact (Int.natCast_emod a q1).symm
          obtain ⟨S, T, ts, line, pk, ht, hn, hok, hq1, hq2, hj1, hj2, hn64, htw, hs1, hs2⟩ := Hr.out
          obtain ⟨gw, ow, cw, hv, hTg, hgw, hcw, hcm, hcell, hfz⟩ := hs1.form (by omega)
          cases hv
          have hcp := hcell p _ (ints_get (by rw [hq1]; exact hpq))
          have hmem : line.getD p 0 ∈ line := by
            have : p < line.length := by omega
            simp [List.getD, this]
          obtain ⟨i, t, d, hzi, hi, h2⟩ := hok.2.2.1 _ hmem
          rw [hzi] at hcp
          have HT := Lib.hid ht; have Hok := Lib.hid hok; have Hq1 := Lib.hid hq1; have Hq2 := Lib.hid hq2; have Htw := Lib.hid htw; have Hs1 := Lib.hid hs1; have Hs2 := Lib.hid hs2; have Hn := Lib.hid hn; have Hi := Lib.hid hi; have H2 := Lib.hid h2
          have Hmi : Hid ((i : Int) ∈ line) := Lib.hid (hzi ▸ hmem)
          clear hp hTg hgw hcell hfz hmem hzi ht hn hok hq1 hq2 hj1 hj2 hn64 htw hs1 hs2 hi h2 Hr
          go_wp2_with fail
          refine (end_ok HT.out i t d Hi.out (by rw [H2.out]; rfl) 0).mono ?_
          rintro e w2 ⟨rfl, hf2, ht2⟩
          have F2 := Lib.hid (Hfr.out.trans hf2 fun k hk q => by have := (Htw.out.l k q).1; omega)
          have HT2 := Lib.hid ht2
          have Hok2 := Lib.hid (lineOk_end Hok.out Hi.out H2.out)
          have Htw2 := Lib.hid (Htw.out.fr hf2)
          have Hs1c := Lib.hid (Hs1.out.fr hf2 fun k q r => Htw.out.dis k r q); have Hs2b := Lib.hid (Hs2.out.fr hf2 fun k q r => Htw.out.dis k r q)
          have hnd := Hok.out.1
          clear hf2 ht2 hcp HT
          go_wp2_with fail
          refine (out_ints w2 T (some ⟨gw, ow, none⟩) c1 line q1 Hq1.out (by omega) Hs1c.out (i : Int)).mono ?_
          rintro e w5 ⟨A5, c5, p5, rfl, hf5, hp5, hs5⟩
          have hfe : line.filter (· != (i : Int)) = line.erase (i : Int) := (List.Nodup.erase_eq_filter hnd _).symm
          rw [hfe] at hp5 hs5
          have hp5l : p5 ≤ j := by rw [← hp5, List.length_erase_of_mem Hmi.out, Hq1.out]; omega
          have Hp5 := Lib.hid hp5; have Hs5 := Lib.hid hs5; have Hf5 := Lib.hid hf5
          have F5 := Lib.hid (F2.out.trans0 hf5)
          clear hf5 hp5 hs5 hfe
          have hz25 := Hf5.out.size
          have HL : Hid (LnAt w.heap.size w5 b (j + 1) m p5 q2 (.slice A5 p5 c5) (.slice A2 q2 c2)) := Lib.hid ⟨S, And' T w2 w5, _, _, _, HT2.out.fr0 Hf5.out, by rw [List.length_set]; exact Hn.out, Hok2.out, Hp5.out, Hq2.out, by omega, by omega, hm64, Htw2.out.growR hz25 F2.out.size, Hs5.out.mono (fun k hk q => .inr ⟨q, hk⟩), (Hs2b.out.fr Hf5.out fun _ _ q => q).mono fun k hk q => .inl q⟩
          clear HT2 Hs5 Hs1c Hs2b Hs1 Hs2 hnd hz25
          go_wp2_with fail
          obtain ⟨S9, T9, ts9, line9, pk9, ht9, hn9, hok9, hq19, hq29, hj19, hj29, hn649, htw9, hs19, hs29⟩ := HL.out
          refine (task_ready ht9 (p5) hq19).mono ?_
          rintro e w8 ⟨A8, c8, rfl, hf8, hs8⟩
          have F8 := Lib.hid (F5.out.trans0 hf8); have HL8 := Lib.hid (HL.out.fr0 hf8)
          have Hs8 := Lib.hid hs8; have Hv8 := Lib.hid (hs19.fr hf8 fun _ _ q => q); have Hq19 := Lib.hid hq19
          clear hf8 hs8 ht9 hn9 hok9 hq19 hq29 hj19 hj29 hn649 htw9 hs19 hs29
          go_wp2_with fail
          refine (alike_ints_n _ _ _ line9 (p5) Hq19.out Hs8.out.rd Hv8.out.rd).mono ?_
          rintro e w9 ⟨rfl, hq9⟩
          have hf9 := Fr.ofDrew hq9
          have F9 := Lib.hid (F8.out.trans0 hf9); have HL9 := Lib.hid (HL8.out.fr0 hf9)
          clear hf9 hq9 HL8 Hs8 Hv8 Hq19
          go_wp2_with fail
          go_roundw
          case rel => exact ⟨j + 1, m, p5, q2, A5, c5, A2, c2, rfl, rfl, by first | rfl | go_num, by go_num, by omega, F9.out, HL9.out⟩
          case measure => simp [intOf]; omega
    · obtain rfl : j = n := by omega
      have hlt' : ¬ (j : Int) < j := by omega
      go_wp2_with fail
      refine (awake17 wr).mono ?_
      rintro e w2 ⟨rfl, hf⟩
      have Hf := Lib.hid hf
      clear hf
      go_wp2_with fail
      go_ret
      exact ⟨rfl, Hfr.out.trans0 Hf.out⟩
theorem taskLine_walk (v0 : Value) (l : List Int) (w : World) (h0 : IsInts w v0 l) :
    Calls Try.prog 3 #[v0] w fun e w' => e = .returned (.bool true) ∧ Below w.heap.size w w' := by
  have key : Calls Try.prog 3 #[v0] w fun e w' => e = .returned (.bool true) ∧ Fr Nob w w' := by
    by_cases h : l.length ≤ 120
    · exact taskLine_main w v0 l _ rfl h h0.1
    · exact taskLine_long w v0 l _ rfl h h0.1
  exact key.mono fun e w' ⟨h1, h2⟩ => ⟨h1, h2.below (Nat.le_refl _) fun _ q => q.elim⟩


/-! The row: out of the walk above. -/
namespace taskLine
open Go.ChangeShapes Go.WideShapes Go.ChangeAt Go.RowKit
open Go.ChangeMaps (open_string shut_string)
theorem own : ownKnob Try.prog.godebug = none := by kernel_rfl
theorem laidOut : laidOutB Try.prog = true := by kernel_rfl
set_option maxRecDepth 100000 in
theorem lifted (os : Os) (started : os.Started) (H : Type) (enc : TypeId × Value → H) :
    ReturnsInHanded {} Try.checked os 3 .any (Rows.taskLineSpec.pre6 enc Try.prog Try.f3 Rows.taskLineRow.domain false) (Rows.taskLineSpec.post enc Try.prog Try.f3 false true false false) := by
  refine returnsInHanded_of_change (C := Try.checked) own started (by kernel_rfl) Try.func3
    (ChangeSpec.witness6 (enc := enc) (C := Try.checked) false ⟨#[], #[.slice none 0 0], []⟩ 8 (by kernel_rfl) (by kernel_rfl) (by kernel_rfl) (by kernel_rfl)) ?_
  intro W base args ds gs before hval0 hW hcnd _
  have hval : ∀ (j : Nat) t v, Try.f3.params[j]? = some t → args[j]? = some v → Value.okWide Try.prog W .any base t v := hval0
  have hW' := hW
  obtain ⟨p, q, hA0, hV, rfl, hfz, hnd⟩ := hW
  have hA : DataW.TrodAll enc Try.prog W 0 (fun _ => true) true Try.f3.params.toList args.toList ds p := hA0
  rw [Try.params3] at hA hval
  obtain ⟨v0, vs0, d0, ds0, p0, q0, hargs, rfl, rfl, h0, r0⟩ := trodAll_cons hA
  obtain ⟨rfl, rfl, rfl⟩ := trodAll_nil r0
  obtain rfl : args = #[v0] := by cases args; simp_all
  obtain ⟨rfl, rfl⟩ := trodVars_none hV
  have k0 := h0
  have lt0 : ∀ x ∈ p0, x.block < W.heap.size := by obtain ⟨m, hm⟩ := k0; exact DataW.trod_lt m _ _ _ hm
  obtain ⟨x0, g0⟩ := opn_ints (hval 0 22 v0 rfl rfl) h0
  clear hA0 hval0
  refine (taskLine_walk v0 x0 W g0).mono fun e W' ⟨he, bel⟩ => ?_
  subst he
  exact ⟨_, rfl, _, _, _, [], _, [], hW', trodAll_mk1 (shut_bool Try.underlying4 _), (trodAll_cons_mk (Below.trod laidOut (by kernel_rfl) (of_decide_eq_true (by kernel_rfl)) k0 bel lt0) trodAll_mk0), rfl, bel.frame _, fun h => by cases h⟩
theorem over : Rows.taskLineRow.holds Try.pinned (OpenSpec.ofChange Rows.taskLineSpec) :=
  OpenClaim.holds_of_wide 3 Try.f3 rfl rfl rfl rfl rfl rfl rfl ⟨rfl, rfl, rfl, rfl, rfl⟩ rfl rfl rfl rfl rfl (by kernel_rfl) Try.func3 (by kernel_rfl)
    (of_decide_eq_true (by kernel_rfl)) (by unfold Func.isWrapper; first | (rw [if_pos (by decide +kernel)]; kernel_rfl) | (rw [if_neg (by decide +kernel)]; exact ⟨rfl, rfl⟩))
    (fun os started H enc _ => lifted os started H enc)
end taskLine
/-- THE STATEMENT. -/
theorem taskLine_holds : Rows.TaskLineSaid := taskLine.over
#print axioms taskLine_holds
end Go.Proofs.Yteabiaoklpfbdaa
