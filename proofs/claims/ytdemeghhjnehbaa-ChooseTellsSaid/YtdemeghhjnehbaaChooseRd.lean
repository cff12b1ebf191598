/- What Ready, Leave and one of package choose do. -/
import Derived.Test.YtdemeghhjnehbaaChooseMk
import Derived.Test.YtdemeghhjnehbaaPick
set_option linter.unusedVariables false
set_option linter.unusedSimpArgs false
namespace Go.Proofs.Ytdemeghhjnehbaa
open Go.RowKit
set_option maxRecDepth 100000
theorem Try.info_int' : (Try.prog.info? 3).map (fun i => (i.zero, i.size, i.bytes)) = some (some (.int .i64 0), 1, 8) := by kernel_rfl
theorem cs_in {w : World} {B : Nat → Nat} {l : List Cs} {n : Nat} {v : Value} (hn : l.length = n) (h : Rd w 3 v n (css B l)) : ∃ A c, v = .slice A n c ∧ n ≤ c ∧ c ≤ maxLen ∧
    ∀ k, k < n → ∃ (x : Cs) (g o : Nat), l[k]? = some x ∧ A = some ⟨g, o, none⟩ ∧ w.cell? ⟨g, o + k * 3, none⟩ = some (.pointer (pa B x.1)) ∧ w.cell? ⟨g, o + k * 3 + 1, none⟩ = some (.bool x.2.1) ∧ w.cell? ⟨g, o + k * 3 + 2, none⟩ = some (.int .i64 x.2.2) := by
  obtain ⟨_, hl, A, c, rfl, hc1, hc2, hA⟩ := h
  refine ⟨A, c, rfl, hc1, hc2, fun k hk => ?_⟩
  obtain ⟨g, o, rfl, hg, hc⟩ := hA (by omega)
  have h0 : l[k]? = some (l[k]'(by omega)) := by simp
  obtain ⟨d0, d1, d2⟩ := css_get B l k _ h0
  exact ⟨_, g, o, h0, rfl, hc _ _ d0, by rw [Nat.add_assoc]; exact hc _ _ d1, by rw [Nat.add_assoc]; exact hc _ _ d2⟩
set_option maxHeartbeats 1000000 in
theorem choose_ready {w : World} {S : Nat → Prop} {B : Nat → Nat} {P : Nat → Option ChS} (h : Pool w S B P) (v : Value) (l : List Cs) (n : Nat) (hn : l.length = n) (hrd : Rd w 3 v n (css B l)) (hok : ∀ x ∈ l, CsOk P x)
    (f : Nat → Bool) (hf : ∀ k x, l[k]? = some x → canC P x = f k) (hn2 : n ≤ 1000) (m : Nat) (hm : (rdy f n).length = m) :
    Calls Try.prog 15 #[v] w fun e w' => ∃ (A : Option Addr) (cp : Nat), e = .returned (.slice A m cp) ∧ Fr Nob w w' ∧ Sl w' (From w.heap.size) 3 1 (.slice A m cp) m (ints (rdy f n)) := by
  obtain ⟨A, c, rfl, hc1, hc2, hA⟩ := cs_in hn hrd
  have hcan : ∀ W x k, Fr Nob w W → l[k]? = some x → Calls Try.prog 40 #[.pointer (pa B x.1), .bool x.2.1] W fun e w' => e = .returned (.bool (f k)) ∧ ∃ m, w' = W.drewN m := fun W x k hW hx =>
    pool_can (h.fr0 hW) x (hok x (List.mem_of_getElem? hx)) _ (hf k x hx)
  have HA := Lib.hid hA; have Hcan := Lib.hid hcan; have Hm := Lib.hid hm
  clear hrd hA hok hf hn h hcan hm
  unfold maxLen at hc2
  go_enter Try.func15, Try.ntmps15
  go_wp2_with fail
  go_loopw [2, 7] (fun out i wr => ∃ (k r : Nat) (A' : Option Addr) (c' : Nat), i = .int .i64 k ∧ k ≤ n ∧ out = .slice A' r c' ∧ Hid ((rdy f k).length = r) ∧ r ≤ k ∧ Hid (Fr Nob w wr) ∧ Hid (Sl wr (From w.heap.size) 3 1 (.slice A' r c') r (ints (rdy f k)))) (fun _ i _ => n - (intOf i).toNat)
  case atStart => exact ⟨0, 0, none, 0, rfl, Nat.zero_le _, rfl, rfl, Nat.zero_le _, Fr.refl _ _, Sl.nil _ _ _ _⟩
  case round =>
    obtain ⟨wo, rfl⟩ : ∃ wo : World, wo = wr := ⟨_, rfl⟩
    obtain ⟨k, r, A', c', rfl, hk, rfl, Hr, hrk, Hf, Hs⟩ := hrel
    by_cases hlt : k < n
    · obtain ⟨x, g, o, hx, rfl, x0, x1, x2⟩ := HA.out k hlt
      have e0 := Hf.out.cell (p := ⟨g, o + k * 3, none⟩) id x0
      have e1 := Hf.out.cell (p := ⟨g, o + k * 3 + 1, none⟩) id x1
      have e2 := Hf.out.cell (p := ⟨g, o + k * 3 + 2, none⟩) id x2
      have hki : (k : Int) < n := by omega
      have Hc := Lib.hid (fun W hW => Hcan.out W x k hW hx)
      clear x0 x1 x2 hx
      obtain ⟨p, s, y⟩ := x
      dsimp only at e0 e1 e2 Hc
      generalize pa B p = pp at *
      go_wp2_with fail
      obtain ⟨wa, hwa⟩ : ∃ wa, wa = wo.alloc (.cells #[.pointer pp, .bool s, .int .i64 y] 29) := ⟨_, rfl⟩
      rw [← hwa]
      have hb : wa.heap[wo.heap.size]? = some (.cells #[.pointer pp, .bool s, .int .i64 y] 29 (0, 0)) := by rw [hwa]; exact heap_alloc_new _ _
      have c0 := blk_cell hb 0 rfl
      have c1 := blk_cell hb 1 rfl
      have hfa : Fr Nob wo wa := by rw [hwa]; exact (Fr.refl Nob wo).alloc _
      have Hfa := Lib.hid (Hf.out.trans0 hfa)
      have Hsa := Lib.hid (Hs.out.fr hfa fun _ _ q => q)
      clear hwa hb hfa Hf Hs e0 e1 e2
      refine (Hc.out wa Hfa.out).mono ?_
      rintro e w2 ⟨rfl, hq2⟩
      have hf2 := Fr.ofDrew hq2
      have Hf2 := Lib.hid (Hfa.out.trans0 hf2)
      have Hs2 := Lib.hid (Hsa.out.fr hf2 fun _ _ q => q)
      clear hf2 hq2 c0 c1
      cases hfk : f k with
      | true =>
        have Hrs := Lib.hid (rdy_yes hfk)
        go_wp2_with (at_builtin; (refine wpList_append1 _ rfl _ _ _ rfl (From w.heap.size) 3 _ 1 8 Try.underlying42 Try.info_int' rfl (by omega) (.slice A' r c') r (ints (rdy f k)) [.int .i64 (k : Int)] rfl Hs2.out rfl rfl rfl (by omega) (by omega) ?_; intro v5 w5 hs5 hf5 hz5))
        obtain ⟨A5, c5, rfl⟩ := hs5.slice
        have Hs5 : Hid (Sl w5 (From w.heap.size) 3 1 (.slice A5 (r + 1) c5) (r + 1) (ints (rdy f (k + 1)))) := by
          rw [Hrs.out, show ints (rdy f k ++ [(k : Int)]) = ints (rdy f k) ++ [.int .i64 (k : Int)] by simp [ints]]
          refine hs5.mono fun j hj q => ?_
          rcases q with q | q
          · exact q
          · have := Hf2.out.size; unfold From; omega
        have Hf5 : Hid (Fr Nob w w5) := Hf2.out.trans hf5 fun j hj q => by unfold From at q; omega
        have Hr5 : Hid ((rdy f (k + 1)).length = r + 1) := by rw [Hrs.out, List.length_append, Hr.out]; exact rfl
        clear hs5 hf5 hz5 Hrs hfk
        go_wp2_with fail
        go_roundw
        case rel => exact ⟨k + 1, r + 1, A5, c5, by go_num, by omega, rfl, Hr5, by omega, Hf5, Hs5⟩
        case measure => simp [intOf]; omega
      | false =>
        have Hrs := Lib.hid (rdy_no hfk)
        have Hs5 : Hid (Sl w2 (From w.heap.size) 3 1 (.slice A' r c') r (ints (rdy f (k + 1)))) := by rw [Hrs.out]; exact Hs2.out
        have Hr5 : Hid ((rdy f (k + 1)).length = r) := by rw [Hrs.out]; exact Hr.out
        clear Hrs hfk
        go_wp2_with fail
        go_roundw
        case rel => exact ⟨k + 1, r, A', c', by go_num, by omega, rfl, Hr5, by omega, Hf2, Hs5⟩
        case measure => simp [intOf]; omega
    · obtain rfl : k = n := by omega
      have hrm : r = m := by rw [← Hr.out, Hm.out]
      subst hrm
      go_wp2_with fail
      go_ret
      exact ⟨A', c', rfl, Hf.out, Hs.out⟩
set_option maxHeartbeats 1000000 in
theorem choose_leave {w : World} {S : Nat → Prop} {B : Nat → Nat} {P : Nat → Option ChS} (h : Pool w S B P) (v : Value) (l : List Cs) (n : Nat) (hn : l.length = n) (T : Nat → Prop) (hsl : Sl w T 29 3 v n (css B l)) (hst : ∀ k, S k → T k → False) (hok : ∀ x ∈ l, CsOk P x)
    (hn2 : n ≤ 1000) (hfew : Few P 1000) (t : Int) (r : Nat) (hr : leaveN t l P = r) :
    Calls Try.prog 13 #[v, .int .i64 t] w fun e w' => e = .returned (.int .i64 (r : Int)) ∧ Fr S w w' ∧ Pool w' S B (leaveF t l P) := by
  have hrd := hsl.rd
  obtain ⟨A, c, rfl, hc1, hc2, hA⟩ := cs_in hn hrd
  have hT : ∀ W, Fr S w W → Sl W T 29 3 (.slice A n c) n (css B l) := fun W hW => hsl.fr hW fun k q q' => hst k q' q
  have hA2 := fun W hW => cs_in hn (hT W hW).rd
  have hend : l.take n = l := by rw [← hn, List.take_length]
  have hrem : ∀ W k x, Pool W S B (leaveF t (l.take k) P) → l[k]? = some x → k < n → ∃ q : Nat, leaveN t (l.take (k + 1)) P = leaveN t (l.take k) P + q ∧ q ≤ 2000 ∧ leaveN t (l.take k) P ≤ 1000 * 2000 ∧
      Calls Try.prog 37 #[.pointer (pa B x.1), .int .i64 t] W fun e w' => e = .returned (.int .i64 (q : Int)) ∧ Fr S W w' ∧ Pool w' S B (leaveF t (l.take (k + 1)) P) := fun W k x hW hx hk => by
    have hs := take_snocC l k x hx
    have hlf := Few.leave t 1000 (l.take k) P hfew
    have hq := leaveC_le (t := t) hlf x.1
    have hle := leaveN_le (t := t) (l.take k) P hfew
    have hlt : (l.take k).length ≤ 1000 := by rw [List.length_take]; omega
    have hle2 := Nat.mul_le_mul_right (1000 + 1000) hlt
    refine ⟨leaveC t (leaveF t (l.take k) P) x.1, by rw [hs, leaveN_snoc], by omega, by omega, ?_⟩
    rw [hs, leaveF_snoc]
    have hox := CsOk.leave t (l.take k) P (hok x (List.mem_of_getElem? hx))
    obtain ⟨o, s, y⟩ := x
    cases o with
    | none =>
      exact (remove_nil W t).mono fun e w' ⟨h1, h2⟩ => ⟨h1, h2.none, hW.fr0 h2⟩
    | some i =>
      obtain ⟨d, hd⟩ := hox i rfl
      have := pool_remove hW i hd t _ _ rfl rfl
      simp only [leaveC, stepF, hd]
      exact this
  have HA := Lib.hid hA2; have Hrem := Lib.hid hrem; have Hr := Lib.hid hr; have Hend := Lib.hid hend; have Hp := Lib.hid h
  clear hrd hA hok hfew hn h hrem hr hsl hst hT hA2 hend
  unfold maxLen at hc2
  go_enter Try.func13, Try.ntmps13
  go_wp2_with fail
  go_loopw [4, 9] (fun c i wr => ∃ (k r : Nat), i = .int .i64 k ∧ k ≤ n ∧ c = .int .i64 r ∧ Hid (leaveN t (l.take k) P = r) ∧ r ≤ 3000000 ∧ Hid (Fr S w wr) ∧ Hid (Pool wr S B (leaveF t (l.take k) P))) (fun _ i _ => n - (intOf i).toNat)
  case atStart => exact ⟨0, 0, rfl, Nat.zero_le _, rfl, rfl, Nat.zero_le _, Fr.refl _ _, Hp⟩
  case round =>
    obtain ⟨wo, rfl⟩ : ∃ wo : World, wo = wr := ⟨_, rfl⟩
    obtain ⟨k, r', rfl, hk, rfl, Hr', hr3, Hf, Hpl⟩ := hrel
    by_cases hlt : k < n
    · obtain ⟨A1, c1, hv, _, _, hA1⟩ := HA.out wo Hf.out
      cases hv
      obtain ⟨x, g, o, hx, rfl, e0, e1, e2⟩ := hA1 k hlt
      have hki : (k : Int) < n := by omega
      have Hx := Lib.hid hx
      have Hc := Lib.hid (fun W hW => Hrem.out W k x hW Hx.out hlt)
      clear hx hA1
      obtain ⟨p, s, y⟩ := x
      dsimp only at e0 e1 e2 Hc
      generalize pa B p = pp at *
      go_wp2_with fail
      obtain ⟨wa, hwa⟩ : ∃ wa, wa = wo.alloc (.cells #[.pointer pp, .bool s, .int .i64 y] 29) := ⟨_, rfl⟩
      rw [← hwa]
      have hb : wa.heap[wo.heap.size]? = some (.cells #[.pointer pp, .bool s, .int .i64 y] 29 (0, 0)) := by rw [hwa]; exact heap_alloc_new _ _
      have c0 := blk_cell hb 0 rfl
      have hfa : Fr Nob wo wa := by rw [hwa]; exact (Fr.refl Nob wo).alloc _
      have Hfa := Lib.hid (Hf.out.trans0 hfa.none)
      have Hpa := Lib.hid (Hpl.out.fr0 hfa)
      clear hwa hb hfa Hf Hpl e0 e1 e2
      obtain ⟨q, hq1, hq2, hq3, hcall⟩ := Hc.out wa Hpa.out
      rw [Hr'.out] at hq1 hq3
      have Hq1 := Lib.hid hq1
      have Hcall := Lib.hid hcall
      have hsum : IntKind.i64.wrap ((r' : Int) + q) = (r' : Int) + q := IntWalk.i64_in _ (by omega)
      clear hq1 hcall Hc
      refine Hcall.out.mono ?_
      rintro e w2 ⟨rfl, hf2, hp2⟩
      have Hf2 := Lib.hid (Hfa.out.trans0 hf2)
      have Hp2 := Lib.hid hp2
      clear hf2 hp2
      go_wp2_with fail
      go_roundw
      case rel => exact ⟨k + 1, r' + q, by go_num, by omega, by first | rfl | (simp; done) | (congr 1; omega), Hq1, by omega, Hf2, Hp2⟩
      case measure => simp [intOf]; omega
    · obtain rfl : k = n := by omega
      have hfin := Hr'.out
      have hpl := Hpl.out
      rw [Hend.out] at hfin hpl
      have Hpl2 := Lib.hid hpl
      have hrr : r' = r := by rw [← hfin, Hr.out]
      subst hrr
      clear hfin hpl
      go_wp2_with fail
      go_ret
      exact ⟨rfl, Hf.out, Hpl2.out⟩
end Go.Proofs.Ytdemeghhjnehbaa
