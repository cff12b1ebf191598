/- What Do of package choose does when none is ready and there is no default: all wait. -/
import Derived.Test.YtdemeghhjnehbaaChooseDoA
set_option linter.unusedVariables false
set_option linter.unusedSimpArgs false
namespace Go.Proofs.Ytdemeghhjnehbaa
open Go.RowKit
set_option maxRecDepth 100000
theorem And'.sub {S : Nat → Prop} {w0 w w' : World} (h0 : w0.heap.size ≤ w.heap.size) (hz : w.heap.size ≤ w'.heap.size) : ∀ k, And' (And' S w0 w) w w' k → And' S w0 w' k := fun k q => by
  rcases q with (q | q) | q
  · exact .inl q
  · exact .inr ⟨q.1, by omega⟩
  · exact .inr ⟨by omega, q.2⟩
set_option maxHeartbeats 4000000 in
theorem do_park {w : World} {S : Nat → Prop} {B : Nat → Nat} {P : Nat → Option ChS} (h : Pool w S B P) (hS : ∀ k, S k → k < w.heap.size) (v : Value) (l : List Cs) (n : Nat) (hn : l.length = n) (T : Nat → Prop) (hsl : Sl w T 29 3 v n (css B l)) (hst : ∀ k, S k → T k → False) (hTw : ∀ k, T k → k < w.heap.size) (hok : ∀ x ∈ l, CsOk P x) (hmu : ∀ x ∈ l, (x.2.1 && muteC P x) = false)
    (hno : ∀ x ∈ l, canC P x = false) (hfew : Few P 1000) (hn2 : n ≤ 16) (dr t : Int) (ht : 0 ≤ t) :
    Calls Try.prog 11 #[v, .bool false, .int .i64 dr, .int .i64 t] w (DoP w (fun _ => S) (fun w' => And' S w w') B (parkF t l 0 P) (-1) 0 false false true false [] 0 0) := by
  have hrd := hsl.rd
  have hrdy := fun W (hW : Fr Nob w W) => choose_ready (h.fr0 hW) v l n hn (hrd.fr hW) hok (fun _ => false) (fun k x hx => hno x (List.mem_of_getElem? hx)) (by omega) 0 (by rw [rdy_none (fun _ _ => rfl)]; rfl)
  have hidx := fun W (hW : Fr Nob w W) => do_index (h.fr0 hW) v l n hn (hrd.fr hW) hok (fun _ => false) (fun k x hx => hmu x (List.mem_of_getElem? hx)) (by omega)
  obtain ⟨A, c0, rfl, hc1, hc2, _⟩ := cs_in hn hrd
  have hend : l.take n = l := by rw [← hn, List.take_length]
  have hA2 := fun W (hW : Fr S w W) => cs_in hn (hsl.fr hW fun k q q' => hst k q' q).rd
  have hwait : ∀ W S1 k x, Pool W S1 B (parkF t (l.take k) 0 P) → l[k]? = some x → k < n → Calls Try.prog 36 #[.pointer (pa B x.1), wtVal (t, (k : Int), valC x), .bool x.2.1] W fun e w' => ∃ r : Int, e = .returned (.int .i64 r) ∧ Fr S1 W w' ∧ Pool w' (And' S1 W w') B (parkF t (l.take (k + 1)) 0 P) := fun W S1 k x hW hx hk => by
    have hs := take_snocC l k x hx
    have hlen : (l.take k).length = k := by rw [List.length_take]; omega
    have hlf := Few.park t (l.take k) 0 P 1000 hfew
    rw [hlen] at hlf
    rw [hs, parkF_snoc, hlen, Nat.zero_add]
    have hox := CsOk.park t (l.take k) 0 P (hok x (List.mem_of_getElem? hx))
    obtain ⟨o, s, y⟩ := x
    cases o with
    | none => exact (wait_nil W (t, (k : Int), valC (none, s, y)) s).mono fun e w' ⟨h1, h2⟩ => ⟨6, h1, h2.none, (hW.fr0 h2).mono fun _ q => .inl q⟩
    | some i =>
      obtain ⟨d, hd⟩ := hox i rfl
      have hfd := hlf i d hd
      have := pool_wait hW i hd (t, (k : Int), valC (some i, s, y)) s _ rfl rfl ⟨by omega, by omega⟩
      simp only [stepF, hd]
      exact this.mono fun e w' ⟨h1, h2, h3⟩ => ⟨_, h1, h2, h3⟩
  have Hrdy := Lib.hid hrdy; have Hidx := Lib.hid hidx; have HA := Lib.hid hA2; have Hwait := Lib.hid hwait; have Hend := Lib.hid hend; have Hp := Lib.hid h; have HS := Lib.hid hS
  have hn16 : decide ((16 : Int) < n) = false := decide_eq_false (by omega)
  have ht0 : decide (t < 0) = false := decide_eq_false (by omega)
  have hn16' : ¬ (16 : Int) < n := by omega
  have ht0' : ¬ t < 0 := by omega
  clear hidx hrdy hA2 hwait hend hS hrd hsl hst hTw hok hmu hno h hn hfew
  unfold maxLen at hc2
  go_enter Try.func11, Try.ntmps11
  go_wp2_with fail
  obtain ⟨w1, hw1⟩ : ∃ w1, w1 = w.alloc (.cells (resA 0 0 false false false false) 31) := ⟨_, rfl⟩
  rw [← hw1]
  obtain ⟨rb, hrb⟩ : ∃ rb, rb = w.heap.size := ⟨_, rfl⟩
  rw [← hrb]
  have hf1 : Fr Nob w w1 := by rw [hw1]; exact (Fr.refl Nob w).alloc _
  have hb1 : w1.heap[rb]? = some (.cells #[.int .i64 0, .int .i64 0, .bool false, .bool false, .bool false, .bool false] 31 (0, 0)) := by rw [hw1, hrb]; exact blk_alloc_eq _ rfl
  have Hz1 : Hid (w.heap.size = rb ∧ rb < w1.heap.size) := ⟨hrb.symm, lt_of_block hb1⟩
  have Hf1 := Lib.hid hf1; have Hb1 := Lib.hid hb1
  clear hw1 hf1 hb1 hrb
  refine (Hidx.out w1 Hf1.out).mono ?_
  rintro e w2 ⟨r, rfl, hf2, hr1⟩
  obtain rfl : r = -1 := by rcases hr1 with ⟨h, _⟩ | ⟨_, _, _, hno, _⟩; exact h; cases hno
  clear hr1
  have Hb2 := Lib.hid (hf2.blk id Hb1.out)
  have Hf2 := Lib.hid (Hf1.out.trans0 hf2)
  have Hz2 := Lib.hid hf2.size
  clear hf2
  go_wp2_with fail
  refine (Hrdy.out w2 Hf2.out).mono ?_
  rintro e w3 ⟨A3, cp3, rfl, hf3, hs3⟩
  have hb3 := hf3.blk id Hb2.out
  have Hb3 := Lib.hid hb3
  have Hf3 := Lib.hid (Hf2.out.trans0 hf3)
  have Hz3 := Lib.hid hf3.size
  clear hf3 hs3
  have Hz4 : Hid (rb < w3.heap.size) := by have := Hz1.out; have := Hz2.out; have := Hz3.out; exact Lib.hid (by omega)
  have Hst : Hid (Pool w3 (And' S w3 w3) B (parkF t (l.take 0) 0 P)) := (Hp.out.fr0 Hf3.out).mono fun _ q => .inl q
  clear hb3
  go_wp2_with fail
  go_loopw [60] (fun i wr => ∃ k : Nat, i = .int .i64 k ∧ k ≤ n ∧ Hid (Fr S w3 wr) ∧ Hid (Pool wr (And' S w3 wr) B (parkF t (l.take k) 0 P))) (fun i _ => n - (intOf i).toNat)
  case atStart => exact ⟨0, rfl, Nat.zero_le _, Lib.hid (Fr.refl _ _), Hst⟩
  case round =>
    obtain ⟨wo, rfl⟩ : ∃ wo : World, wo = wr := ⟨_, rfl⟩
    obtain ⟨k, rfl, hk, Hf, Hpl⟩ := hrel
    by_cases hlt : k < n
    · obtain ⟨A1, c1, hv, _, _, hA1⟩ := HA.out wo (Hf3.out.none.trans0 Hf.out)
      cases hv
      obtain ⟨x, g, o, hx, rfl, e0, e1, e2⟩ := hA1 k hlt
      have hki : (k : Int) < n := by omega
      have Hx := Lib.hid hx
      have Hc := Lib.hid (fun W S1 hW => Hwait.out W S1 k x hW Hx.out hlt)
      clear hx hA1
      obtain ⟨p, s, y⟩ := x
      dsimp only at e0 e1 e2 Hc
      generalize pa B p = pp at *
      cases s with
      | false =>
        have Hc2 : Hid (∀ W S1, Pool W S1 B (parkF t (l.take k) 0 P) → Calls Try.prog 36 #[.pointer pp, .agg #[.int .i64 t, .int .i64 (k : Int), .int .i64 0], .bool false] W fun e w' => ∃ r : Int, e = .returned (.int .i64 r) ∧ Fr S1 W w' ∧ Pool w' (And' S1 W w') B (parkF t (l.take (k + 1)) 0 P)) := Hc
        clear Hc
        go_wp2_with fail
        obtain ⟨wa, hwa⟩ : ∃ wa, wa = (wo.alloc (.cells #[.pointer pp, .bool false, .int .i64 y] 29)).alloc (.cells #[.int .i64 t, .int .i64 (k : Int), .int .i64 0] 63) := ⟨_, rfl⟩
        rw [← hwa]
        have hfa : Fr Nob wo wa := by rw [hwa]; exact ((Fr.refl Nob wo).alloc _).alloc _
        have hza := hfa.size
        have Hza := Lib.hid hza
        have Hfa := Lib.hid (Hf.out.trans0 hfa.none)
        have Hpa := Lib.hid (Hpl.out.fr0 hfa)
        have Hzo := Lib.hid Hf.out.size
        clear hwa hfa hza Hf Hpl e0 e1 e2
        refine (Hc2.out wa _ Hpa.out).mono ?_
        rintro e w5 ⟨r, rfl, hf5, hp5⟩
        have Hf5 : Hid (Fr S w3 w5) := Hfa.out.trans hf5 fun q hq a => by
          rcases a with a | a
          · exact a
          · omega
        have Hp5 : Hid (Pool w5 (And' S w3 w5) B (parkF t (l.take (k + 1)) 0 P)) := hp5.mono fun q a => by
          have := hf5.size; have := Hza.out; have := Hzo.out
          rcases a with (a | a) | a
          · exact .inl a
          · exact .inr ⟨a.1, by omega⟩
          · exact .inr ⟨by omega, a.2⟩
        clear hf5 hp5
        go_wp2_with fail
        go_roundw
        case rel => exact ⟨k + 1, by go_num, by omega, Hf5, Hp5⟩
        case measure => simp [intOf]; omega
      | true =>
        have Hc2 : Hid (∀ W S1, Pool W S1 B (parkF t (l.take k) 0 P) → Calls Try.prog 36 #[.pointer pp, .agg #[.int .i64 t, .int .i64 (k : Int), .int .i64 y], .bool true] W fun e w' => ∃ r : Int, e = .returned (.int .i64 r) ∧ Fr S1 W w' ∧ Pool w' (And' S1 W w') B (parkF t (l.take (k + 1)) 0 P)) := Hc
        clear Hc
        go_wp2_with fail
        obtain ⟨wa, hwa⟩ : ∃ wa, wa = (wo.alloc (.cells #[.pointer pp, .bool true, .int .i64 y] 29)).alloc (.cells #[.int .i64 t, .int .i64 (k : Int), .int .i64 y] 63) := ⟨_, rfl⟩
        rw [← hwa]
        have hfa : Fr Nob wo wa := by rw [hwa]; exact ((Fr.refl Nob wo).alloc _).alloc _
        have hza := hfa.size
        have Hza := Lib.hid hza
        have Hfa := Lib.hid (Hf.out.trans0 hfa.none)
        have Hpa := Lib.hid (Hpl.out.fr0 hfa)
        have Hzo := Lib.hid Hf.out.size
        clear hwa hfa hza Hf Hpl e0 e1 e2
        refine (Hc2.out wa _ Hpa.out).mono ?_
        rintro e w5 ⟨r, rfl, hf5, hp5⟩
        have Hf5 : Hid (Fr S w3 w5) := Hfa.out.trans hf5 fun q hq a => by
          rcases a with a | a
          · exact a
          · omega
        have Hp5 : Hid (Pool w5 (And' S w3 w5) B (parkF t (l.take (k + 1)) 0 P)) := hp5.mono fun q a => by
          have := hf5.size; have := Hza.out; have := Hzo.out
          rcases a with (a | a) | a
          · exact .inl a
          · exact .inr ⟨a.1, by omega⟩
          · exact .inr ⟨by omega, a.2⟩
        clear hf5 hp5
        go_wp2_with fail
        go_roundw
        case rel => exact ⟨k + 1, by go_num, by omega, Hf5, Hp5⟩
        case measure => simp [intOf]; omega
    · obtain rfl : k = n := by omega
      have hpl := Hpl.out
      rw [Hend.out] at hpl
      have Hpl2 := Lib.hid hpl
      have hns : ¬ S rb := fun q => by have := HS.out _ q; have := Hz1.out; omega
      have hbo := Hf.out.blk hns Hb3.out
      have f0 := blk_froz hbo 0
      have c00 := blk_cell hbo 0 rfl
      have f1 := blk_froz hbo 1
      have c01 := blk_cell hbo 1 rfl
      have f2 := blk_froz hbo 2
      have c02 := blk_cell hbo 2 rfl
      have f3 := blk_froz hbo 3
      have c03 := blk_cell hbo 3 rfl
      have f4 := blk_froz hbo 4
      have c04 := blk_cell hbo 4 rfl
      have f5 := blk_froz hbo 5
      have c05 := blk_cell hbo 5 rfl
      have Hbo := Lib.hid hbo; have Hns := Lib.hid hns
      clear hpl hns hbo Hpl
      go_wp2_with fail
      obtain ⟨wx, hwx⟩ : ∃ wx, wx = ((((((wo.setCell ⟨rb, 0, none⟩ (.int .i64 (-1))).setCell ⟨rb, 1, none⟩ (.int .i64 0)).setCell ⟨rb, 2, none⟩ (.bool false)).setCell ⟨rb, 3, none⟩ (.bool false)).setCell ⟨rb, 4, none⟩ (.bool true)).setCell ⟨rb, 5, none⟩ (.bool false)) := ⟨_, rfl⟩
      rw [← hwx]
      have hfx : Fr (fun k => k = rb) (wo) wx := by rw [hwx]; exact six_fr _ _ _ _ _ _ _ _
      have hbx : wx.heap[rb]? = some (.cells #[.int .i64 (-1), .int .i64 0, .bool false, .bool false, .bool true, .bool false] 31 (0, 0)) := by rw [hwx]; exact six_blk Hbo.out _ _ _ _ _ _
      clear hwx
      have t0 := blk_cell hbx 0 rfl
      have t1 := blk_cell hbx 1 rfl
      have t2 := blk_cell hbx 2 rfl
      have t3 := blk_cell hbx 3 rfl
      have t4 := blk_cell hbx 4 rfl
      have t5 := blk_cell hbx 5 rfl
      refine bodyPost_ret (v := .tuple #[.agg #[.int .i64 (-1), .int .i64 0, .bool false, .bool false, .bool true, .bool false], .slice none 0 0, .int .i64 0]) (by simp [results, Try.results11, go_sem, t0, t1, t2, t3, t4, t5]) rfl ⟨none, 0, rfl, ?_, ?_, Sl.nil _ _ _ _⟩
      · exact (Hf3.out.none.trans0 Hf.out).trans hfx fun q hk e => by have := Hz1.out; omega
      · exact (Hpl2.out.fr hfx fun q a e => by
          subst e
          rcases a with a | a
          · exact Hns.out a
          · have := Hz4.out; omega).mono fun q a => by
            have := hfx.size; have := Hf3.out.size
            rcases a with a | a
            · exact .inl a
            · exact .inr ⟨by omega, by omega⟩
end Go.Proofs.Ytdemeghhjnehbaa
