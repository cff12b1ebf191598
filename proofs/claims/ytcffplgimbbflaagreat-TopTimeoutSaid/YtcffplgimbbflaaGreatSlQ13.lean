/- Who waits on a channel, from outside; what two laws need. -/
import Derived.Test.YtcffplgimbbflaaGreatSlQ12
set_option linter.unusedVariables false
set_option linter.unusedSimpArgs false
namespace Go.Proofs.YtcffplgimbbflaaGreat
open Go.RowKit
set_option maxRecDepth 100000
theorem And'.sub {S : Nat → Prop} {w0 w w' : World} (h0 : w0.heap.size ≤ w.heap.size) (hz : w.heap.size ≤ w'.heap.size) : ∀ k, And' (And' S w0 w) w w' k → And' S w0 w' k := fun k q => by
  rcases q with (q | q) | q
  · exact .inl q
  · exact .inr ⟨q.1, by omega⟩
  · exact .inr ⟨by omega, q.2⟩
set_option maxHeartbeats 4000000 in
theorem do_park {w : World} {S : Nat → Prop} {B : Nat → Nat} {P : Nat → Option ChS} (h : Pool w S B P) (hS : ∀ k, S k → k < w.heap.size) (v : Value) (l : List Cs) (n : Nat) (hn : l.length = n) (T : Nat → Prop) (hsl : Sl w T 242 3 v n (css B l)) (hst : ∀ k, S k → T k → False) (hTw : ∀ k, T k → k < w.heap.size) (hok : ∀ x ∈ l, CsOk P x) (hmu : ∀ x ∈ l, (x.2.1 && muteC P x) = false)
    (hno : ∀ x ∈ l, canC P x = false) (hfew : Few P 1000) (hn2 : n ≤ 16) (dr t : Int) (ht : 0 ≤ t) :
    Calls Tryz.prog 135 #[v, .bool false, .int .i64 dr, .int .i64 t] w (DoP w (fun _ => S) (fun w' => And' S w w') B (parkF t l 0 P) (-1) 0 false false true false [] 0 0) := by
  have hrd := hsl.rd
  have hrdy := fun W (hW : Fr Nob w W) => choose_ready (h.fr0 hW) v l n hn (hrd.fr hW) hok (fun _ => false) (fun k x hx => hno x (List.mem_of_getElem? hx)) (by omega) 0 (by rw [rdy_none (fun _ _ => rfl)]; rfl)
  have hidx := fun W (hW : Fr Nob w W) => do_index (h.fr0 hW) v l n hn (hrd.fr hW) hok (fun _ => false) (fun k x hx => hmu x (List.mem_of_getElem? hx)) (by omega)
  obtain ⟨A, c0, rfl, hc1, hc2, _⟩ := cs_in hn hrd
  have hend : l.take n = l := by rw [← hn, List.take_length]
  have hA2 := fun W (hW : Fr S w W) => cs_in hn (hsl.fr hW fun k q q' => hst k q' q).rd
  have hwait : ∀ W S1 k x, Pool W S1 B (parkF t (l.take k) 0 P) → l[k]? = some x → k < n → Calls Tryz.prog 171 #[.pointer (pa B x.1), wtVal (t, (k : Int), valC x), .bool x.2.1] W fun e w' => ∃ r : Int, e = .returned (.int .i64 r) ∧ Fr S1 W w' ∧ Pool w' (And' S1 W w') B (parkF t (l.take (k + 1)) 0 P) := fun W S1 k x hW hx hk => by
    have hs := take_snocC l k x hx
    have hlen : (l.take k).length = k := by rw [List.length_take]; omega
    have hlf := Few.park t (l.take k) 0 P 1000 hfew
    rw [hlen] at hlf
    rw [hs, parkF_snoc, hlen, Nat.zero_add]
    have hox := CsOk.park t (l.take k) 0 P (hok x (List.mem_of_getElem? hx))
    obtain ⟨o, s, y⟩ := x
    cases o with
    | none => exact (wait_nil W (t, (k : Int), valC (none, s, y)) s).mono fun e w' ⟨h1, h2⟩ => ⟨6, h1, h2.none, (hW.fr0 h2).mono fun _ q => .inl q⟩
    | some i =>
      obtain ⟨d, hd⟩ := hox i rfl
      have hfd := hlf i d hd
      have := pool_wait hW i hd (t, (k : Int), valC (some i, s, y)) s _ rfl rfl ⟨by omega, by omega⟩
      simp only [stepF, hd]
      exact this.mono fun e w' ⟨h1, h2, h3⟩ => ⟨_, h1, h2, h3⟩
  have Hrdy := Lib.hid hrdy; have Hidx := Lib.hid hidx; have HA := Lib.hid hA2; have Hwait := Lib.hid hwait; have Hend := Lib.hid hend; have Hp := Lib.hid h; have HS := Lib.hid hS
  have hn16 : decide ((16 : Int) < n) = false := decide_eq_false (by omega)
  have ht0 : decide (t < 0) = false := decide_eq_false (by omega)
  have hn16' : ¬ (16 : Int) < n := by omega
  have ht0' : ¬ t < 0 := by omega
  clear hidx hrdy hA2 hwait hend hS hrd hsl hst hTw hok hmu hno h hn hfew
  unfold maxLen at hc2
  go_enter Tryz.func135, Tryz.ntmps135
  go_wp2_with fail
  obtain ⟨w1, hw1⟩ : ∃ w1, w1 = w.alloc (.cells (resA 0 0 false false false false) 238) := ⟨_, rfl⟩
  rw [← hw1]
  obtain ⟨rb, hrb⟩ : ∃ rb, rb = w.heap.size := ⟨_, rfl⟩
  rw [← hrb]
  have hf1 : Fr Nob w w1 := by rw [hw1]; exact (Fr.refl Nob w).alloc _
  have hb1 : w1.heap[rb]? = some (.cells #[.int .i64 0, .int .i64 0, .bool false, .bool false, .bool false, .bool false] 238 (0, 0)) := by rw [hw1, hrb]; exact blk_alloc_eq _ rfl
  have Hz1 : Hid (w.heap.size = rb ∧ rb < w1.heap.size) := ⟨hrb.symm, lt_of_block hb1⟩
  have Hf1 := Lib.hid hf1; have Hb1 := Lib.hid hb1
  clear hw1 hf1 hb1 hrb
  refine (Hidx.out w1 Hf1.out).mono ?_
  rintro e w2 ⟨r, rfl, hf2, hr1⟩
  obtain rfl : r = -1 := by rcases hr1 with ⟨h, _⟩ | ⟨_, _, _, hno, _⟩; exact h; cases hno
  clear hr1
  have Hb2 := Lib.hid (hf2.blk id Hb1.out)
  have Hf2 := Lib.hid (Hf1.out.trans0 hf2)
  have Hz2 := Lib.hid hf2.size
  clear hf2
  go_wp2_with fail
  refine (Hrdy.out w2 Hf2.out).mono ?_
  rintro e w3 ⟨A3, cp3, rfl, hf3, hs3⟩
  have hb3 := hf3.blk id Hb2.out
  have Hb3 := Lib.hid hb3
  have Hf3 := Lib.hid (Hf2.out.trans0 hf3)
  have Hz3 := Lib.hid hf3.size
  clear hf3 hs3
  have Hz4 : Hid (rb < w3.heap.size) := by have := Hz1.out; have := Hz2.out; have := Hz3.out; exact Lib.hid (by omega)
  have Hst : Hid (Pool w3 (And' S w3 w3) B (parkF t (l.take 0) 0 P)) := (Hp.out.fr0 Hf3.out).mono fun _ q => .inl q
  clear hb3
  go_wp2_with fail
  go_loopw [60] (fun i wr => ∃ k : Nat, i = .int .i64 k ∧ k ≤ n ∧ Hid (Fr S w3 wr) ∧ Hid (Pool wr (And' S w3 wr) B (parkF t (l.take k) 0 P))) (fun i _ => n - (intOf i).toNat)
  case atStart => exact ⟨0, rfl, Nat.zero_le _, Lib.hid (Fr.refl _ _), Hst⟩
  case round =>
    obtain ⟨wo, rfl⟩ : ∃ wo : World, wo = wr := ⟨_, rfl⟩
    obtain ⟨k, rfl, hk, Hf, Hpl⟩ := hrel
    by_cases hlt : k < n
    · obtain ⟨A1, c1, hv, _, _, hA1⟩ := HA.out wo (Hf3.out.none.trans0 Hf.out)
      cases hv
      obtain ⟨x, g, o, hx, rfl, e0, e1, e2⟩ := hA1 k hlt
      have hki : (k : Int) < n := by omega
      have Hx := Lib.hid hx
      have Hc := Lib.hid (fun W S1 hW => Hwait.out W S1 k x hW Hx.out hlt)
      clear hx hA1
      obtain ⟨p, s, y⟩ := x
      dsimp only at e0 e1 e2 Hc
      generalize pa B p = pp at *
      cases s with
      | false =>
        have Hc2 : Hid (∀ W S1, Pool W S1 B (parkF t (l.take k) 0 P) → Calls Tryz.prog 171 #[.pointer pp, .agg #[.int .i64 t, .int .i64 (k : Int), .int .i64 0], .bool false] W fun e w' => ∃ r : Int, e = .returned (.int .i64 r) ∧ Fr S1 W w' ∧ Pool w' (And' S1 W w') B (parkF t (l.take (k + 1)) 0 P)) := Hc
        clear Hc
        go_wp2_with fail
        obtain ⟨wa, hwa⟩ : ∃ wa, wa = (wo.alloc (.cells #[.pointer pp, .bool false, .int .i64 y] 242)).alloc (.cells #[.int .i64 t, .int .i64 (k : Int), .int .i64 0] 154) := ⟨_, rfl⟩
        rw [← hwa]
        have hfa : Fr Nob wo wa := by rw [hwa]; exact ((Fr.refl Nob wo).alloc _).alloc _
        have hza := hfa.size
        have Hza := Lib.hid hza
        have Hfa := Lib.hid (Hf.out.trans0 hfa.none)
        have Hpa := Lib.hid (Hpl.out.fr0 hfa)
        have Hzo := Lib.hid Hf.out.size
        clear hwa hfa hza Hf Hpl e0 e1 e2
        refine (Hc2.out wa _ Hpa.out).mono ?_
        rintro e w5 ⟨r, rfl, hf5, hp5⟩
        have Hf5 : Hid (Fr S w3 w5) := Hfa.out.trans hf5 fun q hq a => by
          rcases a with a | a
          · exact a
          · omega
        have Hp5 : Hid (Pool w5 (And' S w3 w5) B (parkF t (l.take (k + 1)) 0 P)) := hp5.mono fun q a => by
          have := hf5.size; have := Hza.out; have := Hzo.out
          rcases a with (a | a) | a
          · exact .inl a
          · exact .inr ⟨a.1, by omega⟩
          · exact .inr ⟨by omega, a.2⟩
        clear hf5 hp5
        go_wp2_with fail
        go_roundw
        case rel => exact ⟨k + 1, by go_num, by omega, Hf5, Hp5⟩
        case measure => simp [intOf]; omega
      | true =>
        have Hc2 : Hid (∀ W S1, Pool W S1 B (parkF t (l.take k) 0 P) → Calls Tryz.prog 171 #[.pointer pp, .agg #[.int .i64 t, .int .i64 (k : Int), .int .i64 y], .bool true] W fun e w' => ∃ r : Int, e = .returned (.int .i64 r) ∧ Fr S1 W w' ∧ Pool w' (And' S1 W w') B (parkF t (l.take (k + 1)) 0 P)) := Hc
        clear Hc
        go_wp2_with fail
        obtain ⟨wa, hwa⟩ : ∃ wa, wa = (wo.alloc (.cells #[.pointer pp, .bool true, .int .i64 y] 242)).alloc (.cells #[.int .i64 t, .int .i64 (k : Int), .int .i64 y] 154) := ⟨_, rfl⟩
        rw [← hwa]
        have hfa : Fr Nob wo wa := by rw [hwa]; exact ((Fr.refl Nob wo).alloc _).alloc _
        have hza := hfa.size
        have Hza := Lib.hid hza
        have Hfa := Lib.hid (Hf.out.trans0 hfa.none)
        have Hpa := Lib.hid (Hpl.out.fr0 hfa)
        have Hzo := Lib.hid Hf.out.size
        clear hwa hfa hza Hf Hpl e0 e1 e2
        refine (Hc2.out wa _ Hpa.out).mono ?_
        rintro e w5 ⟨r, rfl, hf5, hp5⟩
        have Hf5 : Hid (Fr S w3 w5) := Hfa.out.trans hf5 fun q hq a => by
          rcases a with a | a
          · exact a
          · omega
        have Hp5 : Hid (Pool w5 (And' S w3 w5) B (parkF t (l.take (k + 1)) 0 P)) := hp5.mono fun q a => by
          have := hf5.size; have := Hza.out; have := Hzo.out
          rcases a with (a | a) | a
          · exact .inl a
          · exact .inr ⟨a.1, by omega⟩
          · exact .inr ⟨by omega, a.2⟩
        clear hf5 hp5
        go_wp2_with fail
        go_roundw
        case rel => exact ⟨k + 1, by go_num, by omega, Hf5, Hp5⟩
        case measure => simp [intOf]; omega
    · obtain rfl : k = n := by omega
      have hpl := Hpl.out
      rw [Hend.out] at hpl
      have Hpl2 := Lib.hid hpl
      have hns : ¬ S rb := fun q => by have := HS.out _ q; have := Hz1.out; omega
      have hbo := Hf.out.blk hns Hb3.out
      have f0 := blk_froz hbo 0
      have c00 := blk_cell hbo 0 rfl
      have f1 := blk_froz hbo 1
      have c01 := blk_cell hbo 1 rfl
      have f2 := blk_froz hbo 2
      have c02 := blk_cell hbo 2 rfl
      have f3 := blk_froz hbo 3
      have c03 := blk_cell hbo 3 rfl
      have f4 := blk_froz hbo 4
      have c04 := blk_cell hbo 4 rfl
      have f5 := blk_froz hbo 5
      have c05 := blk_cell hbo 5 rfl
      have Hbo := Lib.hid hbo; have Hns := Lib.hid hns
      clear hpl hns hbo Hpl
      go_wp2_with fail
      obtain ⟨wx, hwx⟩ : ∃ wx, wx = ((((((wo.setCell ⟨rb, 0, none⟩ (.int .i64 (-1))).setCell ⟨rb, 1, none⟩ (.int .i64 0)).setCell ⟨rb, 2, none⟩ (.bool false)).setCell ⟨rb, 3, none⟩ (.bool false)).setCell ⟨rb, 4, none⟩ (.bool true)).setCell ⟨rb, 5, none⟩ (.bool false)) := ⟨_, rfl⟩
      rw [← hwx]
      have hfx : Fr (fun k => k = rb) (wo) wx := by rw [hwx]; exact six_fr _ _ _ _ _ _ _ _
      have hbx : wx.heap[rb]? = some (.cells #[.int .i64 (-1), .int .i64 0, .bool false, .bool false, .bool true, .bool false] 238 (0, 0)) := by rw [hwx]; exact six_blk Hbo.out _ _ _ _ _ _
      clear hwx
      have t0 := blk_cell hbx 0 rfl
      have t1 := blk_cell hbx 1 rfl
      have t2 := blk_cell hbx 2 rfl
      have t3 := blk_cell hbx 3 rfl
      have t4 := blk_cell hbx 4 rfl
      have t5 := blk_cell hbx 5 rfl
      refine bodyPost_ret (v := .tuple #[.agg #[.int .i64 (-1), .int .i64 0, .bool false, .bool false, .bool true, .bool false], .slice none 0 0, .int .i64 0]) (by simp [results, Tryz.results135, go_sem, t0, t1, t2, t3, t4, t5]) rfl ⟨none, 0, rfl, ?_, ?_, Sl.nil _ _ _ _⟩
      · exact (Hf3.out.none.trans0 Hf.out).trans hfx fun q hk e => by have := Hz1.out; omega
      · exact (Hpl2.out.fr hfx fun q a e => by
          subst e
          rcases a with a | a
          · exact Hns.out a
          · have := Hz4.out; omega).mono fun q a => by
            have := hfx.size; have := Hf3.out.size
            rcases a with a | a
            · exact .inl a
            · exact .inr ⟨by omega, by omega⟩
section
variable {w : World} {S : Nat → Prop} {B : Nat → Nat} {P : Nat → Option ChS} (h : Pool w S B P)
include h
def PPutP (w : World) (S : Nat → Prop) (B : Nat → Nat) (P : Nat → Option ChS) (l : List Wk) (n : Nat) (k : Bool) (e : Ending) (w' : World) : Prop := ∃ (A : Option Addr) (cp : Nat), e = .returned (.tuple #[.slice A n cp, .bool k]) ∧ Fr S w w' ∧ Pool w' S B P ∧ Sl w' (From w.heap.size) 225 5 (.slice A n cp) n (wks l)
theorem pool_put (i : Nat) {c c' : ChS} (hi : P i = some c) (v : Int) (l : List Wk) (n : Nat) (d : Bool) (hr : c.putR v = (l, d)) (hs : c.putS v = c') (hn : l.length = n) :
    Calls Tryz.prog 72 #[.pointer (some ⟨B i, 0, none⟩), .int .i64 v] w (PPutP w S B (Go.Proofs.YtcffplgimbbflaaGreat.upd P i (some c')) l n d) := by
  obtain ⟨T, h1, h2, h3, _⟩ := h.at hi
  refine (chan_put h1 v l n d hr hs hn).mono ?_
  rintro e w' ⟨A, cp, rfl, hf, hc, hsl⟩
  exact ⟨A, cp, rfl, hf.mono fun k _ q => h2 k q, h3 w' c' hf hc, hsl.mono fun k _ q => q.1⟩
theorem pool_drop (i : Nat) {c c' : ChS} (hi : P i = some c) (d : Bool) (hr : c.dropR = d) (hs : c.dropS = c') :
    Calls Tryz.prog 181 #[.pointer (some ⟨B i, 0, none⟩)] w fun e w' => e = .returned (.bool d) ∧ Fr S w w' ∧ Pool w' S B (Go.Proofs.YtcffplgimbbflaaGreat.upd P i (some c')) := by
  obtain ⟨T, h1, h2, h3, _⟩ := h.at hi
  refine (chan_drop h1 d hr hs).mono ?_
  rintro e w' ⟨rfl, hf, hc⟩
  exact ⟨rfl, hf.mono fun k _ q => h2 k q, h3 w' c' hf hc⟩
theorem pool_cap (i : Nat) {c : ChS} (hi : P i = some c) (n : Nat) (hn : c.capR = n) : Calls Tryz.prog 17 #[.pointer (some ⟨B i, 0, none⟩)] w fun e w' => e = .returned (.int .i64 (n : Int)) ∧ w = w' := by
  obtain ⟨T, h1, _⟩ := h.at hi; exact chan_cap w T _ c h1 n hn
end
section
variable {w : World} {b : Nat} {x0 x1 x2 x3 x4 x5 x6 : Value} {T : TypeId} (h : w.heap[b]? = some (.cells #[x0, x1, x2, x3, x4, x5, x6] T (0, 0))) (y : Value)
include h
theorem seven0 : (w.setCell ⟨b, 0, none⟩ y).heap[b]? = some (.cells #[y, x1, x2, x3, x4, x5, x6] T (0, 0)) := blk_set h 0 y
theorem seven1 : (w.setCell ⟨b, 1, none⟩ y).heap[b]? = some (.cells #[x0, y, x2, x3, x4, x5, x6] T (0, 0)) := blk_set h 1 y
theorem seven2 : (w.setCell ⟨b, 2, none⟩ y).heap[b]? = some (.cells #[x0, x1, y, x3, x4, x5, x6] T (0, 0)) := blk_set h 2 y
theorem seven3 : (w.setCell ⟨b, 3, none⟩ y).heap[b]? = some (.cells #[x0, x1, x2, y, x4, x5, x6] T (0, 0)) := blk_set h 3 y
theorem seven4 : (w.setCell ⟨b, 4, none⟩ y).heap[b]? = some (.cells #[x0, x1, x2, x3, y, x5, x6] T (0, 0)) := blk_set h 4 y
theorem seven5 : (w.setCell ⟨b, 5, none⟩ y).heap[b]? = some (.cells #[x0, x1, x2, x3, x4, y, x6] T (0, 0)) := blk_set h 5 y
theorem seven6 : (w.setCell ⟨b, 6, none⟩ y).heap[b]? = some (.cells #[x0, x1, x2, x3, x4, x5, y] T (0, 0)) := blk_set h 6 y
end
theorem seven_blk {w : World} {b : Nat} {y0 y1 y2 y3 y4 y5 y6 : Value} {T : TypeId} (h : w.heap[b]? = some (.cells #[y0, y1, y2, y3, y4, y5, y6] T (0, 0))) (x0 x1 x2 x3 x4 x5 x6 : Value) : (((((((w.setCell ⟨b, 0, none⟩ x0).setCell ⟨b, 1, none⟩ x1).setCell ⟨b, 2, none⟩ x2).setCell ⟨b, 3, none⟩ x3).setCell ⟨b, 4, none⟩ x4).setCell ⟨b, 5, none⟩ x5).setCell ⟨b, 6, none⟩ x6).heap[b]? = some (.cells #[x0, x1, x2, x3, x4, x5, x6] T (0, 0)) :=
  seven6 (seven5 (seven4 (seven3 (seven2 (seven1 (seven0 h x0) x1) x2) x3) x4) x5) x6
theorem seven_fr (w : World) (b : Nat) (x0 x1 x2 x3 x4 x5 x6 : Value) : Fr (fun k => k = b) w (((((((w.setCell ⟨b, 0, none⟩ x0).setCell ⟨b, 1, none⟩ x1).setCell ⟨b, 2, none⟩ x2).setCell ⟨b, 3, none⟩ x3).setCell ⟨b, 4, none⟩ x4).setCell ⟨b, 5, none⟩ x5).setCell ⟨b, 6, none⟩ x6) :=
  ((((((Fr.refl _ w).setB 0 x0 |>.setB 1 x1).setB 2 x2).setB 3 x3).setB 4 x4).setB 5 x5).setB 6 x6
def MkTmP (w : World) (S : Nat → Prop) (b : Nat) (l : List Tr) (n kind : Int) (named : Nat) (hp : List Hi) (seq : Nat) (per : Int → Option Int) (nm : Nat) (e : Ending) (w' : World) : Prop := ∃ (cb : Nat) (S' T : Nat → Prop), e = .returned (.tuple #[.int .i64 n, .pointer (some ⟨cb, 0, none⟩), .int .i64 0]) ∧ Fr S w w' ∧ TmAt w' S' b (l ++ [(kind, 0, cb, 1)]) named hp seq per nm ∧ ChanAt w' T cb chTimed ∧ (∀ k, S' k → S k ∨ w.heap.size ≤ k) ∧ (∀ k, T k → w.heap.size ≤ k) ∧ ∀ k, S' k → T k → False
section
variable {w : World} {S : Nat → Prop} {b : Nat} {l : List Tr} {named : Nat} {hp : List Hi} {seq : Nat} {per : Int → Option Int} {nm : Nat} (h : TmAt w S b l named hp seq per nm)
include h
theorem tim_channel (kind : Int) (hk : kind = 1 ∨ kind = 2) (n : Nat) (hl : l.length = n) (hn : n < 900) (hna : named < 64) (now d : Int) (h0 : 0 ≤ now) (h1 : now ≤ maxT) (hd : 1 ≤ d) (hnm : nm < 700000) {l' : List Hi} (hl' : heapAdd (heapDel hp n) ((n : Int), addT now d, ((seq + 1 : Nat) : Int)) = some l') :
    Calls Tryz.prog 179 #[.pointer (some ⟨b, 0, none⟩), .int .i64 kind, .int .i64 now, .int .i64 d] w (MkTmP w S b l n kind (named + 1) l' (seq + 1) (putP per n (perOf kind d)) (nm + 6)) := by
  have Ht := Lib.hid (chan_timed w)
  have Hm := Lib.hid (fun W (hW : Fr Nob w W) cb => tim_make (h.fr0 hW) kind hk cb n hl hn hna now d h0 h1 hd hnm hl')
  have H := Lib.hid h
  clear h hl'
  go_enter Tryz.func179, Tryz.ntmps179
  go_wp2_with fail
  refine Ht.out.mono ?_
  rintro e w1 ⟨cb, T, rfl, hf1, hc1, ht1⟩
  have Hf1 := Lib.hid hf1; have Hc1 := Lib.hid hc1; have Ht1 := Lib.hid ht1
  clear hf1 hc1 ht1
  go_wp2_with fail
  refine (Hm.out w1 Hf1.out cb).mono ?_
  rintro e w2 ⟨S2, rfl, hf2, ha2, hs2⟩
  have Hf2 := Lib.hid hf2; have Ha2 := Lib.hid ha2; have Hs2 := Lib.hid hs2
  clear hf2 ha2 hs2
  go_wp2_with fail
  go_ret3
  have hz := Hf1.out.size
  refine ⟨cb, S2, T, rfl, Hf1.out.none.trans0 Hf2.out, Ha2.out, Hc1.out.fr Hf2.out fun k q q' => ?_, fun k q => ?_, Ht1.out, fun k q q' => ?_⟩
  · have := Ht1.out k q; have := H.out.lt k q'; omega
  · rcases Hs2.out k q with q | q
    · exact .inl q
    · exact .inr (by omega)
  · have := Hc1.out.lt k q'; have := Ht1.out k q'
    rcases Hs2.out k q with q | q
    · have := H.out.lt k q; omega
    · omega
theorem tim_timer (n : Nat) (hl : l.length = n) (hn : n < 900) (hna : named < 64) (now d : Int) (h0 : 0 ≤ now) (h1 : now ≤ maxT) (hd : 1 ≤ d) (hnm : nm < 700000) {l' : List Hi} (hl' : heapAdd (heapDel hp n) ((n : Int), addT now d, ((seq + 1 : Nat) : Int)) = some l') :
    Calls Tryz.prog 137 #[.pointer (some ⟨b, 0, none⟩), .int .i64 now, .int .i64 d] w (MkTmP w S b l n 1 (named + 1) l' (seq + 1) (putP per n (perOf 1 d)) (nm + 6)) := by
  have Hc := Lib.hid (tim_channel h 1 (.inl rfl) n hl hn hna now d h0 h1 hd hnm hl')
  clear h hl'
  go_enter Tryz.func137, Tryz.ntmps137
  go_wp2_with fail
  refine Hc.out.mono ?_
  rintro e w1 ⟨cb, S', T, rfl, hr⟩
  have Hr := Lib.hid hr
  clear hr
  go_wp2_with fail
  go_ret3
  exact ⟨cb, S', T, rfl, Hr.out⟩
theorem tim_ticker (n : Nat) (hl : l.length = n) (hn : n < 900) (hna : named < 64) (now d : Int) (h0 : 0 ≤ now) (h1 : now ≤ maxT) (hd : 1 ≤ d) (hnm : nm < 700000) {l' : List Hi} (hl' : heapAdd (heapDel hp n) ((n : Int), addT now d, ((seq + 1 : Nat) : Int)) = some l') :
    Calls Tryz.prog 138 #[.pointer (some ⟨b, 0, none⟩), .int .i64 now, .int .i64 d] w (MkTmP w S b l n 2 (named + 1) l' (seq + 1) (putP per n (perOf 2 d)) (nm + 6)) := by
  have Hc := Lib.hid (tim_channel h 2 (.inr rfl) n hl hn hna now d h0 h1 hd hnm hl')
  clear h hl'
  go_enter Tryz.func138, Tryz.ntmps138
  go_wp2_with fail
  refine Hc.out.mono ?_
  rintro e w1 ⟨cb, S', T, rfl, hr⟩
  have Hr := Lib.hid hr
  clear hr
  go_wp2_with fail
  go_ret3
  exact ⟨cb, S', T, rfl, Hr.out⟩
/-- Two sets together. -/
abbrev Or' (S T : Nat → Prop) : Nat → Prop := fun k => S k ∨ T k
theorem tim_stop {SP : Nat → Prop} {B : Nat → Nat} {P : Nat → Option ChS} (hP : Pool w SP B P) (hd : ∀ k, S k → SP k → False) (i : Nat) (hi1 : i < 1000) (x : Tr) (hi : l[i]? = some x) (j : Nat) {c : ChS} (hx : x.2.2.1 = B j) (hj : P j = some c) (hnm : nm < 700000) (r : Bool) (hr : (c.dropR || heapHas hp i) = r) :
    Calls Tryz.prog 141 #[.pointer (some ⟨b, 0, none⟩), .int .i64 (i : Int)] w fun e w' => e = .returned (.tuple #[.bool r, .int .i64 0]) ∧ Fr (Or' S SP) w w' ∧ TmAt w' S b l named (heapDel hp i) seq (delP per i) (nm + 3) ∧ Pool w' SP B (Go.Proofs.YtcffplgimbbflaaGreat.upd P j (some c.dropS)) := by
  have hil := (List.getElem?_eq_some_iff.1 hi).1
  have Hh := Lib.hid (tim_has h i true (by simp; omega))
  obtain ⟨eb, SL, SE, v, n, h⟩ := h
  have Hs := Lib.hid (exp_stop h.exp (i : Int) (by omega) (by omega) (by omega))
  obtain ⟨A, cp, hv, c0, c1, _⟩ := h.cells
  obtain ⟨g, off, cp', hv', hg, hgl, hin, hc1, hc2, q0, q1, q2, q3, hfz⟩ := h.item i x hi
  rw [hv] at hv'
  injection hv' with hA hn' hcp
  subst hA; subst hcp
  rw [hx] at q2
  have hint : (i : Int) < n := by omega
  have H := Lib.hid h; have HP := Lib.hid hP; have Hj := Lib.hid hj
  clear h hi hn' hil hP hj q0 q1 q3
  go_enter Tryz.func141, Tryz.ntmps141
  go_wp2_with fail
  refine Hh.out.mono ?_
  rintro e _ ⟨rfl, rfl⟩
  go_wp2_with fail
  refine Hs.out.mono ?_
  rintro e w1 ⟨rfl, hf1, ha1⟩
  have d0 := hf1.cell (fun q => (H.out.subE _ q).2.1 rfl) c0
  have e2 := hf1.cell (p := ⟨g, off + i * 4 + 2, none⟩) (fun q => (H.out.subE _ q).2.2 hg) q2
  have hES : ∀ k, SE k → SP k → False := fun k q q' => hd k (H.out.subE k q).1 q'
  have hP1 := HP.out.fr hf1 fun k q q' => hES k q' q
  have H1 := Lib.hid (H.out.toExp hf1 ha1); have HP1 := Lib.hid hP1; have Hf1 := Lib.hid hf1
  clear hf1 ha1 hP1 c0 q2 c1
  go_wp2_with fail
  refine (pool_drop HP1.out j Hj.out c.dropR rfl rfl).mono ?_
  rintro e w2 ⟨rfl, hf2, hP2⟩
  have Hf2 := Lib.hid hf2; have HP2 := Lib.hid hP2
  clear hf2 hP2 d0 e2
  have last : Fr (Or' S SP) w w2 := (Hf1.out.mono fun k _ q => .inl (H.out.subE k q).1).trans Hf2.out fun k _ q => .inr q
  have lastT : TmAt w2 S b l named (heapDel hp i) seq (delP per i) (nm + 3) := ⟨eb, SL, SE, v, n, H1.out.fr Hf2.out fun k q q' => hd k q q'⟩
  have Last := Lib.hid last; have LastT := Lib.hid lastT
  clear last lastT
  cases hdr : c.dropR with
  | true =>
    rw [hdr] at hr
    simp only [Bool.true_or] at hr
    subst hr
    go_wp2_with fail
    go_ret2
    exact ⟨rfl, Last.out, LastT.out, HP2.out⟩
  | false =>
    rw [hdr] at hr
    simp only [Bool.false_or] at hr
    rw [hr]
    go_wp2_with fail
    go_ret2
    exact ⟨rfl, Last.out, LastT.out, HP2.out⟩
abbrev firedV (id kind when' at' data : Int) (v : Value) (k : Bool) : Value := .agg #[.int .i64 id, .int .i64 kind, .int .i64 when', .int .i64 at', .int .i64 data, v, .bool k]
abbrev firedZ : Value := firedV 0 0 0 0 0 (.slice none 0 0) false
theorem tim_fire_none (now : Int) (hn : 0 ≤ now) (hno : ∀ x r, hp = x :: r → now < x.2.1) :
    Calls Tryz.prog 51 #[.pointer (some ⟨b, 0, none⟩), .int .i64 now] w fun e w' => e = .returned (.tuple #[firedZ, .bool false]) ∧ Fr Nob w w' := by
  obtain ⟨eb, SL, SE, v, n, h⟩ := h
  have Ht := Lib.hid (fun W (hW : Fr Nob w W) => exp_take_none ((h.fr0 hW).exp) now hn hno)
  have c1 := blk_cell h.blk 1 rfl
  have C1 := Lib.hid c1
  clear h hno c1
  go_enter Tryz.func51, Tryz.ntmps51
  have d1 := ((Fr.refl Nob w).alloc (.cells #[.int .i64 0, .int .i64 0, .int .i64 0, .int .i64 0, .int .i64 0, .slice none 0 0, .bool false] 126)).cell id C1.out
  go_wp2_with fail
  obtain ⟨w1, hw1⟩ : ∃ w1, w1 = w.alloc (.cells #[.int .i64 0, .int .i64 0, .int .i64 0, .int .i64 0, .int .i64 0, .slice none 0 0, .bool false] 126) := ⟨_, rfl⟩
  rw [← hw1]
  obtain ⟨rb, hrb⟩ : ∃ rb, rb = w.heap.size := ⟨_, rfl⟩
  rw [← hrb]
  have hfw1 : Fr Nob w w1 := by rw [hw1]; exact (Fr.refl Nob w).alloc _
  have hbw1 : w1.heap[rb]? = some (.cells #[.int .i64 0, .int .i64 0, .int .i64 0, .int .i64 0, .int .i64 0, .slice none 0 0, .bool false] 126 (0, 0)) := by rw [hw1, hrb]; exact heap_alloc_new _ _
  have Hfw1 := Lib.hid hfw1; have Hbw1 := Lib.hid hbw1; have Hzw1 : Hid (w.heap.size = rb ∧ rb < w1.heap.size) := ⟨hrb.symm, lt_of_block hbw1⟩
  clear hw1 hrb hfw1 hbw1
  refine (Ht.out _ Hfw1.out).mono ?_
  rintro e w2 ⟨rfl, hf2⟩
  have hb2 := ((Fr.refl Nob w2).alloc (.cells #[.int .i64 0, .int .i64 0, .int .i64 0] 175)).blk id (hf2.blk id Hbw1.out)
  have v0 := blk_cell hb2 0 rfl; have v1 := blk_cell hb2 1 rfl; have v2 := blk_cell hb2 2 rfl; have v3 := blk_cell hb2 3 rfl; have v4 := blk_cell hb2 4 rfl; have v5 := blk_cell hb2 5 rfl; have v6 := blk_cell hb2 6 rfl
  have z0 := blk_froz hb2 0; have z1 := blk_froz hb2 1; have z2 := blk_froz hb2 2; have z3 := blk_froz hb2 3; have z4 := blk_froz hb2 4; have z5 := blk_froz hb2 5; have z6 := blk_froz hb2 6
  have Hf2 := Lib.hid hf2; have Hb2 := Lib.hid hb2
  clear hf2 hb2 d1
  go_wp2_with fail
  have tb := seven_blk Hb2.out (.int .i64 0) (.int .i64 0) (.int .i64 0) (.int .i64 0) (.int .i64 0) (.slice none 0 0) (.bool false)
  have y0 := blk_cell tb 0 rfl; have y1 := blk_cell tb 1 rfl; have y2 := blk_cell tb 2 rfl; have y3 := blk_cell tb 3 rfl; have y4 := blk_cell tb 4 rfl; have y5 := blk_cell tb 5 rfl; have y6 := blk_cell tb 6 rfl
  refine bodyPost_ret (v := .tuple #[firedZ, .bool false]) (by simp [results, Tryz.results51, go_sem, y0, y1, y2, y3, y4, y5, y6]) rfl ⟨rfl, ?_⟩
  exact ((Hfw1.out.trans0 Hf2.out).alloc _).trans (seven_fr _ rb _ _ _ _ _ _ _) fun j hj e => by have := Hzw1.out; omega
end
def FireP (w : World) (S SP : Nat → Prop) (b : Nat) (B : Nat → Nat) (P : Nat → Option ChS) (l : List Tr) (named : Nat) (hp : List Hi) (seq : Nat) (per : Int → Option Int) (nm : Nat) (id kind when' now data : Int) (lw : List Wk) (nw : Nat) (kept : Bool) (e : Ending) (w' : World) : Prop :=
  ∃ (A : Option Addr) (cp : Nat) (S' T : Nat → Prop), e = .returned (.tuple #[firedV id kind when' now data (.slice A nw cp) kept, .bool true]) ∧ Fr (Or' S SP) w w' ∧ TmAt w' S' b l named hp seq per nm ∧ Pool w' SP B P ∧ Sl w' T 225 5 (.slice A nw cp) nw (wks lw) ∧ (∀ k, S' k → S k ∨ w.heap.size ≤ k) ∧ (∀ k, T k → w.heap.size ≤ k) ∧ ∀ k, S' k → T k → False
set_option maxHeartbeats 2000000 in
theorem tim_fire {w : World} {S : Nat → Prop} {b : Nat} {l : List Tr} {named : Nat} {hp : List Hi} {seq : Nat} {per : Int → Option Int} {nm : Nat} (h : TmAt w S b l named hp seq per nm) {SP : Nat → Prop} {B : Nat → Nat} {P : Nat → Option ChS} (hP : Pool w SP B P) (hSP : ∀ k, SP k → k < w.heap.size) (hd : ∀ k, S k → SP k → False)
    (x : Hi) (r : List Hi) (hx : hp = x :: r) (now : Int) (hn : x.2.1 ≤ now) (hn2 : now ≤ maxT) (hnm : nm < 700000) {hp2 : List Hi} {seq2 : Nat} {per2 : Int → Option Int} (hr : takeR hp seq per x now = some (hp2, seq2, per2)) (i : Nat) (hi0 : x.1 = i) (y : Tr) (hi : l[i]? = some y) (j : Nat) {c : ChS} (hy : y.2.2.1 = B j) (hj : P j = some c) (lw : List Wk) (nw : Nat) (hnw : lw.length = nw) (kept : Bool) (hpt : c.putR now = (lw, kept)) :
    Calls Tryz.prog 51 #[.pointer (some ⟨b, 0, none⟩), .int .i64 now] w (FireP w S SP b B (Go.Proofs.YtcffplgimbbflaaGreat.upd P j (some (c.putS now))) l named hp2 seq2 per2 (nm + 9) x.1 y.1 x.2.1 now y.2.1 lw nw kept) := by
  obtain ⟨eb, SL, SE, v, n, h⟩ := h
  have Ht := Lib.hid (fun W (hW : Fr Nob w W) => exp_take_any ((h.fr0 hW).exp) x r hx now hn hn2 hnm hr)
  obtain ⟨A, cp, hv, c0, c1, _⟩ := h.cells
  obtain ⟨g, off, cp', hv', hg, hgl, hin, hc1, hc2, q0, q1, q2, q3, hfz⟩ := h.item i y hi
  rw [hv] at hv'
  injection hv' with hA hn' hcp
  subst hA; subst hcp
  rw [hy] at q2
  have hint : x.1 < (n : Int) := by omega
  have hx0 : ¬ x.1 < 0 := by omega
  have hxn : x.1.toNat = i := by omega
  have H := Lib.hid h; have HP := Lib.hid hP; have Hj := Lib.hid hj; have Hi0 := Lib.hid hi0; have Hpt := Lib.hid hpt
  have C0 := Lib.hid c0; have C1 := Lib.hid c1; have Q0 := Lib.hid q0; have Q1 := Lib.hid q1; have Q2 := Lib.hid q2; have Q3 := Lib.hid q3
  clear h hi hn' hP hj q0 q1 q2 q3 c0 c1 hx hi0 hpt hr
  go_enter Tryz.func51, Tryz.ntmps51
  have d1 := ((Fr.refl Nob w).alloc (.cells #[.int .i64 0, .int .i64 0, .int .i64 0, .int .i64 0, .int .i64 0, .slice none 0 0, .bool false] 126)).cell id C1.out
  go_wp2_with fail
  obtain ⟨w1, hw1⟩ : ∃ w1, w1 = w.alloc (.cells #[.int .i64 0, .int .i64 0, .int .i64 0, .int .i64 0, .int .i64 0, .slice none 0 0, .bool false] 126) := ⟨_, rfl⟩
  rw [← hw1]
  obtain ⟨rb, hrb⟩ : ∃ rb, rb = w.heap.size := ⟨_, rfl⟩
  rw [← hrb]
  have hfw1 : Fr Nob w w1 := by rw [hw1]; exact (Fr.refl Nob w).alloc _
  have hbw1 : w1.heap[rb]? = some (.cells #[.int .i64 0, .int .i64 0, .int .i64 0, .int .i64 0, .int .i64 0, .slice none 0 0, .bool false] 126 (0, 0)) := by rw [hw1, hrb]; exact heap_alloc_new _ _
  have Hfw1 := Lib.hid hfw1; have Hbw1 := Lib.hid hbw1; have Hzw1 : Hid (w.heap.size = rb ∧ rb < w1.heap.size) := ⟨hrb.symm, lt_of_block hbw1⟩
  clear hw1 hrb hfw1 hbw1
  clear d1
  refine (Ht.out _ Hfw1.out).mono ?_
  rintro e w2 ⟨SE2, rfl, hf2, he2, hs2⟩
  have hEb : ¬ SE b := fun q => (H.out.subE _ q).2.1 rfl
  have hS : ∀ k, S k → k < w.heap.size := H.out.lt
  have hEg : ¬ SE g := fun q => (H.out.subE _ q).2.2 hg
  have hSEP : ∀ k, SP k → SE k → False := fun k q q' => hd k (H.out.subE k q').1 q
  have H2 := Lib.hid ((H.out.fr0 Hfw1.out).growExp hf2 he2 hs2)
  have HP2 := Lib.hid ((HP.out.fr0 Hfw1.out).fr hf2 hSEP)
  have hf02 : Fr SE w w2 := Hfw1.out.none.trans0 hf2
  have Hr2 := Lib.hid (hf2.blk (k := rb) (fun q => by have := hS _ (H.out.subE _ q).1; have := Hzw1.out; omega) Hbw1.out)
  have D0 := Lib.hid (hf02.cell hEb C0.out); have E0 := Lib.hid (hf02.cell (p := ⟨g, off + i * 4, none⟩) hEg Q0.out); have E1 := Lib.hid (hf02.cell (p := ⟨g, off + i * 4 + 1, none⟩) hEg Q1.out); have E2 := Lib.hid (hf02.cell (p := ⟨g, off + i * 4 + 2, none⟩) hEg Q2.out); have E3 := Lib.hid (hf02.cell (p := ⟨g, off + i * 4 + 3, none⟩) hEg Q3.out)
  have Hf2 := Lib.hid hf02; have Hs2 := Lib.hid hs2
  clear hf2 he2 hs2 hf02
  go_wp2_with fail
  obtain ⟨w3, hw3⟩ : ∃ w3, w3 = w2.alloc (.cells #[.int .i64 x.1, .int .i64 x.2.1, .int .i64 now] 175) := ⟨_, rfl⟩
  rw [← hw3]
  obtain ⟨pb, hpb⟩ : ∃ pb, pb = w2.heap.size := ⟨_, rfl⟩
  rw [← hpb]
  have hfw3 : Fr Nob w2 w3 := by rw [hw3]; exact (Fr.refl Nob w2).alloc _
  have hbw3 : w3.heap[pb]? = some (.cells #[.int .i64 x.1, .int .i64 x.2.1, .int .i64 now] 175 (0, 0)) := by rw [hw3, hpb]; exact heap_alloc_new _ _
  have Hfw3 := Lib.hid hfw3; have Hbw3 := Lib.hid hbw3; have Hzw3 : Hid (w2.heap.size = pb ∧ pb < w3.heap.size) := ⟨hpb.symm, lt_of_block hbw3⟩
  clear hw3 hpb hfw3 hbw3
  have d0 := Hfw3.out.cell id D0.out
  have e0 := Hfw3.out.cell id E0.out; have e1 := Hfw3.out.cell id E1.out; have e2 := Hfw3.out.cell id E2.out; have e3 := Hfw3.out.cell id E3.out
  have p0 := blk_cell Hbw3.out 0 rfl
  have key : ∀ W, Fr Nob w3 W → W.cell? ⟨b, 0, none⟩ = some (.slice (some ⟨g, off, none⟩) n cp) ∧ W.cell? ⟨pb, 0, none⟩ = some (.int .i64 x.1) ∧ W.cell? ⟨g, off + i * 4, none⟩ = some (.int .i64 y.1) ∧ W.cell? ⟨g, off + i * 4 + 1, none⟩ = some (.int .i64 y.2.1) ∧ W.cell? ⟨g, off + i * 4 + 2, none⟩ = some (.pointer (some ⟨B j, 0, none⟩)) ∧ W.cell? ⟨g, off + i * 4 + 3, none⟩ = some (.int .i64 y.2.2.2) := fun W hW =>
    ⟨hW.cell id d0, hW.cell id p0, hW.cell id e0, hW.cell id e1, hW.cell id e2, hW.cell id e3⟩
  have Key := Lib.hid key
  clear key d0 e0 e1 e2 e3 p0
  have hf0 : Fr Nob w3 w3 := Fr.refl _ _
  go_region_held3 (fun W => W.cell? ⟨b, 0, none⟩ = some (.slice (some ⟨g, off, none⟩) n cp) ∧ W.cell? ⟨pb, 0, none⟩ = some (.int .i64 x.1) ∧ W.cell? ⟨g, off + i * 4, none⟩ = some (.int .i64 y.1) ∧ W.cell? ⟨g, off + i * 4 + 1, none⟩ = some (.int .i64 y.2.1) ∧ W.cell? ⟨g, off + i * 4 + 2, none⟩ = some (.pointer (some ⟨B j, 0, none⟩)) ∧ W.cell? ⟨g, off + i * 4 + 3, none⟩ = some (.int .i64 y.2.2.2))
    ((refine Key.out _ ?_; repeat (first | with_reducible exact hf0 | with_reducible exact hf0.drew | with_reducible refine Fr.alloc ?_ _ | with_reducible refine Fr.drew ?_)))
    (fail)
  obtain ⟨w4, hw4⟩ : ∃ w4, w4 = (w3.alloc (.cells #[.int .i64 y.1, .int .i64 y.2.1, .pointer (some ⟨B j, 0, none⟩), .int .i64 y.2.2.2] 179)).drew := ⟨_, rfl⟩
  rw [← hw4]
  obtain ⟨ob, hob⟩ : ∃ ob, ob = w3.heap.size := ⟨_, rfl⟩
  rw [← hob]
  have hf34 : Fr Nob w3 w4 := by rw [hw4]; exact ((Fr.refl Nob w3).alloc _).drew
  have hb4 : w4.heap[ob]? = some (.cells #[.int .i64 y.1, .int .i64 y.2.1, .pointer (some ⟨B j, 0, none⟩), .int .i64 y.2.2.2] 179 (0, 0)) := by rw [hw4, hob, blk_drew]; exact heap_alloc_new _ _
  have Hf34 := Lib.hid hf34; have Hb4 := Lib.hid hb4; have Hz4 : Hid (w3.heap.size = ob ∧ ob < w4.heap.size) := ⟨hob.symm, lt_of_block hb4⟩
  have hp4 := hf34.blk id Hbw3.out
  have p0 := blk_cell hp4 0 rfl; have p1 := blk_cell hp4 1 rfl; have p2 := blk_cell hp4 2 rfl
  have o0 := blk_cell hb4 0 rfl; have o1 := blk_cell hb4 1 rfl
  have o2 := blk_cell (((Fr.refl Nob w4).alloc (.cells #[.int .i64 x.1, .int .i64 y.1, .int .i64 x.2.1, .int .i64 now, .int .i64 y.2.1, .slice none 0 0, .bool false] 126)).blk id hb4) 2 rfl
  clear hw4 hob hf34 hb4 hf0 Key
  go_wp2_with fail
  obtain ⟨w5, hw5⟩ : ∃ w5, w5 = w4.alloc (.cells #[.int .i64 x.1, .int .i64 y.1, .int .i64 x.2.1, .int .i64 now, .int .i64 y.2.1, .slice none 0 0, .bool false] 126) := ⟨_, rfl⟩
  rw [← hw5]
  obtain ⟨fb, hfb⟩ : ∃ fb, fb = w4.heap.size := ⟨_, rfl⟩
  rw [← hfb]
  have hfw5 : Fr Nob w4 w5 := by rw [hw5]; exact (Fr.refl Nob w4).alloc _
  have hbw5 : w5.heap[fb]? = some (.cells #[.int .i64 x.1, .int .i64 y.1, .int .i64 x.2.1, .int .i64 now, .int .i64 y.2.1, .slice none 0 0, .bool false] 126 (0, 0)) := by rw [hw5, hfb]; exact heap_alloc_new _ _
  have Hfw5 := Lib.hid hfw5; have Hbw5 := Lib.hid hbw5; have Hzw5 : Hid (w4.heap.size = fb ∧ fb < w5.heap.size) := ⟨hfb.symm, lt_of_block hbw5⟩
  clear hw5 hfb hfw5 hbw5
  have hSP4 : ∀ k, SP k → SE k → False := hSEP
  have hP5 := (HP2.out.fr0 Hfw3.out).fr0 (Hf34.out.trans0 Hfw5.out)
  refine (pool_put hP5 j Hj.out now lw nw kept Hpt.out rfl hnw).mono ?_
  rintro e w6 ⟨A, cp6, rfl, hf6, hP6, hs6⟩
  have hz1 := Hzw1.out; have hz2 := Hf2.out.size; have hz3 := Hzw3.out; have hz4 := Hz4.out; have hz5 := Hzw5.out; have hr2 := lt_of_block Hr2.out
  have hlSP : ∀ k, w.heap.size ≤ k → ¬ SP k := fun k hk q => by have := hSP k q; omega
  have hf25 : Fr Nob w2 w5 := Hfw3.out.trans0 (Hf34.out.trans0 Hfw5.out)
  have hfb6 := hf6.blk (hlSP fb (by omega)) Hbw5.out
  have hrb6 := hf6.blk (hlSP rb (by omega)) (hf25.blk id Hr2.out)
  have Hne : Hid (rb < pb ∧ pb < ob ∧ ob < fb ∧ fb < w5.heap.size ∧ w.heap.size = rb ∧ w2.heap.size = pb) := Lib.hid ⟨by omega, by omega, by omega, by omega, by omega, by omega⟩
  have Hf25 := Lib.hid hf25; have Hf6 := Lib.hid hf6; have HP6 := Lib.hid hP6; have Hs6 := Lib.hid hs6; have Hfb6 := Lib.hid hfb6; have Hrb6 := Lib.hid hrb6
  have u5 := blk_cell hfb6 5 rfl; have u6 := blk_cell hfb6 6 rfl
  have g5 := blk_froz hfb6 5; have g6 := blk_froz hfb6 6
  have q6 := seven5 hfb6 (.slice A nw cp6)
  have q7 := seven6 q6 (.bool kept)
  have hrf : rb ≠ fb := by omega
  have r7 : ((w6.setCell ⟨fb, 5, none⟩ (.slice A nw cp6)).setCell ⟨fb, 6, none⟩ (.bool kept)).heap[rb]? = some (.cells #[.int .i64 0, .int .i64 0, .int .i64 0, .int .i64 0, .int .i64 0, .slice none 0 0, .bool false] 126 (0, 0)) := by rw [blk_set_ne _ _ hrf, blk_set_ne _ _ hrf]; exact hrb6
  have Hw12 : Hid (w2.heap.size = pb ∧ fb < w5.heap.size) := Lib.hid ⟨by omega, by omega⟩
  clear hf25 hf6 hP6 hs6 hfb6 hrb6 hP5 hz1 hz2 hz3 hz4 hz5 hr2 o0 o1 o2 p0 p1 p2 hp4
  have t6 := blk_cell q6 6 rfl; have gg6 := blk_froz q6 6
  have k0 := blk_cell q7 0 rfl; have k1 := blk_cell q7 1 rfl; have k2 := blk_cell q7 2 rfl; have k3 := blk_cell q7 3 rfl; have k4 := blk_cell q7 4 rfl; have k5 := blk_cell q7 5 rfl; have k6 := blk_cell q7 6 rfl
  have r0 := blk_cell r7 0 rfl; have r1 := blk_cell r7 1 rfl; have r2 := blk_cell r7 2 rfl; have r3 := blk_cell r7 3 rfl; have r4 := blk_cell r7 4 rfl; have r5 := blk_cell r7 5 rfl; have r6 := blk_cell r7 6 rfl
  have z0 := blk_froz r7 0; have z1 := blk_froz r7 1; have z2 := blk_froz r7 2; have z3 := blk_froz r7 3; have z4 := blk_froz r7 4; have z5 := blk_froz r7 5; have z6 := blk_froz r7 6
  have R7 := Lib.hid r7
  clear q6 q7 r7
  go_wp2_with fail
  have tb := seven_blk R7.out (.int .i64 x.1) (.int .i64 y.1) (.int .i64 x.2.1) (.int .i64 now) (.int .i64 y.2.1) (.slice A nw cp6) (.bool kept)
  have hfr := seven_fr ((w6.setCell ⟨fb, 5, none⟩ (.slice A nw cp6)).setCell ⟨fb, 6, none⟩ (.bool kept)) rb (.int .i64 x.1) (.int .i64 y.1) (.int .i64 x.2.1) (.int .i64 now) (.int .i64 y.2.1) (.slice A nw cp6) (.bool kept)
  have y0 := blk_cell tb 0 rfl; have y1 := blk_cell tb 1 rfl; have y2 := blk_cell tb 2 rfl; have y3 := blk_cell tb 3 rfl; have y4 := blk_cell tb 4 rfl; have y5 := blk_cell tb 5 rfl; have y6 := blk_cell tb 6 rfl
  have hff : Fr (fun k => k = fb) w6 ((w6.setCell ⟨fb, 5, none⟩ (.slice A nw cp6)).setCell ⟨fb, 6, none⟩ (.bool kept)) := ((Fr.refl (fun k => k = fb) w6).setB 5 _).setB 6 _
  have hn := Hne.out
  have hall : Fr (fun k => k = rb ∨ k = fb) w6 _ := (hff.mono fun k _ q => .inr q).trans hfr fun k _ q => .inl q
  have hSPb : ∀ k, SP k → (k = rb ∨ k = fb) → False := fun k q e => by have := hSP k q; have := Hf2.out.size; omega
  have hSb : ∀ k, And' S w1 w2 k → (k = rb ∨ k = fb) → False := fun k q e => by
    rcases q with q | q
    · have := hS k q; have := Hf2.out.size; omega
    · have := Hzw1.out.2; have := Hf2.out.size; omega
  refine bodyPost_ret (v := .tuple #[firedV x.1 y.1 x.2.1 now y.2.1 (.slice A nw cp6) kept, .bool true]) (by simp [results, Tryz.results51, go_sem, y0, y1, y2, y3, y4, y5, y6]) rfl ⟨A, cp6, And' S w1 w2, fun k => w5.heap.size ≤ k, rfl, ?_, ⟨eb, SL, SE2, _, n, ((H2.out.fr0 Hf25.out).fr Hf6.out fun k q q' => ?_).fr hall hSb⟩, HP6.out.fr hall hSPb, Hs6.out.fr hall fun k q e => by unfold From at q; omega, fun k q => ?_, fun k q => by omega, fun k q q' => ?_⟩
  · have e1 : Fr (Or' S SP) w w6 := ((Hf2.out.mono fun k _ q => .inl (H.out.subE k q).1).trans Hf25.out.none fun k _ q => q).trans Hf6.out fun k _ q => .inr q
    exact e1.trans hall fun k hk q => by omega
  · rcases q with q | q
    · exact hd k q q'
    · have := hSP k q'; have := Hzw1.out; omega
  · rcases q with q | q
    · exact .inl q
    · exact .inr (by have := Hzw1.out; omega)
  · rcases q with q | q
    · have := hS k q; have := Hf2.out.size; omega
    · have := Hf25.out.size; omega
open Go.ChangeShapes Go.WideShapes Go.ChangeAt Go.RowKit
/-- Cells that read as a thing of type e are so. -/
def Dec (P : Program) (w : World) (e : TypeId) (K : List Value → Prop) : Prop :=
  ∀ (H : Type) (enc : TypeId × Value → H) (n : Nat) (cs : List Value) (x : DataW H × List MemPlace), DataW.trod enc P w 0 (fun _ => true) true n e cs = some x → K cs
section
variable {P : Program} {w : World} {e t : TypeId}
theorem Dec.mono {K K' : List Value → Prop} (h : Dec P w e K) (hk : ∀ cs, K cs → K' cs) : Dec P w e K' := fun H enc n cs x hx => hk _ (h H enc n cs x hx)
theorem flat_get {α : Type} (en : α → List Value) {sz : Nat} : ∀ (l : List α), (∀ a ∈ l, (en a).length = sz) → ∀ i j a, l[i]? = some a → j < sz → (l.flatMap en)[i * sz + j]? = (en a)[j]?
  | [], _, i, j, a, h, _ => by simp at h
  | x :: l, hl, 0, j, a, h, hj => by
    simp at h; subst h
    rw [List.flatMap_cons, Nat.zero_mul, Nat.zero_add, List.getElem?_append_left (by rw [hl _ (List.mem_cons_self ..)]; exact hj)]
  | x :: l, hl, i + 1, j, a, h, hj => by
    have hx := hl _ (List.mem_cons_self ..)
    rw [List.flatMap_cons, List.getElem?_append_right (by rw [hx, Nat.add_mul]; omega), hx, show (i + 1) * sz + j - sz = i * sz + j by rw [Nat.add_mul]; omega]
    exact flat_get en l (fun b hb => hl b (List.mem_cons_of_mem _ hb)) i j a (by simpa using h) hj
end
abbrev NdV := Nd × Value
abbrev ndEn (x : NdV) : List Value := [.int .i64 x.1.1, .bool x.1.2, x.2]
abbrev nds (xs : List NdV) : List Nd := xs.map fun x => x.1
theorem info_node : (Tryz.prog.info? 203).map (fun i => (i.zero, i.size, i.bytes)) = some (some (.agg #[.int .i64 0, .bool false, .slice none 0 0]), 3, 40) := by kernel_rfl
structure TAt (w : World) (S : Nat → Prop) (b : Nat) (v : Value) (xs : List NdV) (M : Nat → Prop) (K : Nat → Nat → Prop) : Prop where
  own : S b
  blk : w.heap[b]? = some (.cells #[v] 170 (0, 0))
  main : Sl w M 203 3 v xs.length (xs.flatMap ndEn)
  kid : ∀ i x, xs[i]? = some x → Sl w (K i) 3 1 x.2 (kids (nds xs) i).length (ints (kids (nds xs) i))
  inM : ∀ k, M k → S k ∧ k ≠ b ∧ k < w.heap.size
  inK : ∀ i k, K i k → i < xs.length ∧ S k ∧ k ≠ b ∧ ¬ M k ∧ k < w.heap.size
  apart : ∀ i j k, K i k → K j k → i = j
  ok : TreeOk (nds xs)
  few : xs.length ≤ 1000
/-- The tree in block b has ns. -/
def TreeAt (w : World) (S : Nat → Prop) (b : Nat) (ns : List Nd) : Prop := ∃ v xs M K, TAt w S b v xs M K ∧ nds xs = ns
theorem TAt.fr {w w' : World} {S F : Nat → Prop} {b : Nat} {v : Value} {xs : List NdV} {M : Nat → Prop} {K : Nat → Nat → Prop} (h : TAt w S b v xs M K) (hf : Fr F w w') (hd : ∀ k, S k → F k → False) : TAt w' S b v xs M K where
  own := h.own
  blk := hf.blk (hd _ h.own) h.blk
  main := h.main.fr hf fun k q => hd k (h.inM k q).1
  kid := fun i x hx => (h.kid i x hx).fr hf fun k q => hd k (h.inK i k q).2.1
  inM := fun k q => ⟨(h.inM k q).1, (h.inM k q).2.1, Nat.lt_of_lt_of_le (h.inM k q).2.2 hf.size⟩
  inK := fun i k q => ⟨(h.inK i k q).1, (h.inK i k q).2.1, (h.inK i k q).2.2.1, (h.inK i k q).2.2.2.1, Nat.lt_of_lt_of_le (h.inK i k q).2.2.2.2 hf.size⟩
  apart := h.apart
  ok := h.ok
  few := h.few
theorem TAt.mono {w : World} {S S' : Nat → Prop} {b : Nat} {v : Value} {xs : List NdV} {M : Nat → Prop} {K : Nat → Nat → Prop} (h : TAt w S b v xs M K) (hs : ∀ k, k < w.heap.size → S k → S' k) : TAt w S' b v xs M K where
  own := hs _ (lt_of_block h.blk) h.own
  blk := h.blk
  main := h.main
  kid := h.kid
  inM := fun k q => ⟨hs k (h.inM k q).2.2 (h.inM k q).1, (h.inM k q).2⟩
  inK := fun i k q => ⟨(h.inK i k q).1, hs k (h.inK i k q).2.2.2.2 (h.inK i k q).2.1, (h.inK i k q).2.2⟩
  apart := h.apart
  ok := h.ok
  few := h.few
theorem TreeAt.fr {w w' : World} {S F : Nat → Prop} {b : Nat} {ns : List Nd} (h : TreeAt w S b ns) (hf : Fr F w w') (hd : ∀ k, S k → F k → False) : TreeAt w' S b ns := by
  obtain ⟨v, xs, M, K, h, e⟩ := h; exact ⟨v, xs, M, K, h.fr hf hd, e⟩
theorem TreeAt.fr0 {w w' : World} {S : Nat → Prop} {b : Nat} {ns : List Nd} (h : TreeAt w S b ns) (hf : Fr Nob w w') : TreeAt w' S b ns := h.fr hf fun _ _ q => q
theorem TreeAt.mono {w : World} {S S' : Nat → Prop} {b : Nat} {ns : List Nd} (h : TreeAt w S b ns) (hs : ∀ k, k < w.heap.size → S k → S' k) : TreeAt w S' b ns := by
  obtain ⟨v, xs, M, K, h, e⟩ := h; exact ⟨v, xs, M, K, h.mono hs, e⟩
theorem TreeAt.ok {w : World} {S : Nat → Prop} {b : Nat} {ns : List Nd} (h : TreeAt w S b ns) : TreeOk ns ∧ ns.length ≤ 1000 := by
  obtain ⟨v, xs, M, K, h, e⟩ := h; subst e; exact ⟨h.ok, by simpa using h.few⟩
theorem TreeAt.own {w : World} {S : Nat → Prop} {b : Nat} {ns : List Nd} (h : TreeAt w S b ns) : S b ∧ b < w.heap.size := by
  obtain ⟨v, xs, M, K, h, e⟩ := h; exact ⟨h.own, lt_of_block h.blk⟩
/-- One more, that hangs on nobody. -/
theorem TAt.lone {w w' : World} {S : Nat → Prop} {b : Nat} {p : Int} {v v' : Value} {xs : List NdV} {M : Nat → Prop} {K : Nat → Nat → Prop} (h : TAt w S b v xs M K) (hp1 : -1 ≤ p) (hp2 : p < xs.length) (hlt : xs.length < 1000)
    (hf : Fr (fun k => M k ∨ k = b) w w')
    (hb : w'.heap[b]? = some (.cells #[v'] 170 (0, 0)))
    (hm : Sl w' (fun k => M k ∨ (w.heap.size ≤ k ∧ k < w'.heap.size)) 203 3 v' (xs.length + 1) (xs.flatMap ndEn ++ ndEn ((p, false), .slice none 0 0))) :
    TreeAt w' (And' S w w') b (nds xs ++ [(p, false)]) := by
  have hbl := lt_of_block h.blk
  have e1 : nds (xs ++ [((p, false), .slice none 0 0)]) = nds xs ++ [(p, false)] := by
    unfold nds; rw [List.map_append]; rfl
  have el : (nds xs).length = xs.length := by simp
  refine ⟨v', xs ++ [((p, false), .slice none 0 0)], fun k => M k ∨ (w.heap.size ≤ k ∧ k < w'.heap.size), K, ?_, e1⟩
  refine ⟨.inl h.own, hb, ?_, ?_, ?_, ?_, h.apart, ?_, ?_⟩
  · have : (xs ++ [((p, false), Value.slice none 0 0)]).length = xs.length + 1 := by simp
    rw [this, List.flatMap_append]
    simpa using hm
  · intro i y hy
    rw [e1, kids_snoc_no _ _ _ _ (.inl rfl)]
    rw [List.getElem?_append] at hy
    split at hy
    · refine (h.kid i y hy).fr hf fun k q => ?_
      rintro (r | r)
      · exact (h.inK i k q).2.2.2.1 r
      · exact (h.inK i k q).2.2.1 r
    · next hge =>
      have hi := (List.getElem?_eq_some_iff.1 hy).1
      simp at hi
      have hi0 : i = xs.length := by omega
      subst hi0
      simp at hy
      subst hy
      have hk0 : kids (nds xs) xs.length = [] := by
        unfold kids
        rw [kidsN_out _ h.ok _ (by rw [el]; omega)]; rfl
      rw [hk0]
      exact Sl.nil _ _ _ _
  · rintro k (q | q)
    · exact ⟨.inl (h.inM k q).1, (h.inM k q).2.1, Nat.lt_of_lt_of_le (h.inM k q).2.2 hf.size⟩
    · exact ⟨.inr q, by omega, q.2⟩
  · intro i k q
    have := h.inK _ k q
    have := hf.size
    exact ⟨by simp; omega, .inl (h.inK _ k q).2.1, (h.inK _ k q).2.2.1, fun r => by rcases r with r | r; exact (h.inK _ k q).2.2.2.1 r; omega, by omega⟩
  · rw [e1]
    exact ok_snoc _ h.ok _ _ hp1 (by rw [el]; omega) fun q => by simp at q
  · simp; omega
/-- One taken off its parent. -/
theorem TAt.off {w w' : World} {S : Nat → Prop} {b p i : Nat} {v kv : Value} {xs : List NdV} {x y : NdV} {M : Nat → Prop} {K : Nat → Nat → Prop} (h : TAt w S b v xs M K) (hx : xs[i]? = some x) (hp : x.1 = ((p : Int), true)) (hy : xs[p]? = some y)
    (hf : Fr (fun k => K p k ∨ M k) w w') 
    (hk : Sl w' (K p) 3 1 kv ((kids (nds xs) p).length - 1) (ints ((kids (nds xs) p).erase (i : Int))))
    (hm : Sl w' M 203 3 v xs.length (((xs.set i (((p : Int), false), x.2)).set p (y.1, kv)).flatMap ndEn)) :
    TreeAt w' S b ((nds xs).set i ((p : Int), false)) := by
  have hi := (List.getElem?_eq_some_iff.1 hx).1
  have hpl := (List.getElem?_eq_some_iff.1 hy).1
  have hxn : (nds xs)[i]? = some ((p : Int), true) := by unfold nds; rw [List.getElem?_map, hx]; simp [hp]
  have hpi : p < i := by have := (h.ok i _ hxn).2.1; simp at this; omega
  have e1 : nds ((xs.set i (((p : Int), false), x.2)).set p (y.1, kv)) = (nds xs).set i ((p : Int), false) := by
    unfold nds
    rw [List.map_set, List.map_set]
    apply List.ext_getElem?
    intro j
    rw [List.getElem?_set]
    split
    · next e =>
      subst e
      have hne : ¬ i = p := by omega
      rw [List.getElem?_set, if_neg hne, List.getElem?_map, hy]
      simp [hpl]
    · rfl
  refine ⟨v, (xs.set i (((p : Int), false), x.2)).set p (y.1, kv), M, K, ?_, e1⟩
  have hlen : ((xs.set i (((p : Int), false), x.2)).set p (y.1, kv)).length = xs.length := by simp
  have hsz := hf.size
  refine ⟨h.own, hf.blk (fun q => ?_) h.blk, ?_, ?_, ?_, ?_, h.apart, ?_, ?_⟩
  · rcases q with q | q
    · exact (h.inK _ _ q).2.2.1 rfl
    · exact (h.inM _ q).2.1 rfl
  · rw [hlen]; exact hm
  · intro j u hu
    rw [e1]
    rw [List.getElem?_set] at hu
    by_cases hj : p = j
    · subst hj
      rw [if_pos rfl, if_pos (by simpa using hpl)] at hu
      cases hu
      rw [kids_set_eq _ _ _ hxn, List.length_erase_of_mem (mem_kids _ _ _ hxn)]
      exact hk
    · rw [if_neg hj] at hu
      rw [kids_set_ne _ _ _ _ hxn (by omega)]
      have key : ∀ x', xs[j]? = some x' → x'.2 = u.2 → Sl w' (K j) 3 1 u.2 (kids (nds xs) j).length (ints (kids (nds xs) j)) := by
        intro x' hx' e
        rw [← e]
        refine (h.kid j x' hx').fr hf fun k q => ?_
        rintro (r | r)
        · exact hj (h.apart _ _ _ r q)
        · exact (h.inK j k q).2.2.2.1 r
      rw [List.getElem?_set] at hu
      by_cases hij : i = j
      · subst hij
        rw [if_pos rfl, if_pos hi] at hu
        cases hu
        exact key x hx rfl
      · rw [if_neg hij] at hu
        exact key u hu rfl
  · intro k q; exact ⟨(h.inM k q).1, (h.inM k q).2.1, Nat.lt_of_lt_of_le (h.inM k q).2.2 hsz⟩
  · intro j k q
    have := h.inK j k q
    exact ⟨by rw [hlen]; exact this.1, this.2.1, this.2.2.1, this.2.2.2.1, by omega⟩
  · rw [e1]; exact ok_set _ h.ok _ _ hxn
  · rw [hlen]; exact h.few
theorem run_append_empty {P : Program} (w : World) (t ty e : TypeId) (i : TypeInfo) (ht : P.underlying t = some (.slice e)) (hi : P.info? e = some i) (B : Option Addr) (n cap : Nat) (A : Option Addr) (c : Nat) (hA : A = none) (hn : n ≤ cap) :
    (Builtin.append_ #[t, t] ty #[.slice B n cap, .slice A 0 c]).run P w = .ok (.slice B n cap) w := by
  subst hA
  cases B with
  | none => simp [Builtin.append_, run_underlying ht, sizeOf, typeInfo, hi, Builtin.lenOf, hn, run_firstCells_none]
  | some b => simp [Builtin.append_, run_underlying ht, sizeOf, typeInfo, hi, Builtin.lenOf, hn, run_firstCells_none, storeCells]
theorem run_append_rd {P : Program} (w : World) (S : Nat → Prop) (t ty e : TypeId) (z : Value) (size bytes : Nat) (ht : P.underlying t = some (.slice e)) (hinfo : (P.info? e).map (fun i => (i.zero, i.size, i.bytes)) = some (some z, size, bytes)) (hzs : z.cells.size = size) (hsz : 0 < size)
    (v : Value) (n : Nat) (xs : List Value) (hown : Sl w S e size v n xs) (v2 : Value) (m : Nat) (news : List Value) (hrd : Rd w size v2 m news) (h1 : ∀ u ∈ news, u.oneCell' = true) (hb0 : 0 < bytes) (hbytes : (n + m) * bytes ≤ 140737488355328) :
    ∃ v' w', (Builtin.append_ #[t, t] ty #[v, v2]).run P w = .ok v' w' ∧ Sl w' (fun k => S k ∨ w.heap.size ≤ k) e size v' (n + m) (xs ++ news) ∧ Fr S w w' := by
  obtain ⟨i, hi, hz, hs1, hb1⟩ := info_parts hinfo
  have hlen : n + m ≤ 140737488355328 := Nat.le_trans (Nat.le_mul_of_pos_right _ hb0) hbytes
  obtain ⟨hl, hm, A, c, rfl, hc1, hc2, hA⟩ := hrd
  cases A with
  | some ad =>
    refine run_append_sl w S t ty e i z size bytes ht hi hz hs1 hb1 hzs hsz v n xs hown ad m c news hl (fun j u hj => ?_) h1 (by simp only [maxLen]; omega) hbytes
    have hjl := (List.getElem?_eq_some_iff.1 hj).1
    have hm0 : 0 < m := by rcases Nat.eq_zero_or_pos m with h | h; subst h; simp at hl; subst hl; simp at hjl; exact h
    obtain ⟨g, o, ha, _, hc⟩ := hA hm0
    cases ha
    rw [Addr.add_lit]
    exact hc j u hj
  | none =>
    have hm0 : m = 0 := by
      rcases Nat.eq_zero_or_pos m with h | h
      · exact h
      · obtain ⟨g, o, ha, _⟩ := hA h; cases ha
    subst hm0
    obtain rfl : news = [] := List.eq_nil_of_length_eq_zero (by simpa using hl)
    obtain ⟨B, cap, rfl⟩ := hown.slice
    have hn : n ≤ cap := by
      rcases hown.2 with ⟨h, _⟩ | ⟨g, off, cap', blk, h, _, _, h2, _⟩
      · cases h; exact Nat.le_refl _
      · cases h; exact h2
    exact ⟨_, _, run_append_empty w t ty e i ht hi B n cap none c rfl hn, by simpa using hown.mono fun k _ q => .inl q, Fr.refl S w⟩
theorem wpList_append_rd {P : Program} (w : World) {ops : Array Oper} {rest : List Oper} {o : Oper} {a : Act} {Q : Exit → Act → World → Prop} (hgd : o.guard = none) (s x : Operand) (t : TypeId)
    (ho : o.op = .call { callee := .builtin .append, args := #[s, x], argTypes := #[t, t] })
    (S : Nat → Prop) (e : TypeId) (z : Value) (size bytes : Nat) (ht : P.underlying t = some (.slice e)) (hinfo : (P.info? e).map (fun i => (i.zero, i.size, i.bytes)) = some (some z, size, bytes)) (hzs : z.cells.size = size) (hsz : 0 < size)
    (v : Value) (n : Nat) (xs : List Value) (hs : a.eval s = v) (hown : Sl w S e size v n xs) (v2 : Value) (m : Nat) (news : List Value) (hx : a.eval x = v2) (hrd : Rd w size v2 m news) (h1 : ∀ u ∈ news, u.oneCell' = true) (hb0 : 0 < bytes) (hbytes : (n + m) * bytes ≤ 140737488355328)
    (h : ∀ v' w', Sl w' (fun k => S k ∨ w.heap.size ≤ k) e size v' (n + m) (xs ++ news) → Fr S w w' → wpList P ops Q rest (a.put o.dst v') w') : wpList P ops Q (o :: rest) a w := by
  refine wpList_plain hgd fun K hK => ?_
  obtain ⟨v', w', hr, h2, h3⟩ := run_append_rd (P := P) w S t o.type e z size bytes ht hinfo hzs hsz v n xs hown v2 m news hrd h1 hb0 hbytes
  unfold Oper.wp execOp
  simp only [ho, resolve, invoke, builtin, Sem.run_bind, Sem.run_pure, Result.andThen_ok, List.map_toArray, List.map_cons, List.map_nil, hs, hx, hr]
  exact hK _ _ (h v' w' h2 h3)
theorem Sl.made (w : World) (T : TypeId) (z : Value) (n : Nat) (S : Nat → Prop) (hS : S w.heap.size) (hn : n ≤ maxLen) :
    Sl (w.alloc (.cells (madeCells #[z] n) T)) S T 1 (.slice (some ⟨w.heap.size, 0, none⟩) n n) n (List.replicate n z) := by
  have := Sl.lit w T 1 (madeCells #[z] n) n S hS hn (by rw [size_madeCells]; omega)
  rwa [toList_madeCells_one] at this
/-! Where the last one like x stands -/
theorem tree_new (w : World) : Calls Tryz.prog 44 #[] w fun e w' => ∃ b, e = .returned (.pointer (some ⟨b, 0, none⟩)) ∧ Fr Nob w w' ∧ TreeAt w' (fun k => w.heap.size ≤ k ∧ k < w'.heap.size) b [] := by
  go_enter Tryz.func44, Tryz.ntmps44
  go_wp2
  go_ret
  refine ⟨w.heap.size, rfl, (Fr.refl Nob w).alloc _, .slice none 0 0, [], Nob, fun _ => Nob, ⟨by simp, heap_alloc_new _ _, Sl.nil _ _ _ _, fun i x hx => by simp at hx, fun k q => q.elim, fun i k q => q.elim, fun i j k q => q.elim, fun i x hx => by simp at hx, by simp⟩, rfl⟩
theorem tree_len (w : World) (S : Nat → Prop) (b : Nat) (ns : List Nd) (n : Nat) (hn : ns.length = n) (h : TreeAt w S b ns) :
    Calls Tryz.prog 155 #[.pointer (some ⟨b, 0, none⟩)] w fun e w' => e = .returned (.int .i64 (n : Int)) ∧ w = w' := by
  obtain ⟨v, xs, M, K, h, rfl⟩ := h
  have hm := h.main
  rw [show xs.length = n by simpa using hn] at hm
  have c0 := blk_cell h.blk 0 rfl
  obtain ⟨A, c, rfl⟩ := hm.slice
  clear h hm hn
  go_enter Tryz.func155, Tryz.ntmps155
  go_wp2
  go_ret
  exact ⟨rfl, rfl⟩
theorem tree_has_yes (w : World) (S : Nat → Prop) (b : Nat) (ns : List Nd) (i n : Nat) (hn : ns.length = n) (h : TreeAt w S b ns) (hi : i < n) :
    Calls Tryz.prog 107 #[.pointer (some ⟨b, 0, none⟩), .int .i64 (i : Int)] w fun e w' => e = .returned (.bool true) ∧ w = w' := by
  have H := Lib.hid (tree_len w S b ns n hn h)
  clear h hn
  have h1 : (i : Int) < n := by omega
  go_enter Tryz.func107, Tryz.ntmps107
  go_wp2_with fail
  refine H.out.mono ?_
  rintro e w' ⟨rfl, rfl⟩
  go_wp2_with fail
  go_ret
  exact ⟨rfl, rfl⟩
/-- What is read of one node. -/
theorem TAt.cells {w : World} {S : Nat → Prop} {b : Nat} {v : Value} {xs : List NdV} {M : Nat → Prop} {K : Nat → Nat → Prop} (h : TAt w S b v xs M K) (i : Nat) (x : NdV) (hx : xs[i]? = some x) :
    ∃ g off cap, v = .slice (some ⟨g, off, none⟩) xs.length cap ∧ M g ∧ g < w.heap.size ∧ xs.length ≤ cap ∧ cap ≤ maxLen ∧ w.cell? ⟨g, off + i * 3, none⟩ = some (.int .i64 x.1.1) ∧ w.cell? ⟨g, off + i * 3 + 1, none⟩ = some (.bool x.1.2) ∧ w.cell? ⟨g, off + i * 3 + 2, none⟩ = some x.2 ∧ ∀ j, w.frozen? ⟨g, j, none⟩ = false := by
  have hi := (List.getElem?_eq_some_iff.1 hx).1
  obtain ⟨g, off, cap, hv, hM, hg, hc1, hc2, hcell, hfz⟩ := h.main.form (by omega)
  have q0 := hcell _ _ (flat_get (sz := 3) ndEn xs (fun _ _ => rfl) i 0 x hx (by omega))
  have q1 := hcell _ _ (flat_get (sz := 3) ndEn xs (fun _ _ => rfl) i 1 x hx (by omega))
  have q2 := hcell _ _ (flat_get (sz := 3) ndEn xs (fun _ _ => rfl) i 2 x hx (by omega))
  rw [← Nat.add_assoc] at q1 q2
  exact ⟨g, off, cap, hv, hM, hg, hc1, hc2, q0, q1, q2, hfz⟩
set_option maxHeartbeats 1000000 in
theorem tree_add_lone (w : World) (S : Nat → Prop) (b : Nat) (ns : List Nd) (p : Int) (l : Bool) (n : Nat) (hnn : ns.length = n) (h : TreeAt w S b ns) (hp : -1 ≤ p) (hp2 : p < (n : Int)) (hf : n < 1000) (hl : p = -1 ∨ l = false) :
    Calls Tryz.prog 67 #[.pointer (some ⟨b, 0, none⟩), .int .i64 p, .bool l] w fun e w' => e = .returned (.tuple #[.int .i64 (n : Int), .int .i64 0]) ∧ Fr S w w' ∧ TreeAt w' (And' S w w') b (ns ++ [(p, false)]) := by
  have hh := fun (i : Nat) (hi : i < n) => tree_has_yes w S b ns i n hnn h hi
  obtain ⟨v, xs, M, K, h, rfl⟩ := h
  have hl2 : xs.length = n := by simpa using hnn
  have hs := h.main
  rw [hl2] at hs
  obtain ⟨A, c, hA⟩ := hs.slice
  have hbM : ¬ M b := fun q => (h.inM _ q).2.1 rfl
  subst hA
  have c0 := blk_cell h.blk 0 rfl
  have f0 := blk_froz h.blk 0
  have lb := lt_of_block h.blk
  have hfin : ∀ w1 v1, Sl w1 (fun k => M k ∨ w.heap.size ≤ k) 203 3 v1 (n + 1) (xs.flatMap ndEn ++ ndEn ((p, false), .slice none 0 0)) → Fr M w w1 → 
      Fr S w (w1.setCell ⟨b, 0, none⟩ v1) ∧ TreeAt (w1.setCell ⟨b, 0, none⟩ v1) (And' S w (w1.setCell ⟨b, 0, none⟩ v1)) b (nds xs ++ [(p, false)]) := by
    intro w1 v1 hs1 hf1
    have hb1 := hf1.blk hbM h.blk
    refine ⟨(hf1.mono fun k _ q => (h.inM k q).1).setCell (.inl h.own) _, h.lone hp (by omega) (by omega) ((hf1.mono fun k _ q => .inl q).setCell (.inl (.inr rfl)) _) (blk_set hb1 0 _) ?_⟩
    rw [hl2]
    have hs2 := hs1.fr ((Fr.refl (fun k => k = b) w1).setCell (p := ⟨b, 0, none⟩) (.inl rfl) v1) (fun k q e => by
      have e' : k = b := e
      subst e'
      rcases q with q | q; exact hbM q; omega)
    exact hs2.mono fun k hk q => by rcases q with q | q; exact .inl q; exact .inr ⟨q, hk⟩
  have Hfin := Lib.hid hfin; have Hs := Lib.hid hs; have Hb := Lib.hid h.blk; have HbM := Lib.hid hbM; have Hh := Lib.hid hh
  clear hfin hs h hl2 hnn hbM hh
  have h3 : ¬ (1000 : Int) ≤ n := by omega
  have key : ∀ (i : Nat), p = (i : Int) → l = false → Calls Tryz.prog 67 #[.pointer (some ⟨b, 0, none⟩), .int .i64 p, .bool l] w fun e w' => e = .returned (.tuple #[.int .i64 (n : Int), .int .i64 0]) ∧ Fr S w w' ∧ TreeAt w' (And' S w w') b (nds xs ++ [(p, false)]) := by
    rintro i rfl rfl
    have H := Lib.hid (Hh.out i (by omega))
    have hb : ((i : Int) != -1) = true := by simp
    clear hl Hh
    go_enter Tryz.func67, Tryz.ntmps67
    go_wp2_with fail
    refine H.out.mono ?_
    rintro e w' ⟨rfl, rfl⟩
    go_wp2_with (at_builtin; refine wpList_append1 _ rfl _ _ _ rfl M 203 _ 3 40 Tryz.underlying168 info_node rfl (by omega) (.slice A n c) n (xs.flatMap ndEn) [.int .i64 (i : Int), .bool false, .slice none 0 0] rfl Hs.out rfl rfl rfl (by omega) (by omega) ?_; intro v3 w3 hs3 hf3 hz3; obtain ⟨A3, c3, rfl⟩ := hs3.slice; have hb3 := hf3.blk HbM.out Hb.out; have d0 := blk_cell hb3 0 rfl; have g0 := blk_froz hb3 0; have Hs3 := Lib.hid hs3; have Hf3 := Lib.hid hf3; clear hb3 hs3 hf3)
    go_ret2
    exact ⟨rfl, Hfin.out _ _ Hs3.out Hf3.out⟩
  by_cases h0 : p = -1
  · subst h0
    clear hl Hh key
    cases l <;> (
    go_enter Tryz.func67, Tryz.ntmps67
    go_wp2_with (at_builtin; refine wpList_append1 _ rfl _ _ _ rfl M 203 _ 3 40 Tryz.underlying168 info_node rfl (by omega) (.slice A n c) n (xs.flatMap ndEn) [.int .i64 (-1), .bool false, .slice none 0 0] rfl Hs.out rfl rfl rfl (by omega) (by omega) ?_; intro v3 w3 hs3 hf3 hz3; obtain ⟨A3, c3, rfl⟩ := hs3.slice; have hb3 := hf3.blk HbM.out Hb.out; have d0 := blk_cell hb3 0 rfl; have g0 := blk_froz hb3 0; have Hs3 := Lib.hid hs3; have Hf3 := Lib.hid hf3; clear hb3 hs3 hf3)
    go_ret2
    exact ⟨rfl, Hfin.out _ _ Hs3.out Hf3.out⟩)
  · obtain ⟨i, hi⟩ := Int.eq_ofNat_of_zero_le (show 0 ≤ p by omega)
    exact key i hi (hl.resolve_left h0)
end Go.Proofs.YtcffplgimbbflaaGreat
