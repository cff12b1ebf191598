/- What Do of the document's choice does. -/
import Derived.Test.YtdemeghhjnehbaaTellReady
import Derived.Test.YtdemeghhjnehbaaChoosePark
import Derived.Test.YtdemeghhjnehbaaMore
set_option linter.unusedVariables false
set_option linter.unusedSimpArgs false
namespace Go.Proofs.Ytdemeghhjnehbaa
open Go.RowKit
set_option maxRecDepth 100000
def TDoP (w : World) (S : Nat → Prop) (M : Nat → Nat) (P : Nat → Option ChS) (i v : Int) (ok pn pk kd : Bool) (l : List Wk) (n : Nat) (er : Int) (e : Ending) (w' : World) : Prop := ∃ (A : Option Addr) (cp : Nat), e = .returned (.tuple #[resV i v ok pn pk kd, .slice A n cp, .int .i64 er]) ∧ RTo w S M P w' ∧ Rd w' 5 (.slice A n cp) n (wks l)
/-- What the walk over the cases reads of a channel. -/
theorem mute_cells {w : World} {S : Nat → Prop} {M : Nat → Nat} {P : Nat → Option ChS} (h : RPool w S M P) (i : Nat) (c : ChS) (hi : P i = some c) : ∀ W, Fr Nob w W → W.cell? ⟨M i, 1, none⟩ = some (.bool c.timed) ∧ W.cell? ⟨M i, 2, none⟩ = some (.bool c.signal) := fun W hW => by
  obtain ⟨G, h1, _⟩ := h.at hi
  obtain ⟨v1, v2, v3, h1⟩ := h1
  exact ⟨hW.cell id (blk_cell h1.blk 1 rfl), hW.cell id (blk_cell h1.blk 2 rfl)⟩
theorem tell_refused (w : World) (n c0 : Nat) (A : Option Addr) (d : Bool) (dr t : Int) (ht : 16 < n ∨ t < 0) (hn : n ≤ 1000) :
    Calls Try.prog 24 #[.slice A n c0, .bool d, .int .i64 dr, .int .i64 t] w fun e w' => e = .returned (.tuple #[resV 0 0 false false false false, .slice none 0 0, .int .i64 1]) ∧ Fr Nob w w' := by
  by_cases h16 : 16 < n
  · have d0 : decide ((16 : Int) < n) = true := decide_eq_true (by omega)
    clear ht
    go_enter Try.func24, Try.ntmps24
    go_wp2_with fail
    exact bodyPost_ret (v := .tuple #[.agg #[.int .i64 0, .int .i64 0, .bool false, .bool false, .bool false, .bool false], .slice none 0 0, .int .i64 1]) (by simp [results, Try.results24, go_sem]) rfl ⟨rfl, (Fr.refl Nob w).alloc _⟩
  · have d0 : decide ((16 : Int) < n) = false := decide_eq_false (by omega)
    have d1 : t < 0 := by omega
    have d2 : decide (t < 0) = true := decide_eq_true d1
    have d3 : ¬ (16 : Int) < n := by omega
    clear ht
    go_enter Try.func24, Try.ntmps24
    go_wp2_with fail
    exact bodyPost_ret (v := .tuple #[.agg #[.int .i64 0, .int .i64 0, .bool false, .bool false, .bool false, .bool false], .slice none 0 0, .int .i64 1]) (by simp [results, Try.results24, go_sem]) rfl ⟨rfl, (Fr.refl Nob w).alloc _⟩
theorem RTo.near {w w' : World} {S : Nat → Prop} {M : Nat → Nat} {P : Nat → Option ChS} (h : RPool w S M P) (hf : Fr Nob w w') : RTo w S M P w' := RTo.same h hf
theorem RTo.comp {w W w' : World} {S S1 : Nat → Prop} {M : Nat → Nat} {P : Nat → Option ChS} (hWf : Fr S w W) (hsub : ∀ k, S1 k → S k ∨ w.heap.size ≤ k) (h2 : RTo W S1 M P w') : RTo w S M P w' := by
  obtain ⟨g1, S2, g2, g3⟩ := h2
  have hz := hWf.size
  refine ⟨hWf.trans g1 fun k hk q => ?_, S2, g2, fun k q => ?_⟩
  · rcases hsub k q with r | r
    · exact r
    · omega
  · rcases g3 k q with r | r
    · exact hsub k r
    · exact .inr (by omega)
theorem RTo.poke {w w3 wr wx : World} {S : Nat → Prop} {M : Nat → Nat} {P : Nat → Option ChS} {F : Nat → Prop} (hf0 : Fr Nob w w3) (h : RTo w3 S M P wr) (hf : Fr F wr wx) (hF : ∀ k, F k → ¬ S k ∧ w.heap.size ≤ k ∧ k < w3.heap.size) : RTo w S M P wx := by
  obtain ⟨g1, S2, g2, g3⟩ := h
  have hz := hf0.size
  refine ⟨(hf0.none.trans0 g1).trans hf fun k hk q => by have := (hF k q).2.1; omega, S2, g2.fr hf fun k q r => ?_, fun k q => ?_⟩
  · rcases g3 k q with s | s
    · exact (hF k r).1 s
    · have := (hF k r).2.2; omega
  · rcases g3 k q with s | s
    · exact .inl s
    · exact .inr (by omega)
set_option maxHeartbeats 4000000 in
theorem tell_mute {w : World} {S : Nat → Prop} {M : Nat → Nat} {P : Nat → Option ChS} (h : RPool w S M P) (hS : ∀ k, S k → k < w.heap.size) (v : Value) (l : List Cs) (n : Nat) (hn : l.length = n) (T : Nat → Prop) (hsl : Sl w T 113 3 v n (css M l)) (hst : ∀ k, S k → T k → False) (hTw : ∀ k, T k → k < w.heap.size) (hok : ∀ x ∈ l, CsOk P x) (hn2 : n ≤ 16) (dr t : Int) (ht : 0 ≤ t) (d : Bool) (k0 : Nat) (x0 : Cs) (hx0 : l[k0]? = some x0) (hm0 : (x0.2.1 && muteC P x0) = true) (hfirst : ∀ j x, j < k0 → l[j]? = some x → (x.2.1 && muteC P x) = false) (hk0 : k0 < n) :
    Calls Try.prog 24 #[v, .bool d, .int .i64 dr, .int .i64 t] w (TDoP w S M P (k0 : Int) 0 false false false true [] 0 0) := by
  have hrd := hsl.rd
  have hin := fun W (hW : Fr Nob w W) => cs_in hn (hrd.fr hW)
  have hmc := fun i c hi => mute_cells h i c hi
  obtain ⟨A, c0, rfl, hc1, hc2, _⟩ := cs_in hn hrd
  have Hin := Lib.hid hin; have Hmc := Lib.hid hmc; have Hok := Lib.hid hok; have Hp := Lib.hid h; have HS := Lib.hid hS; have Hsl := Lib.hid hsl; have Hst := Lib.hid hst; have HTw := Lib.hid hTw; have Hn := Lib.hid hn; have Hrd := Lib.hid hrd
  have hn16 : decide ((16 : Int) < n) = false := decide_eq_false (by omega)
  have ht0 : decide (t < 0) = false := decide_eq_false (by omega)
  have hn16' : ¬ (16 : Int) < n := by omega
  have ht0' : ¬ t < 0 := by omega
  have Hx0 := Lib.hid hx0; have Hm0 := Lib.hid hm0; have Hfirst := Lib.hid hfirst
  clear hx0 hm0 hfirst
  clear hin hmc hok h hS hsl hst hTw hn hrd
  unfold maxLen at hc2
  go_enter Try.func24, Try.ntmps24
  go_wp2_with fail
  obtain ⟨w1, hw1⟩ : ∃ w1, w1 = w.alloc (.cells (resA 0 0 false false false false) 71) := ⟨_, rfl⟩
  rw [← hw1]
  obtain ⟨rb, hrb⟩ : ∃ rb, rb = w.heap.size := ⟨_, rfl⟩
  rw [← hrb]
  have hf1 : Fr Nob w w1 := by rw [hw1]; exact (Fr.refl Nob w).alloc _
  have hb1 : w1.heap[rb]? = some (.cells #[.int .i64 0, .int .i64 0, .bool false, .bool false, .bool false, .bool false] 71 (0, 0)) := by rw [hw1, hrb]; exact blk_alloc_eq _ rfl
  have Hz1 : Hid (w.heap.size = rb ∧ rb < w1.heap.size) := ⟨hrb.symm, lt_of_block hb1⟩
  have Hf1 := Lib.hid hf1; have Hb1 := Lib.hid hb1
  clear hw1 hf1 hb1 hrb
  go_loopw [11] (fun i wr => ∃ k : Nat, i = .int .i64 k ∧ k ≤ n ∧ w1 = wr ∧ Hid (∀ j x, j < k → l[j]? = some x → (x.2.1 && muteC P x) = false)) (fun i _ => n - (intOf i).toNat)
  case atStart => exact ⟨0, rfl, Nat.zero_le _, rfl, Lib.hid fun j x hj => by omega⟩
  case round =>
    obtain ⟨k, rfl, hk, rfl, Hno⟩ := hrel
    by_cases hlt : k < n
    · obtain ⟨A1, cA1, hv, _, _, hA1⟩ := Hin.out _ Hf1.out
      cases hv
      obtain ⟨x, g, o, hx, rfl, e0, e1, e2⟩ := hA1 k hlt
      have hki : (k : Int) < n := by omega
      have hxk := Hok.out x (List.mem_of_getElem? hx)
      have hnext : (x.2.1 && muteC P x) = false → ∀ j y, j < k + 1 → l[j]? = some y → (y.2.1 && muteC P y) = false := fun hb j y hj hy => by
        by_cases hjk : j = k
        · subst hjk; rw [hx] at hy; cases hy; exact hb
        · exact Hno.out j y (by omega) hy
      have Hnext := Lib.hid hnext; have Hx := Lib.hid hx
      clear hA1 hnext hx e2
      obtain ⟨p, s, y⟩ := x
      dsimp only at e0 e1
      cases s with
      | false =>
        have Hn1 := Lib.hid (Hnext.out rfl)
        generalize pa M p = pp at *
        clear Hnext hxk
        go_wp2_with fail
        go_roundw
        case rel => exact ⟨k + 1, by go_num, by omega, by simp, Hn1⟩
        case measure => simp [intOf]; omega
      | true =>
        cases p with
        | none =>
          have Hn1 := Lib.hid (Hnext.out rfl)
          have e0' : _ = some (Value.pointer none) := e0
          clear Hnext hxk e0
          go_wp2_with fail
          go_roundw
          case rel => exact ⟨k + 1, by go_num, by omega, by simp, Hn1⟩
          case measure => simp [intOf]; omega
        | some i =>
          obtain ⟨c, hi⟩ := hxk i rfl
          obtain ⟨m1, m2⟩ := Hmc.out i c hi _ Hf1.out
          have hmx : muteC P (some i, true, y) = (c.timed || c.signal) := by simp only [muteC, hi]; rfl
          have Hmx := Lib.hid hmx
          have e0' : _ = some (Value.pointer (some ⟨M i, 0, none⟩)) := e0
          clear hmx hxk e0 hi
          cases htm : c.timed with
          | true =>
            rw [htm] at m1
            have hmu : (true && muteC P (some i, true, y)) = true := by rw [Hmx.out, htm]; rfl
            obtain ⟨rfl, rfl⟩ : k0 = k ∧ x0 = (some i, true, y) := by
              have h1 : ¬ k < k0 := fun q => by have := Hfirst.out k _ q Hx.out; rw [hmu] at this; cases this
              have h2 : ¬ k0 < k := fun q => by have := Hno.out k0 _ q Hx0.out; rw [Hm0.out] at this; cases this
              obtain rfl : k0 = k := by omega
              have := Hx.out.symm.trans Hx0.out
              exact ⟨rfl, (Option.some.inj this).symm⟩
            have f0 := blk_froz Hb1.out 0
            have c00 := blk_cell Hb1.out 0 rfl
            have f1 := blk_froz Hb1.out 1
            have c01 := blk_cell Hb1.out 1 rfl
            have f2 := blk_froz Hb1.out 2
            have c02 := blk_cell Hb1.out 2 rfl
            have f3 := blk_froz Hb1.out 3
            have c03 := blk_cell Hb1.out 3 rfl
            have f4 := blk_froz Hb1.out 4
            have c04 := blk_cell Hb1.out 4 rfl
            have f5 := blk_froz Hb1.out 5
            have c05 := blk_cell Hb1.out 5 rfl
            clear Hnext Hmx htm hmu
            go_wp2_with fail
            obtain ⟨wx, hwx⟩ : ∃ wx, wx = ((((((w1.setCell ⟨rb, 0, none⟩ (.int .i64 (k0 : Int))).setCell ⟨rb, 1, none⟩ (.int .i64 0)).setCell ⟨rb, 2, none⟩ (.bool false)).setCell ⟨rb, 3, none⟩ (.bool false)).setCell ⟨rb, 4, none⟩ (.bool false)).setCell ⟨rb, 5, none⟩ (.bool true)) := ⟨_, rfl⟩
            rw [← hwx]
            have hfx : Fr (fun k => k = rb) (w1) wx := by rw [hwx]; exact six_fr _ _ _ _ _ _ _ _
            have hbx : wx.heap[rb]? = some (.cells #[.int .i64 (k0 : Int), .int .i64 0, .bool false, .bool false, .bool false, .bool true] 71 (0, 0)) := by rw [hwx]; exact six_blk Hb1.out _ _ _ _ _ _
            clear hwx
            have t0 := blk_cell hbx 0 rfl
            have t1 := blk_cell hbx 1 rfl
            have t2 := blk_cell hbx 2 rfl
            have t3 := blk_cell hbx 3 rfl
            have t4 := blk_cell hbx 4 rfl
            have t5 := blk_cell hbx 5 rfl
            refine bodyPost_ret (v := .tuple #[.agg #[.int .i64 (k0 : Int), .int .i64 0, .bool false, .bool false, .bool false, .bool true], .slice none 0 0, .int .i64 0]) (by simp [results, Try.results24, go_sem, t0, t1, t2, t3, t4, t5]) rfl ⟨none, 0, rfl, ?_, rd_nil _ _⟩
            exact RTo.near Hp.out (Hf1.out.trans hfx fun q hk e => by have := Hz1.out; omega)
          | false =>
            rw [htm] at m1
            cases hsg : c.signal with
            | true =>
              rw [hsg] at m2
              have hmu : (true && muteC P (some i, true, y)) = true := by rw [Hmx.out, htm, hsg]; rfl
              obtain ⟨rfl, rfl⟩ : k0 = k ∧ x0 = (some i, true, y) := by
                have h1 : ¬ k < k0 := fun q => by have := Hfirst.out k _ q Hx.out; rw [hmu] at this; cases this
                have h2 : ¬ k0 < k := fun q => by have := Hno.out k0 _ q Hx0.out; rw [Hm0.out] at this; cases this
                obtain rfl : k0 = k := by omega
                have := Hx.out.symm.trans Hx0.out
                exact ⟨rfl, (Option.some.inj this).symm⟩
              have f0 := blk_froz Hb1.out 0
              have c00 := blk_cell Hb1.out 0 rfl
              have f1 := blk_froz Hb1.out 1
              have c01 := blk_cell Hb1.out 1 rfl
              have f2 := blk_froz Hb1.out 2
              have c02 := blk_cell Hb1.out 2 rfl
              have f3 := blk_froz Hb1.out 3
              have c03 := blk_cell Hb1.out 3 rfl
              have f4 := blk_froz Hb1.out 4
              have c04 := blk_cell Hb1.out 4 rfl
              have f5 := blk_froz Hb1.out 5
              have c05 := blk_cell Hb1.out 5 rfl
              clear Hnext Hmx htm hmu
              go_wp2_with fail
              obtain ⟨wx, hwx⟩ : ∃ wx, wx = ((((((w1.setCell ⟨rb, 0, none⟩ (.int .i64 (k0 : Int))).setCell ⟨rb, 1, none⟩ (.int .i64 0)).setCell ⟨rb, 2, none⟩ (.bool false)).setCell ⟨rb, 3, none⟩ (.bool false)).setCell ⟨rb, 4, none⟩ (.bool false)).setCell ⟨rb, 5, none⟩ (.bool true)) := ⟨_, rfl⟩
              rw [← hwx]
              have hfx : Fr (fun k => k = rb) (w1) wx := by rw [hwx]; exact six_fr _ _ _ _ _ _ _ _
              have hbx : wx.heap[rb]? = some (.cells #[.int .i64 (k0 : Int), .int .i64 0, .bool false, .bool false, .bool false, .bool true] 71 (0, 0)) := by rw [hwx]; exact six_blk Hb1.out _ _ _ _ _ _
              clear hwx
              have t0 := blk_cell hbx 0 rfl
              have t1 := blk_cell hbx 1 rfl
              have t2 := blk_cell hbx 2 rfl
              have t3 := blk_cell hbx 3 rfl
              have t4 := blk_cell hbx 4 rfl
              have t5 := blk_cell hbx 5 rfl
              refine bodyPost_ret (v := .tuple #[.agg #[.int .i64 (k0 : Int), .int .i64 0, .bool false, .bool false, .bool false, .bool true], .slice none 0 0, .int .i64 0]) (by simp [results, Try.results24, go_sem, t0, t1, t2, t3, t4, t5]) rfl ⟨none, 0, rfl, ?_, rd_nil _ _⟩
              exact RTo.near Hp.out (Hf1.out.trans hfx fun q hk e => by have := Hz1.out; omega)
            | false =>
              rw [hsg] at m2
              have Hn1 := Lib.hid (Hnext.out (by show (true && muteC P (some i, true, y)) = false; rw [Hmx.out, htm, hsg]; rfl))
              clear Hnext Hmx htm hsg
              go_wp2_with fail
              go_roundw
              case rel => exact ⟨k + 1, by go_num, by omega, by simp, Hn1⟩
              case measure => simp [intOf]; omega
    · obtain rfl : n = k := by omega
      have := Hno.out k0 x0 hk0 Hx0.out
      rw [Hm0.out] at this
      cases this
set_option maxHeartbeats 4000000 in
theorem tell_default {w : World} {S : Nat → Prop} {M : Nat → Nat} {P : Nat → Option ChS} (h : RPool w S M P) (hS : ∀ k, S k → k < w.heap.size) (v : Value) (l : List Cs) (n : Nat) (hn : l.length = n) (T : Nat → Prop) (hsl : Sl w T 113 3 v n (css M l)) (hst : ∀ k, S k → T k → False) (hTw : ∀ k, T k → k < w.heap.size) (hok : ∀ x ∈ l, CsOk P x) (hn2 : n ≤ 16) (dr t : Int) (ht : 0 ≤ t) (hmu : ∀ x ∈ l, (x.2.1 && muteC P x) = false) (hno : ∀ x ∈ l, canC P x = false) :
    Calls Try.prog 24 #[v, .bool true, .int .i64 dr, .int .i64 t] w (TDoP w S M P (-1) 0 false false false false [] 0 0) := by
  have hrd := hsl.rd
  have hin := fun W (hW : Fr Nob w W) => cs_in hn (hrd.fr hW)
  have hmc := fun i c hi => mute_cells h i c hi
  obtain ⟨A, c0, rfl, hc1, hc2, _⟩ := cs_in hn hrd
  have Hin := Lib.hid hin; have Hmc := Lib.hid hmc; have Hok := Lib.hid hok; have Hp := Lib.hid h; have HS := Lib.hid hS; have Hsl := Lib.hid hsl; have Hst := Lib.hid hst; have HTw := Lib.hid hTw; have Hn := Lib.hid hn; have Hrd := Lib.hid hrd
  have hn16 : decide ((16 : Int) < n) = false := decide_eq_false (by omega)
  have ht0 : decide (t < 0) = false := decide_eq_false (by omega)
  have hn16' : ¬ (16 : Int) < n := by omega
  have ht0' : ¬ t < 0 := by omega
  have hrdy := fun W (hW : Fr Nob w W) => tell_ready (h.fr0 hW) (.slice A n c0) l n hn (hsl.rd.fr hW) hok (fun _ => false) (fun k x hx => hno x (List.mem_of_getElem? hx)) (by omega) 0 (by rw [rdy_none (fun _ _ => rfl)]; rfl)
  have Hrdy := Lib.hid hrdy; have Hmu := Lib.hid hmu
  clear hrdy hmu hno
  clear hin hmc hok h hS hsl hst hTw hn hrd
  unfold maxLen at hc2
  go_enter Try.func24, Try.ntmps24
  go_wp2_with fail
  obtain ⟨w1, hw1⟩ : ∃ w1, w1 = w.alloc (.cells (resA 0 0 false false false false) 71) := ⟨_, rfl⟩
  rw [← hw1]
  obtain ⟨rb, hrb⟩ : ∃ rb, rb = w.heap.size := ⟨_, rfl⟩
  rw [← hrb]
  have hf1 : Fr Nob w w1 := by rw [hw1]; exact (Fr.refl Nob w).alloc _
  have hb1 : w1.heap[rb]? = some (.cells #[.int .i64 0, .int .i64 0, .bool false, .bool false, .bool false, .bool false] 71 (0, 0)) := by rw [hw1, hrb]; exact blk_alloc_eq _ rfl
  have Hz1 : Hid (w.heap.size = rb ∧ rb < w1.heap.size) := ⟨hrb.symm, lt_of_block hb1⟩
  have Hf1 := Lib.hid hf1; have Hb1 := Lib.hid hb1
  clear hw1 hf1 hb1 hrb
  go_loopw [11] (fun i wr => ∃ k : Nat, i = .int .i64 k ∧ k ≤ n ∧ w1 = wr ∧ Hid (∀ j x, j < k → l[j]? = some x → (x.2.1 && muteC P x) = false)) (fun i _ => n - (intOf i).toNat)
  case atStart => exact ⟨0, rfl, Nat.zero_le _, rfl, Lib.hid fun j x hj => by omega⟩
  case round =>
    obtain ⟨k, rfl, hk, rfl, Hno⟩ := hrel
    by_cases hlt : k < n
    · obtain ⟨A1, cA1, hv, _, _, hA1⟩ := Hin.out _ Hf1.out
      cases hv
      obtain ⟨x, g, o, hx, rfl, e0, e1, e2⟩ := hA1 k hlt
      have hki : (k : Int) < n := by omega
      have hxk := Hok.out x (List.mem_of_getElem? hx)
      have hnext : (x.2.1 && muteC P x) = false → ∀ j y, j < k + 1 → l[j]? = some y → (y.2.1 && muteC P y) = false := fun hb j y hj hy => by
        by_cases hjk : j = k
        · subst hjk; rw [hx] at hy; cases hy; exact hb
        · exact Hno.out j y (by omega) hy
      have Hnext := Lib.hid hnext; have Hx := Lib.hid hx
      clear hA1 hnext hx e2
      obtain ⟨p, s, y⟩ := x
      dsimp only at e0 e1
      cases s with
      | false =>
        have Hn1 := Lib.hid (Hnext.out rfl)
        generalize pa M p = pp at *
        clear Hnext hxk
        go_wp2_with fail
        go_roundw
        case rel => exact ⟨k + 1, by go_num, by omega, by simp, Hn1⟩
        case measure => simp [intOf]; omega
      | true =>
        cases p with
        | none =>
          have Hn1 := Lib.hid (Hnext.out rfl)
          have e0' : _ = some (Value.pointer none) := e0
          clear Hnext hxk e0
          go_wp2_with fail
          go_roundw
          case rel => exact ⟨k + 1, by go_num, by omega, by simp, Hn1⟩
          case measure => simp [intOf]; omega
        | some i =>
          obtain ⟨c, hi⟩ := hxk i rfl
          obtain ⟨m1, m2⟩ := Hmc.out i c hi _ Hf1.out
          have hmx : muteC P (some i, true, y) = (c.timed || c.signal) := by simp only [muteC, hi]; rfl
          have Hmx := Lib.hid hmx
          have e0' : _ = some (Value.pointer (some ⟨M i, 0, none⟩)) := e0
          clear hmx hxk e0 hi
          cases htm : c.timed with
          | true =>
            rw [htm] at m1
            have hmu : (true && muteC P (some i, true, y)) = true := by rw [Hmx.out, htm]; rfl
            exact absurd (hmu.symm.trans (Hmu.out _ (List.mem_of_getElem? Hx.out))) (by simp)
          | false =>
            rw [htm] at m1
            cases hsg : c.signal with
            | true =>
              rw [hsg] at m2
              have hmu : (true && muteC P (some i, true, y)) = true := by rw [Hmx.out, htm, hsg]; rfl
              exact absurd (hmu.symm.trans (Hmu.out _ (List.mem_of_getElem? Hx.out))) (by simp)
            | false =>
              rw [hsg] at m2
              have Hn1 := Lib.hid (Hnext.out (by show (true && muteC P (some i, true, y)) = false; rw [Hmx.out, htm, hsg]; rfl))
              clear Hnext Hmx htm hsg
              go_wp2_with fail
              go_roundw
              case rel => exact ⟨k + 1, by go_num, by omega, by simp, Hn1⟩
              case measure => simp [intOf]; omega
    · obtain rfl : n = k := by omega
      go_wp2_with fail
      refine (Hrdy.out _ Hf1.out).mono ?_
      rintro e w3 ⟨A3, cp3, rfl, hf3, hs3⟩
      have Hb3 := Lib.hid (hf3.blk id Hb1.out)
      have Hf3 := Lib.hid (Hf1.out.trans0 hf3)
      clear hf3 hs3
      have f0 := blk_froz Hb3.out 0
      have c00 := blk_cell Hb3.out 0 rfl
      have f1 := blk_froz Hb3.out 1
      have c01 := blk_cell Hb3.out 1 rfl
      have f2 := blk_froz Hb3.out 2
      have c02 := blk_cell Hb3.out 2 rfl
      have f3 := blk_froz Hb3.out 3
      have c03 := blk_cell Hb3.out 3 rfl
      have f4 := blk_froz Hb3.out 4
      have c04 := blk_cell Hb3.out 4 rfl
      have f5 := blk_froz Hb3.out 5
      have c05 := blk_cell Hb3.out 5 rfl
      go_wp2_with fail
      obtain ⟨wx, hwx⟩ : ∃ wx, wx = ((((((w3.setCell ⟨rb, 0, none⟩ (.int .i64 (-1))).setCell ⟨rb, 1, none⟩ (.int .i64 0)).setCell ⟨rb, 2, none⟩ (.bool false)).setCell ⟨rb, 3, none⟩ (.bool false)).setCell ⟨rb, 4, none⟩ (.bool false)).setCell ⟨rb, 5, none⟩ (.bool false)) := ⟨_, rfl⟩
      rw [← hwx]
      have hfx : Fr (fun k => k = rb) (w3) wx := by rw [hwx]; exact six_fr _ _ _ _ _ _ _ _
      have hbx : wx.heap[rb]? = some (.cells #[.int .i64 (-1), .int .i64 0, .bool false, .bool false, .bool false, .bool false] 71 (0, 0)) := by rw [hwx]; exact six_blk Hb3.out _ _ _ _ _ _
      clear hwx
      have t0 := blk_cell hbx 0 rfl
      have t1 := blk_cell hbx 1 rfl
      have t2 := blk_cell hbx 2 rfl
      have t3 := blk_cell hbx 3 rfl
      have t4 := blk_cell hbx 4 rfl
      have t5 := blk_cell hbx 5 rfl
      refine bodyPost_ret (v := .tuple #[.agg #[.int .i64 (-1), .int .i64 0, .bool false, .bool false, .bool false, .bool false], .slice none 0 0, .int .i64 0]) (by simp [results, Try.results24, go_sem, t0, t1, t2, t3, t4, t5]) rfl ⟨none, 0, rfl, ?_, rd_nil _ _⟩
      exact RTo.near Hp.out (Hf3.out.trans hfx fun q hk e => by have := Hz1.out; omega)
open Go.RowKit
set_option maxRecDepth 100000
theorem cs_inS {w : World} {T : Nat → Prop} {B : Nat → Nat} {l : List Cs} {n : Nat} {v : Value} (hn : l.length = n) (h : Sl w T 113 3 v n (css B l)) : ∃ A c, v = .slice A n c ∧ n ≤ c ∧ c ≤ maxLen ∧
    ∀ k, k < n → ∃ (x : Cs) (g o : Nat), l[k]? = some x ∧ A = some ⟨g, o, none⟩ ∧ w.cell? ⟨g, o + k * 3, none⟩ = some (.pointer (pa B x.1)) ∧ w.cell? ⟨g, o + k * 3 + 1, none⟩ = some (.bool x.2.1) ∧ w.cell? ⟨g, o + k * 3 + 2, none⟩ = some (.int .i64 x.2.2) ∧ T g := by
  obtain ⟨A, c, rfl, hc1, hc2, hA⟩ := cs_in hn h.rd
  refine ⟨A, c, rfl, hc1, hc2, fun k hk => ?_⟩
  obtain ⟨x, g, o, hx, rfl, e0, e1, e2⟩ := hA k hk
  refine ⟨x, g, o, hx, rfl, e0, e1, e2, ?_⟩
  rcases h.2 with ⟨hv, _⟩ | ⟨g', off, cap, blk, hv, hg, _⟩
  · cases hv
  · cases hv
    exact hg
theorem RPool.lt {w : World} {S : Nat → Prop} {M : Nat → Nat} {P : Nat → Option ChS} (h : RPool w S M P) : RPool w (fun k => S k ∧ k < w.heap.size) M P := by
  obtain ⟨F, h1, h2, h3⟩ := h
  exact ⟨F, h1, fun i k q => ⟨h2 i k q, (h2 i k q).2⟩, h3⟩
set_option maxHeartbeats 4000000 in
theorem tell_park {w : World} {S : Nat → Prop} {M : Nat → Nat} {P : Nat → Option ChS} (h : RPool w S M P) (hS : ∀ k, S k → k < w.heap.size) (v : Value) (l : List Cs) (n : Nat) (hn : l.length = n) (T : Nat → Prop) (hsl : Sl w T 113 3 v n (css M l)) (hst : ∀ k, S k → T k → False) (hTw : ∀ k, T k → k < w.heap.size) (hok : ∀ x ∈ l, CsOk P x) (hn2 : n ≤ 16) (dr t : Int) (ht : 0 ≤ t) (hmu : ∀ x ∈ l, (x.2.1 && muteC P x) = false) (hno : ∀ x ∈ l, canC P x = false) (hfew : Few P 900) (hqf : QFew P) :
    Calls Try.prog 24 #[v, .bool false, .int .i64 dr, .int .i64 t] w (TDoP w S M (parkF t l 0 P) (-1) 0 false false true false [] 0 0) := by
  have hrd := hsl.rd
  have hin := fun W (hW : Fr Nob w W) => cs_in hn (hrd.fr hW)
  have hmc := fun i c hi => mute_cells h i c hi
  obtain ⟨A, c0, rfl, hc1, hc2, _⟩ := cs_in hn hrd
  have Hin := Lib.hid hin; have Hmc := Lib.hid hmc; have Hok := Lib.hid hok; have Hp := Lib.hid h; have HS := Lib.hid hS; have Hsl := Lib.hid hsl; have Hst := Lib.hid hst; have HTw := Lib.hid hTw; have Hn := Lib.hid hn; have Hrd := Lib.hid hrd
  have hn16 : decide ((16 : Int) < n) = false := decide_eq_false (by omega)
  have ht0 : decide (t < 0) = false := decide_eq_false (by omega)
  have hn16' : ¬ (16 : Int) < n := by omega
  have ht0' : ¬ t < 0 := by omega
  have hrdy := fun W (hW : Fr Nob w W) => tell_ready (h.fr0 hW) (.slice A n c0) l n hn (hsl.rd.fr hW) hok (fun _ => false) (fun k x hx => hno x (List.mem_of_getElem? hx)) (by omega) 0 (by rw [rdy_none (fun _ _ => rfl)]; rfl)
  have hend : l.take n = l := by rw [← hn, List.take_length]
  have hA2 := fun W0 (hW0 : Fr Nob w W0) W Q (hW : RTo W0 S M Q W) => cs_inS hn ((hsl.fr hW0 fun _ _ q => q).fr hW.1 fun k q q' => hst k q' q)
  have hwait : ∀ W0, Fr Nob w W0 → ∀ W k x, RTo W0 S M (parkF t (l.take k) 0 P) W → l[k]? = some x → k < n → ∀ WW, Fr Nob W WW → Calls Try.prog 51 #[.pointer (pa M x.1), wtVal (t, (k : Int), valC x), .bool x.2.1] WW fun e w' => ∃ r : Int, e = .returned (.int .i64 r) ∧ RTo W0 S M (parkF t (l.take (k + 1)) 0 P) w' ∧ Fr (fun j => (S j ∨ W0.heap.size ≤ j) ∧ j < W.heap.size) WW w' := fun W0 hW0 W k x hW hx hk WW hWW => by
    have hs := take_snocC l k x hx
    have hlen : (l.take k).length = k := by rw [List.length_take]; omega
    have hlf := Few.park t (l.take k) 0 P 900 hfew
    rw [hlen] at hlf
    have hrf := rfew hlf (QFew.park t (l.take k) 0 P hqf) (by omega)
    rw [hs, parkF_snoc, hlen, Nat.zero_add]
    have hox := CsOk.park t (l.take k) 0 P (hok x (List.mem_of_getElem? hx))
    obtain ⟨o, s, y⟩ := x
    obtain ⟨hWf, S1, hp, hsub⟩ := id hW
    cases o with
    | none => exact (rwait_nil WW s t (k : Int) (valC (none, s, y))).mono fun e w' ⟨h1, h2⟩ => ⟨6, h1, hW.out (hWW.trans0 h2), h2.none⟩
    | some i =>
      obtain ⟨d, hd⟩ := hox i rfl
      have := rpool_wait (hp.lt.fr0 hWW) i hd (hrf i d hd) (t, (k : Int), valC (some i, s, y)) s _ rfl rfl
      simp only [stepF, hd]
      exact this.mono fun e w' ⟨h1, h2⟩ => ⟨_, h1, RTo.comp (hWf.trans0 hWW.none) (fun k q => hsub k q.1) h2, h2.1.mono fun j _ q => ⟨hsub j q.1, q.2⟩⟩
  have Hrdy := Lib.hid hrdy; have Hmu := Lib.hid hmu; have Hend := Lib.hid hend; have HA2 := Lib.hid hA2; have Hwait := Lib.hid hwait
  clear hrdy hmu hno hend hA2 hwait hfew hqf
  clear hin hmc hok h hS hsl hst hTw hn hrd
  unfold maxLen at hc2
  go_enter Try.func24, Try.ntmps24
  go_wp2_with fail
  obtain ⟨w1, hw1⟩ : ∃ w1, w1 = w.alloc (.cells (resA 0 0 false false false false) 71) := ⟨_, rfl⟩
  rw [← hw1]
  obtain ⟨rb, hrb⟩ : ∃ rb, rb = w.heap.size := ⟨_, rfl⟩
  rw [← hrb]
  have hf1 : Fr Nob w w1 := by rw [hw1]; exact (Fr.refl Nob w).alloc _
  have hb1 : w1.heap[rb]? = some (.cells #[.int .i64 0, .int .i64 0, .bool false, .bool false, .bool false, .bool false] 71 (0, 0)) := by rw [hw1, hrb]; exact blk_alloc_eq _ rfl
  have Hz1 : Hid (w.heap.size = rb ∧ rb < w1.heap.size) := ⟨hrb.symm, lt_of_block hb1⟩
  have Hf1 := Lib.hid hf1; have Hb1 := Lib.hid hb1
  clear hw1 hf1 hb1 hrb
  go_loopw [11] (fun i wr => ∃ k : Nat, i = .int .i64 k ∧ k ≤ n ∧ w1 = wr ∧ Hid (∀ j x, j < k → l[j]? = some x → (x.2.1 && muteC P x) = false)) (fun i _ => n - (intOf i).toNat)
  case atStart => exact ⟨0, rfl, Nat.zero_le _, rfl, Lib.hid fun j x hj => by omega⟩
  case round =>
    obtain ⟨k, rfl, hk, rfl, Hno⟩ := hrel
    by_cases hlt : k < n
    · obtain ⟨A1, cA1, hv, _, _, hA1⟩ := Hin.out _ Hf1.out
      cases hv
      obtain ⟨x, g, o, hx, rfl, e0, e1, e2⟩ := hA1 k hlt
      have hki : (k : Int) < n := by omega
      have hxk := Hok.out x (List.mem_of_getElem? hx)
      have hnext : (x.2.1 && muteC P x) = false → ∀ j y, j < k + 1 → l[j]? = some y → (y.2.1 && muteC P y) = false := fun hb j y hj hy => by
        by_cases hjk : j = k
        · subst hjk; rw [hx] at hy; cases hy; exact hb
        · exact Hno.out j y (by omega) hy
      have Hnext := Lib.hid hnext; have Hx := Lib.hid hx
      clear hA1 hnext hx e2
      obtain ⟨p, s, y⟩ := x
      dsimp only at e0 e1
      cases s with
      | false =>
        have Hn1 := Lib.hid (Hnext.out rfl)
        generalize pa M p = pp at *
        clear Hnext hxk
        go_wp2_with fail
        go_roundw
        case rel => exact ⟨k + 1, by go_num, by omega, by simp, Hn1⟩
        case measure => simp [intOf]; omega
      | true =>
        cases p with
        | none =>
          have Hn1 := Lib.hid (Hnext.out rfl)
          have e0' : _ = some (Value.pointer none) := e0
          clear Hnext hxk e0
          go_wp2_with fail
          go_roundw
          case rel => exact ⟨k + 1, by go_num, by omega, by simp, Hn1⟩
          case measure => simp [intOf]; omega
        | some i =>
          obtain ⟨c, hi⟩ := hxk i rfl
          obtain ⟨m1, m2⟩ := Hmc.out i c hi _ Hf1.out
          have hmx : muteC P (some i, true, y) = (c.timed || c.signal) := by simp only [muteC, hi]; rfl
          have Hmx := Lib.hid hmx
          have e0' : _ = some (Value.pointer (some ⟨M i, 0, none⟩)) := e0
          clear hmx hxk e0 hi
          cases htm : c.timed with
          | true =>
            rw [htm] at m1
            have hmu : (true && muteC P (some i, true, y)) = true := by rw [Hmx.out, htm]; rfl
            exact absurd (hmu.symm.trans (Hmu.out _ (List.mem_of_getElem? Hx.out))) (by simp)
          | false =>
            rw [htm] at m1
            cases hsg : c.signal with
            | true =>
              rw [hsg] at m2
              have hmu : (true && muteC P (some i, true, y)) = true := by rw [Hmx.out, htm, hsg]; rfl
              exact absurd (hmu.symm.trans (Hmu.out _ (List.mem_of_getElem? Hx.out))) (by simp)
            | false =>
              rw [hsg] at m2
              have Hn1 := Lib.hid (Hnext.out (by show (true && muteC P (some i, true, y)) = false; rw [Hmx.out, htm, hsg]; rfl))
              clear Hnext Hmx htm hsg
              go_wp2_with fail
              go_roundw
              case rel => exact ⟨k + 1, by go_num, by omega, by simp, Hn1⟩
              case measure => simp [intOf]; omega
    · obtain rfl : n = k := by omega
      go_wp2_with fail
      refine (Hrdy.out _ Hf1.out).mono ?_
      rintro e w3 ⟨A3, cp3, rfl, hf3, hs3⟩
      have Hb3 := Lib.hid (hf3.blk id Hb1.out)
      have Hf3 := Lib.hid (Hf1.out.trans0 hf3)
      have Hz4 : Hid (rb < w3.heap.size) := Lib.hid (lt_of_block Hb3.out)
      have Ht0 := Lib.hid (show RTo w3 S M (parkF t (l.take 0) 0 P) w3 from RTo.same (Hp.out.fr0 Hf3.out) (Fr.refl _ _))
      have Hns : Hid (¬ S rb) := Lib.hid fun q => by have := HS.out _ q; have := Hz1.out; omega
      clear hf3 hs3
      go_wp2_with fail
      go_loopw [22] (fun i wr => ∃ k : Nat, i = .int .i64 k ∧ k ≤ n ∧ Hid (RTo w3 S M (parkF t (l.take k) 0 P) wr)) (fun i _ => n - (intOf i).toNat)
      case atStart => exact ⟨0, rfl, Nat.zero_le _, Ht0⟩
      case round =>
        obtain ⟨wo, rfl⟩ : ∃ wo : World, wo = wr := ⟨_, rfl⟩
        obtain ⟨k, rfl, hk, Ht⟩ := hrel
        by_cases hlt : k < n
        · obtain ⟨A1, cA1, hv, _, _, hA1⟩ := HA2.out w3 Hf3.out wo _ Ht.out
          cases hv
          obtain ⟨x, g, o, hx, rfl, e0, e1, e2, htg⟩ := hA1 k hlt
          have hki : (k : Int) < n := by omega
          have hnsg : Hid (¬ S g ∧ g < w3.heap.size) := Lib.hid ⟨fun q => Hst.out _ q htg, by have := HTw.out _ htg; have := Hf3.out.size; omega⟩
          have Hc := Lib.hid (fun W hW => Hwait.out w3 Hf3.out wo k x Ht.out hx hlt W hW)
          clear hx hA1 htg
          obtain ⟨p, s, y⟩ := x
          dsimp only at e0 e1 e2 Hc
          generalize pa M p = pp at *
          have hgl := World.block_lt_of_cell? wo ⟨g, o + k * 3, none⟩ e0
          cases s with
          | false =>
            have Hc2 : Hid (∀ W, Fr Nob wo W → Calls Try.prog 51 #[.pointer pp, .agg #[.int .i64 t, .int .i64 (k : Int), .int .i64 0], .bool false] W fun e w' => ∃ r : Int, e = .returned (.int .i64 r) ∧ RTo w3 S M (parkF t (l.take (k + 1)) 0 P) w' ∧ Fr (fun j => (S j ∨ w3.heap.size ≤ j) ∧ j < wo.heap.size) W w') := Hc
            clear Hc
            go_wp2_with fail
            obtain ⟨wa, hwa⟩ : ∃ wa, wa = wo.alloc (.cells #[.int .i64 t, .int .i64 (k : Int), .int .i64 0] 63) := ⟨_, rfl⟩
            rw [← hwa]
            obtain ⟨rw', hrw⟩ : ∃ rw', rw' = wo.heap.size := ⟨_, rfl⟩
            rw [← hrw]
            have hfa : Fr Nob wo wa := by rw [hwa]; exact (Fr.refl Nob wo).alloc _
            have hba : wa.heap[rw']? = some (.cells #[.int .i64 t, .int .i64 (k : Int), .int .i64 0] 63 (0, 0)) := by rw [hwa, hrw]; exact heap_alloc_new _ _
            have hlt2 := lt_of_block hba
            have g0 := hfa.cell id e0; have g1 := hfa.cell id e1
            have hkey : ∀ W, Fr (fun j => (S j ∨ w3.heap.size ≤ j) ∧ j < wo.heap.size) wa W → W.cell? ⟨g, o + k * 3, none⟩ = some (.pointer pp) ∧ W.cell? ⟨g, o + k * 3 + 1, none⟩ = some (.bool false) ∧ W.cell? ⟨rw', 0, none⟩ = some (.int .i64 t) ∧ W.cell? ⟨rw', 1, none⟩ = some (.int .i64 (k : Int)) ∧ W.cell? ⟨rw', 2, none⟩ = some (.int .i64 0) := fun W hW => by
              have hng : ¬ ((S g ∨ w3.heap.size ≤ g) ∧ g < wo.heap.size) := fun q => by
                rcases q.1 with r | r
                · exact hnsg.out.1 r
                · have := hnsg.out.2; omega
              have hnr : ¬ ((S rw' ∨ w3.heap.size ≤ rw') ∧ rw' < wo.heap.size) := fun q => by have := q.2; omega
              exact ⟨hW.cell hng g0, hW.cell hng g1, blk_cell (hW.blk hnr hba) 0 rfl, blk_cell (hW.blk hnr hba) 1 rfl, blk_cell (hW.blk hnr hba) 2 rfl⟩
            have Key := Lib.hid hkey
            have Hfd := Lib.hid (hfa.drew)
            have hf0 : Fr Nob wa wa.drew := (Fr.refl Nob wa).drew
            have Hf0 := Lib.hid hf0
            clear hwa hrw hfa hba hkey g0 g1 Ht e0 e1 e2 hf0 hnsg
            go_wp2_with fail
            refine wp_region_held_drew (S := fun W => W.cell? ⟨g, o + k * 3, none⟩ = some (.pointer pp) ∧ W.cell? ⟨g, o + k * 3 + 1, none⟩ = some (.bool false) ∧ W.cell? ⟨rw', 0, none⟩ = some (.int .i64 t) ∧ W.cell? ⟨rw', 1, none⟩ = some (.int .i64 (k : Int)) ∧ W.cell? ⟨rw', 2, none⟩ = some (.int .i64 0)) (by kernel_rfl) (by exact Key.out _ Hf0.out.none) (fun hHeld => ?_)
            refine wpAnyH_take (i := 0) (v := ?_) rfl (by kernel_rfl) (by kernel_rfl) (by kernel_rfl) (fun _ _ _ h => h) (Or.inl ⟨by rfl, ?_⟩) (by assumption) ?_
            rotate_left
            · intro w hSw; (try dsimp only at hSw); go_simp; try with_reducible rfl
            try simp only [List.getElem_toArray, List.getElem_cons_zero, List.getElem_cons_succ, Act.put, List.setIfInBounds_toArray, List.set_cons_zero, List.set_cons_succ]
            refine wpAnyH_take (i := 1) (v := ?_) rfl (by kernel_rfl) (by kernel_rfl) (by kernel_rfl) (fun _ _ _ h => h) (Or.inl ⟨by rfl, ?_⟩) (by assumption) ?_
            rotate_left
            · intro w hSw; (try dsimp only at hSw); go_simp; try with_reducible rfl
            try simp only [List.getElem_toArray, List.getElem_cons_zero, List.getElem_cons_succ, Act.put, List.setIfInBounds_toArray, List.set_cons_zero, List.set_cons_succ]
            refine wpAnyH_take (i := 2) (v := ?_) rfl (by kernel_rfl) (by kernel_rfl) (by kernel_rfl) (fun _ _ _ h => h) (Or.inl ⟨by rfl, ?_⟩) (by assumption) ?_
            rotate_left
            · intro w hSw; (try dsimp only at hSw); go_simp; try with_reducible rfl
            try simp only [List.getElem_toArray, List.getElem_cons_zero, List.getElem_cons_succ, Act.put, List.setIfInBounds_toArray, List.set_cons_zero, List.set_cons_succ]
            refine wpAnyH_take (i := 3) (v := ?_) rfl (by kernel_rfl) (by kernel_rfl) (by kernel_rfl) (fun _ _ _ h => h) (Or.inl ⟨by rfl, ?_⟩) (by assumption) ?_
            rotate_left
            · intro w hSw; (try dsimp only at hSw); go_simp; try with_reducible rfl
            try simp only [List.getElem_toArray, List.getElem_cons_zero, List.getElem_cons_succ, Act.put, List.setIfInBounds_toArray, List.set_cons_zero, List.set_cons_succ]
            refine wpAnyH_take (i := 4) (v := ?_) rfl (by kernel_rfl) (by kernel_rfl) (by kernel_rfl) (fun _ _ _ h => h) (Or.inl ⟨by rfl, ?_⟩) (by assumption) ?_
            rotate_left
            · intro w hSw; (try dsimp only at hSw); go_simp; try with_reducible rfl
            try simp only [List.getElem_toArray, List.getElem_cons_zero, List.getElem_cons_succ, Act.put, List.setIfInBounds_toArray, List.set_cons_zero, List.set_cons_succ]
            refine wpAnyH_take (i := 5) (v := ?_) rfl (by kernel_rfl) (by kernel_rfl) (by kernel_rfl) (fun _ _ _ h => h) (Or.inl ⟨by rfl, ?_⟩) (by assumption) ?_
            rotate_left
            · intro w hSw; (try dsimp only at hSw); go_simp; try with_reducible rfl
            try simp only [List.getElem_toArray, List.getElem_cons_zero, List.getElem_cons_succ, Act.put, List.setIfInBounds_toArray, List.set_cons_zero, List.set_cons_succ]
            refine wpAnyH_take (i := 6) (v := ?_) rfl (by kernel_rfl) (by kernel_rfl) (by kernel_rfl) (fun _ _ _ h => h) (Or.inl ⟨by rfl, ?_⟩) (by assumption) ?_
            rotate_left
            · intro w hSw; (try dsimp only at hSw); go_simp; try with_reducible rfl
            try simp only [List.getElem_toArray, List.getElem_cons_zero, List.getElem_cons_succ, Act.put, List.setIfInBounds_toArray, List.set_cons_zero, List.set_cons_succ]
            refine wpAnyH_take (i := 7) (v := ?_) rfl (by kernel_rfl) (by kernel_rfl) (by kernel_rfl) (fun _ _ _ h => h) (Or.inl ⟨by rfl, ?_⟩) (by assumption) ?_
            rotate_left
            · intro w hSw; (try dsimp only at hSw); go_simp; try with_reducible rfl
            try simp only [List.getElem_toArray, List.getElem_cons_zero, List.getElem_cons_succ, Act.put, List.setIfInBounds_toArray, List.set_cons_zero, List.set_cons_succ]
            refine wpAnyH_take (i := 8) (v := ?_) rfl (by kernel_rfl) (by kernel_rfl) (by kernel_rfl) (fun _ _ _ h => h) (Or.inl ⟨by rfl, ?_⟩) (by assumption) ?_
            rotate_left
            · intro w hSw; (try dsimp only at hSw); go_simp; try with_reducible rfl
            try simp only [List.getElem_toArray, List.getElem_cons_zero, List.getElem_cons_succ, Act.put, List.setIfInBounds_toArray, List.set_cons_zero, List.set_cons_succ]
            refine wpAnyH_take (i := 9) (v := ?_) rfl (by kernel_rfl) (by kernel_rfl) (by kernel_rfl) (fun _ _ _ h => h) (Or.inl ⟨by rfl, ?_⟩) (by assumption) ?_
            rotate_left
            · intro w hSw; (try dsimp only at hSw); go_simp; try with_reducible rfl
            try simp only [List.getElem_toArray, List.getElem_cons_zero, List.getElem_cons_succ, Act.put, List.setIfInBounds_toArray, List.set_cons_zero, List.set_cons_succ]
            refine wpAnyH_take (i := 10) (v := ?_) rfl (by kernel_rfl) (by kernel_rfl) (by kernel_rfl) (fun _ _ _ h => h) (Or.inl ⟨by rfl, ?_⟩) (by assumption) ?_
            rotate_left
            · intro w hSw; (try dsimp only at hSw); go_simp; try with_reducible rfl
            try simp only [List.getElem_toArray, List.getElem_cons_zero, List.getElem_cons_succ, Act.put, List.setIfInBounds_toArray, List.set_cons_zero, List.set_cons_succ]
            refine wpAnyH_ready (rs := [11]) (by kernel_rfl) (by simp) ?_
            refine AllReadyH.cons rfl (fun K hK => ?_) AllReadyH.nil
            simp only [List.getElem_toArray, List.getElem_cons_zero, List.getElem_cons_succ]
            go_simp
            refine (Hc2.out wa.drew Hfd.out).mono ?_
            rintro e w5 ⟨r, rfl, ht5, hf5⟩
            refine hK.out _ _ (Key.out _ (Hf0.out.none.trans0 hf5)) (fun hHeld2 => ?_)
            have Ht5 := Lib.hid ht5
            clear ht5 hf5 hHeld hHeld2 hK Key Hc2 Hfd Hf0
            refine wpAnyH_done (by kernel_rfl) ?_ _
            try simp only [List.getElem_toArray, List.getElem_cons_zero, List.getElem_cons_succ, Act.put, List.setIfInBounds_toArray, List.set_cons_zero, List.set_cons_succ]
            go_wp2_with fail
            go_roundw
            case rel => exact ⟨k + 1, by go_num, by omega, Ht5⟩
            case measure => simp [intOf]; omega
          | true =>
            have Hc2 : Hid (∀ W, Fr Nob wo W → Calls Try.prog 51 #[.pointer pp, .agg #[.int .i64 t, .int .i64 (k : Int), .int .i64 y], .bool true] W fun e w' => ∃ r : Int, e = .returned (.int .i64 r) ∧ RTo w3 S M (parkF t (l.take (k + 1)) 0 P) w' ∧ Fr (fun j => (S j ∨ w3.heap.size ≤ j) ∧ j < wo.heap.size) W w') := Hc
            clear Hc
            go_wp2_with fail
            obtain ⟨wa, hwa⟩ : ∃ wa, wa = wo.alloc (.cells #[.int .i64 t, .int .i64 (k : Int), .int .i64 y] 63) := ⟨_, rfl⟩
            rw [← hwa]
            obtain ⟨rw', hrw⟩ : ∃ rw', rw' = wo.heap.size := ⟨_, rfl⟩
            rw [← hrw]
            have hfa : Fr Nob wo wa := by rw [hwa]; exact (Fr.refl Nob wo).alloc _
            have hba : wa.heap[rw']? = some (.cells #[.int .i64 t, .int .i64 (k : Int), .int .i64 y] 63 (0, 0)) := by rw [hwa, hrw]; exact heap_alloc_new _ _
            have hlt2 := lt_of_block hba
            have g0 := hfa.cell id e0; have g1 := hfa.cell id e1
            have hkey : ∀ W, Fr (fun j => (S j ∨ w3.heap.size ≤ j) ∧ j < wo.heap.size) wa W → W.cell? ⟨g, o + k * 3, none⟩ = some (.pointer pp) ∧ W.cell? ⟨g, o + k * 3 + 1, none⟩ = some (.bool true) ∧ W.cell? ⟨rw', 0, none⟩ = some (.int .i64 t) ∧ W.cell? ⟨rw', 1, none⟩ = some (.int .i64 (k : Int)) ∧ W.cell? ⟨rw', 2, none⟩ = some (.int .i64 y) := fun W hW => by
              have hng : ¬ ((S g ∨ w3.heap.size ≤ g) ∧ g < wo.heap.size) := fun q => by
                rcases q.1 with r | r
                · exact hnsg.out.1 r
                · have := hnsg.out.2; omega
              have hnr : ¬ ((S rw' ∨ w3.heap.size ≤ rw') ∧ rw' < wo.heap.size) := fun q => by have := q.2; omega
              exact ⟨hW.cell hng g0, hW.cell hng g1, blk_cell (hW.blk hnr hba) 0 rfl, blk_cell (hW.blk hnr hba) 1 rfl, blk_cell (hW.blk hnr hba) 2 rfl⟩
            have Key := Lib.hid hkey
            have Hfd := Lib.hid (hfa.drew)
            have hf0 : Fr Nob wa wa.drew := (Fr.refl Nob wa).drew
            have Hf0 := Lib.hid hf0
            clear hwa hrw hfa hba hkey g0 g1 Ht e0 e1 e2 hf0 hnsg
            go_wp2_with fail
            refine wp_region_held_drew (S := fun W => W.cell? ⟨g, o + k * 3, none⟩ = some (.pointer pp) ∧ W.cell? ⟨g, o + k * 3 + 1, none⟩ = some (.bool true) ∧ W.cell? ⟨rw', 0, none⟩ = some (.int .i64 t) ∧ W.cell? ⟨rw', 1, none⟩ = some (.int .i64 (k : Int)) ∧ W.cell? ⟨rw', 2, none⟩ = some (.int .i64 y)) (by kernel_rfl) (by exact Key.out _ Hf0.out.none) (fun hHeld => ?_)
            refine wpAnyH_take (i := 0) (v := ?_) rfl (by kernel_rfl) (by kernel_rfl) (by kernel_rfl) (fun _ _ _ h => h) (Or.inl ⟨by rfl, ?_⟩) (by assumption) ?_
            rotate_left
            · intro w hSw; (try dsimp only at hSw); go_simp; try with_reducible rfl
            try simp only [List.getElem_toArray, List.getElem_cons_zero, List.getElem_cons_succ, Act.put, List.setIfInBounds_toArray, List.set_cons_zero, List.set_cons_succ]
            refine wpAnyH_take (i := 1) (v := ?_) rfl (by kernel_rfl) (by kernel_rfl) (by kernel_rfl) (fun _ _ _ h => h) (Or.inl ⟨by rfl, ?_⟩) (by assumption) ?_
            rotate_left
            · intro w hSw; (try dsimp only at hSw); go_simp; try with_reducible rfl
            try simp only [List.getElem_toArray, List.getElem_cons_zero, List.getElem_cons_succ, Act.put, List.setIfInBounds_toArray, List.set_cons_zero, List.set_cons_succ]
            refine wpAnyH_take (i := 2) (v := ?_) rfl (by kernel_rfl) (by kernel_rfl) (by kernel_rfl) (fun _ _ _ h => h) (Or.inl ⟨by rfl, ?_⟩) (by assumption) ?_
            rotate_left
            · intro w hSw; (try dsimp only at hSw); go_simp; try with_reducible rfl
            try simp only [List.getElem_toArray, List.getElem_cons_zero, List.getElem_cons_succ, Act.put, List.setIfInBounds_toArray, List.set_cons_zero, List.set_cons_succ]
            refine wpAnyH_take (i := 3) (v := ?_) rfl (by kernel_rfl) (by kernel_rfl) (by kernel_rfl) (fun _ _ _ h => h) (Or.inl ⟨by rfl, ?_⟩) (by assumption) ?_
            rotate_left
            · intro w hSw; (try dsimp only at hSw); go_simp; try with_reducible rfl
            try simp only [List.getElem_toArray, List.getElem_cons_zero, List.getElem_cons_succ, Act.put, List.setIfInBounds_toArray, List.set_cons_zero, List.set_cons_succ]
            refine wpAnyH_take (i := 4) (v := ?_) rfl (by kernel_rfl) (by kernel_rfl) (by kernel_rfl) (fun _ _ _ h => h) (Or.inl ⟨by rfl, ?_⟩) (by assumption) ?_
            rotate_left
            · intro w hSw; (try dsimp only at hSw); go_simp; try with_reducible rfl
            try simp only [List.getElem_toArray, List.getElem_cons_zero, List.getElem_cons_succ, Act.put, List.setIfInBounds_toArray, List.set_cons_zero, List.set_cons_succ]
            refine wpAnyH_take (i := 5) (v := ?_) rfl (by kernel_rfl) (by kernel_rfl) (by kernel_rfl) (fun _ _ _ h => h) (Or.inl ⟨by rfl, ?_⟩) (by assumption) ?_
            rotate_left
            · intro w hSw; (try dsimp only at hSw); go_simp; try with_reducible rfl
            try simp only [List.getElem_toArray, List.getElem_cons_zero, List.getElem_cons_succ, Act.put, List.setIfInBounds_toArray, List.set_cons_zero, List.set_cons_succ]
            refine wpAnyH_take (i := 6) (v := ?_) rfl (by kernel_rfl) (by kernel_rfl) (by kernel_rfl) (fun _ _ _ h => h) (Or.inl ⟨by rfl, ?_⟩) (by assumption) ?_
            rotate_left
            · intro w hSw; (try dsimp only at hSw); go_simp; try with_reducible rfl
            try simp only [List.getElem_toArray, List.getElem_cons_zero, List.getElem_cons_succ, Act.put, List.setIfInBounds_toArray, List.set_cons_zero, List.set_cons_succ]
            refine wpAnyH_take (i := 7) (v := ?_) rfl (by kernel_rfl) (by kernel_rfl) (by kernel_rfl) (fun _ _ _ h => h) (Or.inl ⟨by rfl, ?_⟩) (by assumption) ?_
            rotate_left
            · intro w hSw; (try dsimp only at hSw); go_simp; try with_reducible rfl
            try simp only [List.getElem_toArray, List.getElem_cons_zero, List.getElem_cons_succ, Act.put, List.setIfInBounds_toArray, List.set_cons_zero, List.set_cons_succ]
            refine wpAnyH_take (i := 8) (v := ?_) rfl (by kernel_rfl) (by kernel_rfl) (by kernel_rfl) (fun _ _ _ h => h) (Or.inl ⟨by rfl, ?_⟩) (by assumption) ?_
            rotate_left
            · intro w hSw; (try dsimp only at hSw); go_simp; try with_reducible rfl
            try simp only [List.getElem_toArray, List.getElem_cons_zero, List.getElem_cons_succ, Act.put, List.setIfInBounds_toArray, List.set_cons_zero, List.set_cons_succ]
            refine wpAnyH_take (i := 9) (v := ?_) rfl (by kernel_rfl) (by kernel_rfl) (by kernel_rfl) (fun _ _ _ h => h) (Or.inl ⟨by rfl, ?_⟩) (by assumption) ?_
            rotate_left
            · intro w hSw; (try dsimp only at hSw); go_simp; try with_reducible rfl
            try simp only [List.getElem_toArray, List.getElem_cons_zero, List.getElem_cons_succ, Act.put, List.setIfInBounds_toArray, List.set_cons_zero, List.set_cons_succ]
            refine wpAnyH_take (i := 10) (v := ?_) rfl (by kernel_rfl) (by kernel_rfl) (by kernel_rfl) (fun _ _ _ h => h) (Or.inl ⟨by rfl, ?_⟩) (by assumption) ?_
            rotate_left
            · intro w hSw; (try dsimp only at hSw); go_simp; try with_reducible rfl
            try simp only [List.getElem_toArray, List.getElem_cons_zero, List.getElem_cons_succ, Act.put, List.setIfInBounds_toArray, List.set_cons_zero, List.set_cons_succ]
            refine wpAnyH_ready (rs := [11]) (by kernel_rfl) (by simp) ?_
            refine AllReadyH.cons rfl (fun K hK => ?_) AllReadyH.nil
            simp only [List.getElem_toArray, List.getElem_cons_zero, List.getElem_cons_succ]
            go_simp
            refine (Hc2.out wa.drew Hfd.out).mono ?_
            rintro e w5 ⟨r, rfl, ht5, hf5⟩
            refine hK.out _ _ (Key.out _ (Hf0.out.none.trans0 hf5)) (fun hHeld2 => ?_)
            have Ht5 := Lib.hid ht5
            clear ht5 hf5 hHeld hHeld2 hK Key Hc2 Hfd Hf0
            refine wpAnyH_done (by kernel_rfl) ?_ _
            try simp only [List.getElem_toArray, List.getElem_cons_zero, List.getElem_cons_succ, Act.put, List.setIfInBounds_toArray, List.set_cons_zero, List.set_cons_succ]
            go_wp2_with fail
            go_roundw
            case rel => exact ⟨k + 1, by go_num, by omega, Ht5⟩
            case measure => simp [intOf]; omega
        · obtain rfl : n = k := by omega
          have Hte : Hid (RTo w3 S M (parkF t l 0 P) wo) := Lib.hid (by have := Ht.out; rwa [Hend.out] at this)
          have Hb4 := Lib.hid (Ht.out.1.blk Hns.out Hb3.out)
          have f0 := blk_froz Hb4.out 0
          have c00 := blk_cell Hb4.out 0 rfl
          have f1 := blk_froz Hb4.out 1
          have c01 := blk_cell Hb4.out 1 rfl
          have f2 := blk_froz Hb4.out 2
          have c02 := blk_cell Hb4.out 2 rfl
          have f3 := blk_froz Hb4.out 3
          have c03 := blk_cell Hb4.out 3 rfl
          have f4 := blk_froz Hb4.out 4
          have c04 := blk_cell Hb4.out 4 rfl
          have f5 := blk_froz Hb4.out 5
          have c05 := blk_cell Hb4.out 5 rfl
          go_wp2_with fail
          obtain ⟨wx, hwx⟩ : ∃ wx, wx = ((((((wo.setCell ⟨rb, 0, none⟩ (.int .i64 (-1))).setCell ⟨rb, 1, none⟩ (.int .i64 0)).setCell ⟨rb, 2, none⟩ (.bool false)).setCell ⟨rb, 3, none⟩ (.bool false)).setCell ⟨rb, 4, none⟩ (.bool true)).setCell ⟨rb, 5, none⟩ (.bool false)) := ⟨_, rfl⟩
          rw [← hwx]
          have hfx : Fr (fun k => k = rb) (wo) wx := by rw [hwx]; exact six_fr _ _ _ _ _ _ _ _
          have hbx : wx.heap[rb]? = some (.cells #[.int .i64 (-1), .int .i64 0, .bool false, .bool false, .bool true, .bool false] 71 (0, 0)) := by rw [hwx]; exact six_blk Hb4.out _ _ _ _ _ _
          clear hwx
          have t0 := blk_cell hbx 0 rfl
          have t1 := blk_cell hbx 1 rfl
          have t2 := blk_cell hbx 2 rfl
          have t3 := blk_cell hbx 3 rfl
          have t4 := blk_cell hbx 4 rfl
          have t5 := blk_cell hbx 5 rfl
          refine bodyPost_ret (v := .tuple #[.agg #[.int .i64 (-1), .int .i64 0, .bool false, .bool false, .bool true, .bool false], .slice none 0 0, .int .i64 0]) (by simp [results, Try.results24, go_sem, t0, t1, t2, t3, t4, t5]) rfl ?_
          exact ⟨none, 0, rfl, RTo.poke Hf3.out Hte.out hfx (fun q e => by subst e; exact ⟨Hns.out, by have := Hz1.out; omega, Hz4.out⟩), rd_nil _ _⟩
open Go.RowKit
set_option maxRecDepth 100000
/-- A row of wakes does not lie in the block of a result. -/
theorem rd_keep {w w' : World} {b : Nat} {x0 x1 x4 x5 : Value} {y2 y3 : Bool} {E : TypeId} (hb : w.heap[b]? = some (.cells #[x0, x1, .bool y2, .bool y3, x4, x5] E (0, 0))) (hx : ∃ z : Bool, x4 = .bool z) (hy : ∃ z : Bool, x5 = .bool z)
    {v : Value} {n : Nat} {l : List Wk} (h : Rd w 5 v n (wks l)) (hf : Fr (fun k => k = b) w w') : Rd w' 5 v n (wks l) := by
  obtain ⟨h1, h2, A, cap, hv, h3, h4, h5⟩ := h
  refine ⟨h1, h2, A, cap, hv, h3, h4, fun hn => ?_⟩
  obtain ⟨g, off, hA, hg, hc⟩ := h5 hn
  refine ⟨g, off, hA, Nat.lt_of_lt_of_le hg hf.size, fun j u hj => ?_⟩
  by_cases e : g = b
  · subst e
    exfalso
    cases l with
    | nil => simp at h1; omega
    | cons k l =>
      obtain ⟨z4, rfl⟩ := hx
      obtain ⟨z5, rfl⟩ := hy
      have q0 := hc 0 (.int .i64 k.1) rfl
      have q2 := hc 2 (.int .i64 k.2.2.1) rfl
      match off, q0, q2 with
      | 0, _, q2 => have := (blk_cell hb 2 rfl).symm.trans q2; cases this
      | 1, _, q2 => have := (blk_cell hb 3 rfl).symm.trans q2; cases this
      | 2, q0, _ => have := (blk_cell hb 2 rfl).symm.trans q0; cases this
      | 3, q0, _ => have := (blk_cell hb 3 rfl).symm.trans q0; cases this
      | 4, q0, _ => have := (blk_cell hb 4 rfl).symm.trans q0; cases this
      | 5, q0, _ => have := (blk_cell hb 5 rfl).symm.trans q0; cases this
      | r + 6, q0, _ => simp [World.cell?, hb] at q0
  · exact hf.cell (p := ⟨g, off + j, none⟩) e (hc j u hj)
set_option maxHeartbeats 4000000 in
theorem tell_send {w : World} {S : Nat → Prop} {M : Nat → Nat} {P : Nat → Option ChS} (h : RPool w S M P) (hS : ∀ k, S k → k < w.heap.size) (v : Value) (l : List Cs) (n : Nat) (hn : l.length = n) (T : Nat → Prop) (hsl : Sl w T 113 3 v n (css M l)) (hst : ∀ k, S k → T k → False) (hTw : ∀ k, T k → k < w.heap.size) (hok : ∀ x ∈ l, CsOk P x) (hn2 : n ≤ 16) (dr t : Int) (ht : 0 ≤ t) (hmu : ∀ x ∈ l, (x.2.1 && muteC P x) = false)
    (d : Bool) (f : Nat → Bool) (hf : ∀ k x, l[k]? = some x → canC P x = f k) (m jj kk i : Nat) (y : Int) {c c' : ChS} (hm : (rdy f n).length = m) (hm0 : 0 < m) (hj : dr % (m : Int) = (jj : Int)) (hjm : jj < m) (hk : (rdy f n)[jj]? = some (kk : Int)) (hkn : kk < n) (hx : l[kk]? = some (some i, true, y)) (hi : P i = some c) (hfew : RFew P) (dd : Bool) (lw : List Wk) (nw : Nat) (er : Int) (hr : c.sendR y = (dd, lw, er)) (hs : c.sendS y = c') (hnw : lw.length = nw) :
    Calls Try.prog 24 #[v, .bool d, .int .i64 dr, .int .i64 t] w (TDoP w S M (upd P i (some c')) kk 0 (er == 0) (er == 5) false false lw nw 0) := by
  have hrd := hsl.rd
  have hin := fun W (hW : Fr Nob w W) => cs_in hn (hrd.fr hW)
  have hmc := fun i c hi => mute_cells h i c hi
  obtain ⟨A, c0, rfl, hc1, hc2, _⟩ := cs_in hn hrd
  have hcell : ∀ W, Fr Nob w W → ∃ g o, A = some ⟨g, o, none⟩ ∧ W.cell? ⟨g, o + kk * 3, none⟩ = some (.pointer (some ⟨M i, 0, none⟩)) ∧ W.cell? ⟨g, o + kk * 3 + 1, none⟩ = some (.bool true) ∧ W.cell? ⟨g, o + kk * 3 + 2, none⟩ = some (.int .i64 y) ∧ T g := fun W hW => by
    obtain ⟨A', c', hv, _, _, hA⟩ := cs_inS hn (hsl.fr hW fun _ _ q => q)
    cases hv
    obtain ⟨x', g, o, hx', rfl, e0, e1, e2, htg⟩ := hA kk hkn
    rw [hx] at hx'
    cases hx'
    exact ⟨g, o, rfl, e0, e1, e2, htg⟩
  have hget : ∀ (W : World) (T : Nat → Prop) A' cp, Sl W T 3 1 (.slice A' m cp) m (ints (rdy f n)) → ∃ g o, A' = some ⟨g, o, none⟩ ∧ W.cell? ⟨g, o + jj, none⟩ = some (.int .i64 (kk : Int)) ∧ m ≤ cp := fun W T A' cp hsl => by
    obtain ⟨g, o, cap, hv, _, _, h1, _, hc, _⟩ := hsl.form hm0
    cases hv
    refine ⟨g, o, rfl, hc jj _ ?_, h1⟩
    rw [List.getElem?_map, hk]; rfl
  have hrdy := fun W (hW : Fr Nob w W) => tell_ready (h.fr0 hW) (.slice A n c0) l n hn (hsl.rd.fr hW) hok f hf (by omega) m hm
  have hmn : (rdy f n).length ≤ n := rdy_le f n
  rw [hm] at hmn
  have hpick : ∀ W, Calls Try.prog 60 #[.int .i64 dr, .int .i64 (m : Int)] W fun e w' => e = .returned (.int .i64 (jj : Int)) ∧ W = w' := fun W => by
    have := ref_pick W dr m (by omega) (by omega)
    rw [hj] at this
    exact this.mono fun e w' ⟨h1, h2⟩ => ⟨h1, h2.symm⟩
  have hact := fun W (hW : Fr Nob w W) => rpool_send (h.fr0 hW) i hi (hfew i c hi) y dd lw nw er hr hs hnw
  have Hrdy := Lib.hid hrdy; have Hmu := Lib.hid hmu; have Hget := Lib.hid hget; have Hcell := Lib.hid hcell; have Hpick := Lib.hid hpick; have Hact := Lib.hid hact
  have Hin := Lib.hid hin; have Hmc := Lib.hid hmc; have Hok := Lib.hid hok; have Hp := Lib.hid h; have HS := Lib.hid hS; have Hst := Lib.hid hst; have HTw := Lib.hid hTw; have Hn := Lib.hid hn
  have hn16 : decide ((16 : Int) < n) = false := decide_eq_false (by omega)
  have ht0 : decide (t < 0) = false := decide_eq_false (by omega)
  have hn16' : ¬ (16 : Int) < n := by omega
  have ht0' : ¬ t < 0 := by omega
  have hji : (jj : Int) < m := by omega
  have hkki : (kk : Int) < n := by omega
  have hm0i : decide ((0 : Int) < m) = true := decide_eq_true (by omega)
  have hm0' : (0 : Int) < m := by omega
  clear hrdy hmu hget hcell hpick hact hf hm hj hk hx hi hfew hr hs hnw
  generalize upd P i (some c') = P' at *
  generalize rdy f n = rl at *
  generalize hmi : M i = mi at Hcell Hact
  clear hmi
  generalize hok2 : (er == 0) = ok at *
  generalize hpn : (er == 5) = pn at *
  clear hin hmc hok h hS hsl hst hTw hn hrd
  unfold maxLen at hc2
  go_enter Try.func24, Try.ntmps24
  go_wp2_with fail
  obtain ⟨w1, hw1⟩ : ∃ w1, w1 = w.alloc (.cells (resA 0 0 false false false false) 71) := ⟨_, rfl⟩
  rw [← hw1]
  obtain ⟨rb, hrb⟩ : ∃ rb, rb = w.heap.size := ⟨_, rfl⟩
  rw [← hrb]
  have hf1 : Fr Nob w w1 := by rw [hw1]; exact (Fr.refl Nob w).alloc _
  have hb1 : w1.heap[rb]? = some (.cells #[.int .i64 0, .int .i64 0, .bool false, .bool false, .bool false, .bool false] 71 (0, 0)) := by rw [hw1, hrb]; exact blk_alloc_eq _ rfl
  have Hz1 : Hid (w.heap.size = rb ∧ rb < w1.heap.size) := ⟨hrb.symm, lt_of_block hb1⟩
  have Hf1 := Lib.hid hf1; have Hb1 := Lib.hid hb1
  clear hw1 hf1 hb1 hrb
  go_loopw [11] (fun i wr => ∃ k : Nat, i = .int .i64 k ∧ k ≤ n ∧ w1 = wr ∧ Hid (∀ j x, j < k → l[j]? = some x → (x.2.1 && muteC P x) = false)) (fun i _ => n - (intOf i).toNat)
  case atStart => exact ⟨0, rfl, Nat.zero_le _, rfl, Lib.hid fun j x hj => by omega⟩
  case round =>
    obtain ⟨k, rfl, hk, rfl, Hno⟩ := hrel
    by_cases hlt : k < n
    · obtain ⟨A1, cA1, hv, _, _, hA1⟩ := Hin.out _ Hf1.out
      cases hv
      obtain ⟨x, g, o, hx, rfl, e0, e1, e2⟩ := hA1 k hlt
      have hki : (k : Int) < n := by omega
      have hxk := Hok.out x (List.mem_of_getElem? hx)
      have hnext : (x.2.1 && muteC P x) = false → ∀ j y, j < k + 1 → l[j]? = some y → (y.2.1 && muteC P y) = false := fun hb j y hj hy => by
        by_cases hjk : j = k
        · subst hjk; rw [hx] at hy; cases hy; exact hb
        · exact Hno.out j y (by omega) hy
      have Hnext := Lib.hid hnext; have Hx := Lib.hid hx
      clear hA1 hnext hx e2
      obtain ⟨p, s, y⟩ := x
      dsimp only at e0 e1
      cases s with
      | false =>
        have Hn1 := Lib.hid (Hnext.out rfl)
        generalize pa M p = pp at *
        clear Hnext hxk
        go_wp2_with fail
        go_roundw
        case rel => exact ⟨k + 1, by go_num, by omega, by simp, Hn1⟩
        case measure => simp [intOf]; omega
      | true =>
        cases p with
        | none =>
          have Hn1 := Lib.hid (Hnext.out rfl)
          have e0' : _ = some (Value.pointer none) := e0
          clear Hnext hxk e0
          go_wp2_with fail
          go_roundw
          case rel => exact ⟨k + 1, by go_num, by omega, by simp, Hn1⟩
          case measure => simp [intOf]; omega
        | some i =>
          obtain ⟨c, hi⟩ := hxk i rfl
          obtain ⟨m1, m2⟩ := Hmc.out i c hi _ Hf1.out
          have hmx : muteC P (some i, true, y) = (c.timed || c.signal) := by simp only [muteC, hi]; rfl
          have Hmx := Lib.hid hmx
          have e0' : _ = some (Value.pointer (some ⟨M i, 0, none⟩)) := e0
          clear hmx hxk e0 hi
          cases htm : c.timed with
          | true =>
            rw [htm] at m1
            have hmu : (true && muteC P (some i, true, y)) = true := by rw [Hmx.out, htm]; rfl
            exact absurd (hmu.symm.trans (Hmu.out _ (List.mem_of_getElem? Hx.out))) (by simp)
          | false =>
            rw [htm] at m1
            cases hsg : c.signal with
            | true =>
              rw [hsg] at m2
              have hmu : (true && muteC P (some i, true, y)) = true := by rw [Hmx.out, htm, hsg]; rfl
              exact absurd (hmu.symm.trans (Hmu.out _ (List.mem_of_getElem? Hx.out))) (by simp)
            | false =>
              rw [hsg] at m2
              have Hn1 := Lib.hid (Hnext.out (by show (true && muteC P (some i, true, y)) = false; rw [Hmx.out, htm, hsg]; rfl))
              clear Hnext Hmx htm hsg
              go_wp2_with fail
              go_roundw
              case rel => exact ⟨k + 1, by go_num, by omega, by simp, Hn1⟩
              case measure => simp [intOf]; omega
    · obtain rfl : n = k := by omega
      go_wp2_with fail
      refine (Hrdy.out _ Hf1.out).mono ?_
      rintro e w3 ⟨A3, cp3, rfl, hf3, hs3⟩
      obtain ⟨g3, o3, rfl, k3, hcm⟩ := Hget.out _ _ _ _ hs3
      obtain ⟨g, o, rfl, e0, e1, e2, htg⟩ := Hcell.out w3 (Hf1.out.trans0 hf3)
      have Hb3 := Lib.hid (hf3.blk id Hb1.out)
      have Hf3 := Lib.hid (Hf1.out.trans0 hf3)
      have Hz4 : Hid (rb < w3.heap.size) := Lib.hid (lt_of_block Hb3.out)
      have Hns : Hid (¬ S rb) := Lib.hid fun q => by have := HS.out _ q; have := Hz1.out; omega
      have hnsg : Hid (¬ S g) := Lib.hid fun q => Hst.out _ q htg
      have hg3 := World.block_lt_of_cell? w3 ⟨g3, o3 + jj, none⟩ k3
      have hgl := World.block_lt_of_cell? w3 ⟨g, o + kk * 3, none⟩ e0
      clear hf3 hs3 Hrdy Hget Hcell Hmu Hno Hin Hmc Hok htg
      go_wp2_with fail
      refine (Hpick.out w3).mono ?_
      rintro e _ ⟨rfl, rfl⟩
      go_wp2_with fail
      obtain ⟨wa, hwa⟩ : ∃ wa, wa = w3.alloc (.cells #[.int .i64 (kk : Int), .int .i64 0, .bool false, .bool false, .bool false, .bool false] 71) := ⟨_, rfl⟩
      rw [← hwa]
      obtain ⟨qb, hqb⟩ : ∃ qb, qb = w3.heap.size := ⟨_, rfl⟩
      rw [← hqb]
      have hfa : Fr Nob w3 wa := by rw [hwa]; exact (Fr.refl Nob w3).alloc _
      have hba : wa.heap[qb]? = some (.cells #[.int .i64 (kk : Int), .int .i64 0, .bool false, .bool false, .bool false, .bool false] 71 (0, 0)) := by rw [hwa, hqb]; exact heap_alloc_new _ _
      have Hlt2 := Lib.hid (lt_of_block hba)
      have Hqz : Hid (w3.heap.size = qb) := hqb.symm
      have hne1 : ¬ qb = rb := by have := Hz4.out; omega
      have hne2 : ¬ rb = qb := by have := Hz4.out; omega
      have Hnq : Hid (¬ S qb) := Lib.hid fun q => by have := HS.out _ q; have := Hz1.out; have := Hz4.out; omega
      have Hba := Lib.hid hba
      have Hb3a := Lib.hid (hfa.blk id Hb3.out)
      have Hfa := Lib.hid (Hf3.out.trans0 hfa)
      have g0 := hfa.cell id e0; have g1 := hfa.cell id e1; have g2 := hfa.cell id e2
      clear hwa hqb hfa hba e0 e1 e2 k3
      have hkey : ∀ W, Fr S wa W → W.cell? ⟨g, o + kk * 3, none⟩ = some (.pointer (some ⟨mi, 0, none⟩)) ∧ W.cell? ⟨g, o + kk * 3 + 2, none⟩ = some (.int .i64 y) := fun W hW => ⟨hW.cell hnsg.out g0, hW.cell hnsg.out g2⟩
      have Key := Lib.hid hkey
      clear hkey
      go_wp2_with fail
      refine wp_region_held_drew (S := fun W => W.cell? ⟨g, o + kk * 3, none⟩ = some (.pointer (some ⟨mi, 0, none⟩)) ∧ W.cell? ⟨g, o + kk * 3 + 2, none⟩ = some (.int .i64 y)) (by kernel_rfl) (by exact Key.out _ ((Fr.refl S wa).drew)) (fun hHeld => ?_)
      refine wpAnyH_take (i := 0) (v := ?_) rfl (by kernel_rfl) (by kernel_rfl) (by kernel_rfl) (fun _ _ _ h => h) (Or.inl ⟨by rfl, ?_⟩) (by assumption) ?_
      rotate_left
      · intro w hSw; (try dsimp only at hSw); go_simp; try with_reducible rfl
      try simp only [List.getElem_toArray, List.getElem_cons_zero, List.getElem_cons_succ, Act.put, List.setIfInBounds_toArray, List.set_cons_zero, List.set_cons_succ]
      refine wpAnyH_take (i := 1) (v := ?_) rfl (by kernel_rfl) (by kernel_rfl) (by kernel_rfl) (fun _ _ _ h => h) (Or.inl ⟨by rfl, ?_⟩) (by assumption) ?_
      rotate_left
      · intro w hSw; (try dsimp only at hSw); go_simp; try with_reducible rfl
      try simp only [List.getElem_toArray, List.getElem_cons_zero, List.getElem_cons_succ, Act.put, List.setIfInBounds_toArray, List.set_cons_zero, List.set_cons_succ]
      refine wpAnyH_take (i := 2) (v := ?_) rfl (by kernel_rfl) (by kernel_rfl) (by kernel_rfl) (fun _ _ _ h => h) (Or.inl ⟨by rfl, ?_⟩) (by assumption) ?_
      rotate_left
      · intro w hSw; (try dsimp only at hSw); go_simp; try with_reducible rfl
      try simp only [List.getElem_toArray, List.getElem_cons_zero, List.getElem_cons_succ, Act.put, List.setIfInBounds_toArray, List.set_cons_zero, List.set_cons_succ]
      refine wpAnyH_take (i := 3) (v := ?_) rfl (by kernel_rfl) (by kernel_rfl) (by kernel_rfl) (fun _ _ _ h => h) (Or.inl ⟨by rfl, ?_⟩) (by assumption) ?_
      rotate_left
      · intro w hSw; (try dsimp only at hSw); go_simp; try with_reducible rfl
      try simp only [List.getElem_toArray, List.getElem_cons_zero, List.getElem_cons_succ, Act.put, List.setIfInBounds_toArray, List.set_cons_zero, List.set_cons_succ]
      refine wpAnyH_take (i := 4) (v := ?_) rfl (by kernel_rfl) (by kernel_rfl) (by kernel_rfl) (fun _ _ _ h => h) (Or.inl ⟨by rfl, ?_⟩) (by assumption) ?_
      rotate_left
      · intro w hSw; (try dsimp only at hSw); go_simp; try with_reducible rfl
      try simp only [List.getElem_toArray, List.getElem_cons_zero, List.getElem_cons_succ, Act.put, List.setIfInBounds_toArray, List.set_cons_zero, List.set_cons_succ]
      refine wpAnyH_take (i := 5) (v := ?_) rfl (by kernel_rfl) (by kernel_rfl) (by kernel_rfl) (fun _ _ _ h => h) (Or.inl ⟨by rfl, ?_⟩) (by assumption) ?_
      rotate_left
      · intro w hSw; (try dsimp only at hSw); go_simp; try with_reducible rfl
      try simp only [List.getElem_toArray, List.getElem_cons_zero, List.getElem_cons_succ, Act.put, List.setIfInBounds_toArray, List.set_cons_zero, List.set_cons_succ]
      refine wpAnyH_take (i := 6) (v := ?_) rfl (by kernel_rfl) (by kernel_rfl) (by kernel_rfl) (fun _ _ _ h => h) (Or.inl ⟨by rfl, ?_⟩) (by assumption) ?_
      rotate_left
      · intro w hSw; (try dsimp only at hSw); go_simp; try with_reducible rfl
      try simp only [List.getElem_toArray, List.getElem_cons_zero, List.getElem_cons_succ, Act.put, List.setIfInBounds_toArray, List.set_cons_zero, List.set_cons_succ]
      refine wpAnyH_take (i := 7) (v := ?_) rfl (by kernel_rfl) (by kernel_rfl) (by kernel_rfl) (fun _ _ _ h => h) (Or.inl ⟨by rfl, ?_⟩) (by assumption) ?_
      rotate_left
      · intro w hSw; (try dsimp only at hSw); go_simp; try with_reducible rfl
      try simp only [List.getElem_toArray, List.getElem_cons_zero, List.getElem_cons_succ, Act.put, List.setIfInBounds_toArray, List.set_cons_zero, List.set_cons_succ]
      refine wpAnyH_take (i := 8) (v := ?_) rfl (by kernel_rfl) (by kernel_rfl) (by kernel_rfl) (fun _ _ _ h => h) (Or.inl ⟨by rfl, ?_⟩) (by assumption) ?_
      rotate_left
      · intro w hSw; (try dsimp only at hSw); go_simp; try with_reducible rfl
      try simp only [List.getElem_toArray, List.getElem_cons_zero, List.getElem_cons_succ, Act.put, List.setIfInBounds_toArray, List.set_cons_zero, List.set_cons_succ]
      refine wpAnyH_take (i := 9) (v := ?_) rfl (by kernel_rfl) (by kernel_rfl) (by kernel_rfl) (fun _ _ _ h => h) (Or.inl ⟨by rfl, ?_⟩) (by assumption) ?_
      rotate_left
      · intro w hSw; (try dsimp only at hSw); go_simp; try with_reducible rfl
      try simp only [List.getElem_toArray, List.getElem_cons_zero, List.getElem_cons_succ, Act.put, List.setIfInBounds_toArray, List.set_cons_zero, List.set_cons_succ]
      refine wpAnyH_ready (rs := [10]) (by kernel_rfl) (by simp) ?_
      refine AllReadyH.cons rfl (fun K hK => ?_) AllReadyH.nil
      simp only [List.getElem_toArray, List.getElem_cons_zero, List.getElem_cons_succ]
      go_simp
      refine (Hact.out wa.drew Hfa.out.drew).mono ?_
      rintro e w5 ⟨A5, cp5, rfl, ht5, hrd5⟩
      have hf5 : Fr S wa w5 := (Fr.refl S wa).drew.trans0 ht5.1
      refine hK.out _ _ (Key.out _ hf5) (fun hHeld2 => ?_)
      clear hK
      refine wpAnyH_take (i := 11) (v := ?_) rfl (by kernel_rfl) (by kernel_rfl) (by kernel_rfl) (fun _ _ _ h => h) (Or.inl ⟨by rfl, ?_⟩) (by assumption) ?_
      rotate_left
      · intro w hSw; (try dsimp only at hSw); go_simp; try with_reducible rfl
      try simp only [List.getElem_toArray, List.getElem_cons_zero, List.getElem_cons_succ, Act.put, List.setIfInBounds_toArray, List.set_cons_zero, List.set_cons_succ]
      refine wpAnyH_take (i := 12) (v := ?_) rfl (by kernel_rfl) (by kernel_rfl) (by kernel_rfl) (fun _ _ _ h => h) (Or.inl ⟨by rfl, ?_⟩) (by assumption) ?_
      rotate_left
      · intro w hSw; (try dsimp only at hSw); go_simp; try with_reducible rfl
      try simp only [List.getElem_toArray, List.getElem_cons_zero, List.getElem_cons_succ, Act.put, List.setIfInBounds_toArray, List.set_cons_zero, List.set_cons_succ]
      refine wpAnyH_take (i := 13) (v := ?_) rfl (by kernel_rfl) (by kernel_rfl) (by kernel_rfl) (fun _ _ _ h => h) (Or.inl ⟨by rfl, ?_⟩) (by assumption) ?_
      rotate_left
      · intro w hSw; (try dsimp only at hSw); go_simp; try with_reducible rfl
      try simp only [List.getElem_toArray, List.getElem_cons_zero, List.getElem_cons_succ, Act.put, List.setIfInBounds_toArray, List.set_cons_zero, List.set_cons_succ]
      refine wpAnyH_take (i := 14) (v := ?_) rfl (by kernel_rfl) (by kernel_rfl) (by kernel_rfl) (fun _ _ _ h => h) (Or.inl ⟨by rfl, ?_⟩) (by assumption) ?_
      rotate_left
      · intro w hSw; (try dsimp only at hSw); go_simp; try with_reducible rfl
      try simp only [List.getElem_toArray, List.getElem_cons_zero, List.getElem_cons_succ, Act.put, List.setIfInBounds_toArray, List.set_cons_zero, List.set_cons_succ]
      refine wpAnyH_take (i := 15) (v := ?_) rfl (by kernel_rfl) (by kernel_rfl) (by kernel_rfl) (fun _ _ _ h => h) (Or.inl ⟨by rfl, ?_⟩) (by assumption) ?_
      rotate_left
      · intro w hSw; (try dsimp only at hSw); go_simp; try with_reducible rfl
      try simp only [List.getElem_toArray, List.getElem_cons_zero, List.getElem_cons_succ, Act.put, List.setIfInBounds_toArray, List.set_cons_zero, List.set_cons_succ]
      refine wpAnyH_take (i := 16) (v := ?_) rfl (by kernel_rfl) (by kernel_rfl) (by kernel_rfl) (fun _ _ _ h => h) (Or.inl ⟨by rfl, ?_⟩) (by assumption) ?_
      rotate_left
      · intro w hSw; (try dsimp only at hSw); go_simp; try with_reducible rfl
      try simp only [List.getElem_toArray, List.getElem_cons_zero, List.getElem_cons_succ, Act.put, List.setIfInBounds_toArray, List.set_cons_zero, List.set_cons_succ]
      refine wpAnyH_take (i := 17) (v := ?_) rfl (by kernel_rfl) (by kernel_rfl) (by kernel_rfl) (fun _ _ _ h => h) (Or.inl ⟨by rfl, ?_⟩) (by assumption) ?_
      rotate_left
      · intro w hSw; (try dsimp only at hSw); go_simp; try with_reducible rfl
      try simp only [List.getElem_toArray, List.getElem_cons_zero, List.getElem_cons_succ, Act.put, List.setIfInBounds_toArray, List.set_cons_zero, List.set_cons_succ]
      refine wpAnyH_done (by kernel_rfl) ?_ _
      try simp only [List.getElem_toArray, List.getElem_cons_zero, List.getElem_cons_succ, Act.put, List.setIfInBounds_toArray, List.set_cons_zero, List.set_cons_succ]
      clear hHeld hHeld2
      have hq5 := hf5.blk Hnq.out Hba.out
      have hb5 := hf5.blk Hns.out Hb3a.out
      have fq0 := blk_froz hq5 0
      have cq0 := blk_cell hq5 0 rfl
      have fr0 := blk_froz hb5 0
      have cr0 := blk_cell hb5 0 rfl
      have fq1 := blk_froz hq5 1
      have cq1 := blk_cell hq5 1 rfl
      have fr1 := blk_froz hb5 1
      have cr1 := blk_cell hb5 1 rfl
      have fq2 := blk_froz hq5 2
      have cq2 := blk_cell hq5 2 rfl
      have fr2 := blk_froz hb5 2
      have cr2 := blk_cell hb5 2 rfl
      have fq3 := blk_froz hq5 3
      have cq3 := blk_cell hq5 3 rfl
      have fr3 := blk_froz hb5 3
      have cr3 := blk_cell hb5 3 rfl
      have fq4 := blk_froz hq5 4
      have cq4 := blk_cell hq5 4 rfl
      have fr4 := blk_froz hb5 4
      have cr4 := blk_cell hb5 4 rfl
      have fq5 := blk_froz hq5 5
      have cq5 := blk_cell hq5 5 rfl
      have fr5 := blk_froz hb5 5
      have cr5 := blk_cell hb5 5 rfl
      have Hq5 := Lib.hid hq5; have Hb5 := Lib.hid hb5
      have Ht5 := Lib.hid (show RTo wa S M P' w5 from ⟨hf5, ht5.2⟩)
      have Hrd5 := Lib.hid hrd5
      clear hq5 hb5 ht5 hrd5 hf5 Key Hact Hpick
      go_wp2_with fail
      obtain ⟨wy, hwy⟩ : ∃ wy, wy = ((w5.setCell ⟨qb, 2, none⟩ (.bool ok)).setCell ⟨qb, 3, none⟩ (.bool pn)) := ⟨_, rfl⟩
      rw [← hwy]
      have hfy : Fr (fun k => k = qb) w5 wy := by rw [hwy]; exact ((Fr.refl (fun k => k = qb) w5).setB 2 _).setB 3 _
      have hby : wy.heap[rb]? = some (.cells #[.int .i64 0, .int .i64 0, .bool false, .bool false, .bool false, .bool false] 71 (0, 0)) := hfy.blk hne2 Hb5.out
      have hrdy := rd_keep Hq5.out ⟨_, rfl⟩ ⟨_, rfl⟩ Hrd5.out hfy
      clear hwy
      obtain ⟨wx, hwx⟩ : ∃ wx, wx = ((((((wy.setCell ⟨rb, 0, none⟩ (.int .i64 (kk : Int))).setCell ⟨rb, 1, none⟩ (.int .i64 0)).setCell ⟨rb, 2, none⟩ (.bool ok)).setCell ⟨rb, 3, none⟩ (.bool pn)).setCell ⟨rb, 4, none⟩ (.bool false)).setCell ⟨rb, 5, none⟩ (.bool false)) := ⟨_, rfl⟩
      rw [← hwx]
      have hfx : Fr (fun k => k = rb) (wy) wx := by rw [hwx]; exact six_fr _ _ _ _ _ _ _ _
      have hbx : wx.heap[rb]? = some (.cells #[.int .i64 (kk : Int), .int .i64 0, .bool ok, .bool pn, .bool false, .bool false] 71 (0, 0)) := by rw [hwx]; exact six_blk hby _ _ _ _ _ _
      clear hwx
      have t0 := blk_cell hbx 0 rfl
      have t1 := blk_cell hbx 1 rfl
      have t2 := blk_cell hbx 2 rfl
      have t3 := blk_cell hbx 3 rfl
      have t4 := blk_cell hbx 4 rfl
      have t5 := blk_cell hbx 5 rfl
      refine bodyPost_ret (v := .tuple #[.agg #[.int .i64 (kk : Int), .int .i64 0, .bool ok, .bool pn, .bool false, .bool false], .slice A5 nw cp5, .int .i64 0]) (by simp [results, Try.results24, go_sem, t0, t1, t2, t3, t4, t5]) rfl ⟨A5, cp5, rfl, ?_, rd_keep hby ⟨_, rfl⟩ ⟨_, rfl⟩ hrdy hfx⟩
      exact RTo.poke (F := fun k => k = qb ∨ k = rb) Hfa.out Ht5.out ((hfy.mono fun k _ q => .inl q).trans0 (hfx.mono fun k _ q => .inr q)) (fun q e => by
        have h1 := Hz1.out; have h4 := Hz4.out; have h5 := Hlt2.out; have h6 := Hqz.out
        rcases e with e | e
        · subst e; exact ⟨Hnq.out, by omega, h5⟩
        · subst e; exact ⟨Hns.out, by omega, by omega⟩)
set_option maxHeartbeats 4000000 in
theorem tell_recv {w : World} {S : Nat → Prop} {M : Nat → Nat} {P : Nat → Option ChS} (h : RPool w S M P) (hS : ∀ k, S k → k < w.heap.size) (v : Value) (l : List Cs) (n : Nat) (hn : l.length = n) (T : Nat → Prop) (hsl : Sl w T 113 3 v n (css M l)) (hst : ∀ k, S k → T k → False) (hTw : ∀ k, T k → k < w.heap.size) (hok : ∀ x ∈ l, CsOk P x) (hn2 : n ≤ 16) (dr t : Int) (ht : 0 ≤ t) (hmu : ∀ x ∈ l, (x.2.1 && muteC P x) = false)
    (d : Bool) (f : Nat → Bool) (hf : ∀ k x, l[k]? = some x → canC P x = f k) (m jj kk i : Nat) (y : Int) {c c' : ChS} (hm : (rdy f n).length = m) (hm0 : 0 < m) (hj : dr % (m : Int) = (jj : Int)) (hjm : jj < m) (hk : (rdy f n)[jj]? = some (kk : Int)) (hkn : kk < n) (hx : l[kk]? = some (some i, false, y)) (hi : P i = some c) (hfew : RFew P) (v0 : Int) (ok dd : Bool) (lw : List Wk) (nw : Nat) (hr : c.recvR = (v0, ok, dd, lw)) (hs : c.recvS = c') (hnw : lw.length = nw) :
    Calls Try.prog 24 #[v, .bool d, .int .i64 dr, .int .i64 t] w (TDoP w S M (upd P i (some c')) kk v0 ok false false false lw nw 0) := by
  have hrd := hsl.rd
  have hin := fun W (hW : Fr Nob w W) => cs_in hn (hrd.fr hW)
  have hmc := fun i c hi => mute_cells h i c hi
  obtain ⟨A, c0, rfl, hc1, hc2, _⟩ := cs_in hn hrd
  have hcell : ∀ W, Fr Nob w W → ∃ g o, A = some ⟨g, o, none⟩ ∧ W.cell? ⟨g, o + kk * 3, none⟩ = some (.pointer (some ⟨M i, 0, none⟩)) ∧ W.cell? ⟨g, o + kk * 3 + 1, none⟩ = some (.bool false) ∧ W.cell? ⟨g, o + kk * 3 + 2, none⟩ = some (.int .i64 y) ∧ T g := fun W hW => by
    obtain ⟨A', c', hv, _, _, hA⟩ := cs_inS hn (hsl.fr hW fun _ _ q => q)
    cases hv
    obtain ⟨x', g, o, hx', rfl, e0, e1, e2, htg⟩ := hA kk hkn
    rw [hx] at hx'
    cases hx'
    exact ⟨g, o, rfl, e0, e1, e2, htg⟩
  have hget : ∀ (W : World) (T : Nat → Prop) A' cp, Sl W T 3 1 (.slice A' m cp) m (ints (rdy f n)) → ∃ g o, A' = some ⟨g, o, none⟩ ∧ W.cell? ⟨g, o + jj, none⟩ = some (.int .i64 (kk : Int)) ∧ m ≤ cp := fun W T A' cp hsl => by
    obtain ⟨g, o, cap, hv, _, _, h1, _, hc, _⟩ := hsl.form hm0
    cases hv
    refine ⟨g, o, rfl, hc jj _ ?_, h1⟩
    rw [List.getElem?_map, hk]; rfl
  have hrdy := fun W (hW : Fr Nob w W) => tell_ready (h.fr0 hW) (.slice A n c0) l n hn (hsl.rd.fr hW) hok f hf (by omega) m hm
  have hmn : (rdy f n).length ≤ n := rdy_le f n
  rw [hm] at hmn
  have hpick : ∀ W, Calls Try.prog 60 #[.int .i64 dr, .int .i64 (m : Int)] W fun e w' => e = .returned (.int .i64 (jj : Int)) ∧ W = w' := fun W => by
    have := ref_pick W dr m (by omega) (by omega)
    rw [hj] at this
    exact this.mono fun e w' ⟨h1, h2⟩ => ⟨h1, h2.symm⟩
  have hact := fun W (hW : Fr Nob w W) => rpool_recv (h.fr0 hW) i hi (hfew i c hi) v0 ok dd lw nw hr hs hnw
  have Hrdy := Lib.hid hrdy; have Hmu := Lib.hid hmu; have Hget := Lib.hid hget; have Hcell := Lib.hid hcell; have Hpick := Lib.hid hpick; have Hact := Lib.hid hact
  have Hin := Lib.hid hin; have Hmc := Lib.hid hmc; have Hok := Lib.hid hok; have Hp := Lib.hid h; have HS := Lib.hid hS; have Hst := Lib.hid hst; have HTw := Lib.hid hTw; have Hn := Lib.hid hn
  have hn16 : decide ((16 : Int) < n) = false := decide_eq_false (by omega)
  have ht0 : decide (t < 0) = false := decide_eq_false (by omega)
  have hn16' : ¬ (16 : Int) < n := by omega
  have ht0' : ¬ t < 0 := by omega
  have hji : (jj : Int) < m := by omega
  have hkki : (kk : Int) < n := by omega
  have hm0i : decide ((0 : Int) < m) = true := decide_eq_true (by omega)
  have hm0' : (0 : Int) < m := by omega
  clear hrdy hmu hget hcell hpick hact hf hm hj hk hx hi hfew hr hs hnw
  generalize upd P i (some c') = P' at *
  generalize rdy f n = rl at *
  generalize hmi : M i = mi at Hcell Hact
  clear hmi
  clear hin hmc hok h hS hsl hst hTw hn hrd
  unfold maxLen at hc2
  go_enter Try.func24, Try.ntmps24
  go_wp2_with fail
  obtain ⟨w1, hw1⟩ : ∃ w1, w1 = w.alloc (.cells (resA 0 0 false false false false) 71) := ⟨_, rfl⟩
  rw [← hw1]
  obtain ⟨rb, hrb⟩ : ∃ rb, rb = w.heap.size := ⟨_, rfl⟩
  rw [← hrb]
  have hf1 : Fr Nob w w1 := by rw [hw1]; exact (Fr.refl Nob w).alloc _
  have hb1 : w1.heap[rb]? = some (.cells #[.int .i64 0, .int .i64 0, .bool false, .bool false, .bool false, .bool false] 71 (0, 0)) := by rw [hw1, hrb]; exact blk_alloc_eq _ rfl
  have Hz1 : Hid (w.heap.size = rb ∧ rb < w1.heap.size) := ⟨hrb.symm, lt_of_block hb1⟩
  have Hf1 := Lib.hid hf1; have Hb1 := Lib.hid hb1
  clear hw1 hf1 hb1 hrb
  go_loopw [11] (fun i wr => ∃ k : Nat, i = .int .i64 k ∧ k ≤ n ∧ w1 = wr ∧ Hid (∀ j x, j < k → l[j]? = some x → (x.2.1 && muteC P x) = false)) (fun i _ => n - (intOf i).toNat)
  case atStart => exact ⟨0, rfl, Nat.zero_le _, rfl, Lib.hid fun j x hj => by omega⟩
  case round =>
    obtain ⟨k, rfl, hk, rfl, Hno⟩ := hrel
    by_cases hlt : k < n
    · obtain ⟨A1, cA1, hv, _, _, hA1⟩ := Hin.out _ Hf1.out
      cases hv
      obtain ⟨x, g, o, hx, rfl, e0, e1, e2⟩ := hA1 k hlt
      have hki : (k : Int) < n := by omega
      have hxk := Hok.out x (List.mem_of_getElem? hx)
      have hnext : (x.2.1 && muteC P x) = false → ∀ j y, j < k + 1 → l[j]? = some y → (y.2.1 && muteC P y) = false := fun hb j y hj hy => by
        by_cases hjk : j = k
        · subst hjk; rw [hx] at hy; cases hy; exact hb
        · exact Hno.out j y (by omega) hy
      have Hnext := Lib.hid hnext; have Hx := Lib.hid hx
      clear hA1 hnext hx e2
      obtain ⟨p, s, y⟩ := x
      dsimp only at e0 e1
      cases s with
      | false =>
        have Hn1 := Lib.hid (Hnext.out rfl)
        generalize pa M p = pp at *
        clear Hnext hxk
        go_wp2_with fail
        go_roundw
        case rel => exact ⟨k + 1, by go_num, by omega, by simp, Hn1⟩
        case measure => simp [intOf]; omega
      | true =>
        cases p with
        | none =>
          have Hn1 := Lib.hid (Hnext.out rfl)
          have e0' : _ = some (Value.pointer none) := e0
          clear Hnext hxk e0
          go_wp2_with fail
          go_roundw
          case rel => exact ⟨k + 1, by go_num, by omega, by simp, Hn1⟩
          case measure => simp [intOf]; omega
        | some i =>
          obtain ⟨c, hi⟩ := hxk i rfl
          obtain ⟨m1, m2⟩ := Hmc.out i c hi _ Hf1.out
          have hmx : muteC P (some i, true, y) = (c.timed || c.signal) := by simp only [muteC, hi]; rfl
          have Hmx := Lib.hid hmx
          have e0' : _ = some (Value.pointer (some ⟨M i, 0, none⟩)) := e0
          clear hmx hxk e0 hi
          cases htm : c.timed with
          | true =>
            rw [htm] at m1
            have hmu : (true && muteC P (some i, true, y)) = true := by rw [Hmx.out, htm]; rfl
            exact absurd (hmu.symm.trans (Hmu.out _ (List.mem_of_getElem? Hx.out))) (by simp)
          | false =>
            rw [htm] at m1
            cases hsg : c.signal with
            | true =>
              rw [hsg] at m2
              have hmu : (true && muteC P (some i, true, y)) = true := by rw [Hmx.out, htm, hsg]; rfl
              exact absurd (hmu.symm.trans (Hmu.out _ (List.mem_of_getElem? Hx.out))) (by simp)
            | false =>
              rw [hsg] at m2
              have Hn1 := Lib.hid (Hnext.out (by show (true && muteC P (some i, true, y)) = false; rw [Hmx.out, htm, hsg]; rfl))
              clear Hnext Hmx htm hsg
              go_wp2_with fail
              go_roundw
              case rel => exact ⟨k + 1, by go_num, by omega, by simp, Hn1⟩
              case measure => simp [intOf]; omega
    · obtain rfl : n = k := by omega
      go_wp2_with fail
      refine (Hrdy.out _ Hf1.out).mono ?_
      rintro e w3 ⟨A3, cp3, rfl, hf3, hs3⟩
      obtain ⟨g3, o3, rfl, k3, hcm⟩ := Hget.out _ _ _ _ hs3
      obtain ⟨g, o, rfl, e0, e1, e2, htg⟩ := Hcell.out w3 (Hf1.out.trans0 hf3)
      have Hb3 := Lib.hid (hf3.blk id Hb1.out)
      have Hf3 := Lib.hid (Hf1.out.trans0 hf3)
      have Hz4 : Hid (rb < w3.heap.size) := Lib.hid (lt_of_block Hb3.out)
      have Hns : Hid (¬ S rb) := Lib.hid fun q => by have := HS.out _ q; have := Hz1.out; omega
      have hnsg : Hid (¬ S g) := Lib.hid fun q => Hst.out _ q htg
      have hg3 := World.block_lt_of_cell? w3 ⟨g3, o3 + jj, none⟩ k3
      have hgl := World.block_lt_of_cell? w3 ⟨g, o + kk * 3, none⟩ e0
      clear hf3 hs3 Hrdy Hget Hcell Hmu Hno Hin Hmc Hok htg
      go_wp2_with fail
      refine (Hpick.out w3).mono ?_
      rintro e _ ⟨rfl, rfl⟩
      go_wp2_with fail
      obtain ⟨wa, hwa⟩ : ∃ wa, wa = w3.alloc (.cells #[.int .i64 (kk : Int), .int .i64 0, .bool false, .bool false, .bool false, .bool false] 71) := ⟨_, rfl⟩
      rw [← hwa]
      obtain ⟨qb, hqb⟩ : ∃ qb, qb = w3.heap.size := ⟨_, rfl⟩
      rw [← hqb]
      have hfa : Fr Nob w3 wa := by rw [hwa]; exact (Fr.refl Nob w3).alloc _
      have hba : wa.heap[qb]? = some (.cells #[.int .i64 (kk : Int), .int .i64 0, .bool false, .bool false, .bool false, .bool false] 71 (0, 0)) := by rw [hwa, hqb]; exact heap_alloc_new _ _
      have Hlt2 := Lib.hid (lt_of_block hba)
      have Hqz : Hid (w3.heap.size = qb) := hqb.symm
      have hne1 : ¬ qb = rb := by have := Hz4.out; omega
      have hne2 : ¬ rb = qb := by have := Hz4.out; omega
      have Hnq : Hid (¬ S qb) := Lib.hid fun q => by have := HS.out _ q; have := Hz1.out; have := Hz4.out; omega
      have Hba := Lib.hid hba
      have Hb3a := Lib.hid (hfa.blk id Hb3.out)
      have Hfa := Lib.hid (Hf3.out.trans0 hfa)
      have g0 := hfa.cell id e0; have g1 := hfa.cell id e1; have g2 := hfa.cell id e2
      clear hwa hqb hfa hba e0 e1 e2 k3
      clear g2
      go_wp2_with fail
      refine (Hact.out wa Hfa.out).mono ?_
      rintro e w5 ⟨A5, cp5, rfl, ht5, hrd5⟩
      have hf5 : Fr S wa w5 := ht5.1
      have hq5 := hf5.blk Hnq.out Hba.out
      have hb5 := hf5.blk Hns.out Hb3a.out
      have fq0 := blk_froz hq5 0
      have cq0 := blk_cell hq5 0 rfl
      have fr0 := blk_froz hb5 0
      have cr0 := blk_cell hb5 0 rfl
      have fq1 := blk_froz hq5 1
      have cq1 := blk_cell hq5 1 rfl
      have fr1 := blk_froz hb5 1
      have cr1 := blk_cell hb5 1 rfl
      have fq2 := blk_froz hq5 2
      have cq2 := blk_cell hq5 2 rfl
      have fr2 := blk_froz hb5 2
      have cr2 := blk_cell hb5 2 rfl
      have fq3 := blk_froz hq5 3
      have cq3 := blk_cell hq5 3 rfl
      have fr3 := blk_froz hb5 3
      have cr3 := blk_cell hb5 3 rfl
      have fq4 := blk_froz hq5 4
      have cq4 := blk_cell hq5 4 rfl
      have fr4 := blk_froz hb5 4
      have cr4 := blk_cell hb5 4 rfl
      have fq5 := blk_froz hq5 5
      have cq5 := blk_cell hq5 5 rfl
      have fr5 := blk_froz hb5 5
      have cr5 := blk_cell hb5 5 rfl
      have Hq5 := Lib.hid hq5; have Hb5 := Lib.hid hb5
      have Ht5 := Lib.hid (show RTo wa S M P' w5 from ht5)
      have Hrd5 := Lib.hid hrd5
      clear hq5 hb5 ht5 hrd5 hf5  Hact Hpick
      go_wp2_with fail
      obtain ⟨wy, hwy⟩ : ∃ wy, wy = ((w5.setCell ⟨qb, 1, none⟩ (.int .i64 v0)).setCell ⟨qb, 2, none⟩ (.bool ok)) := ⟨_, rfl⟩
      rw [← hwy]
      have hfy : Fr (fun k => k = qb) w5 wy := by rw [hwy]; exact ((Fr.refl (fun k => k = qb) w5).setB 1 _).setB 2 _
      have hby : wy.heap[rb]? = some (.cells #[.int .i64 0, .int .i64 0, .bool false, .bool false, .bool false, .bool false] 71 (0, 0)) := hfy.blk hne2 Hb5.out
      have hrdy := rd_keep Hq5.out ⟨_, rfl⟩ ⟨_, rfl⟩ Hrd5.out hfy
      clear hwy
      obtain ⟨wx, hwx⟩ : ∃ wx, wx = ((((((wy.setCell ⟨rb, 0, none⟩ (.int .i64 (kk : Int))).setCell ⟨rb, 1, none⟩ (.int .i64 v0)).setCell ⟨rb, 2, none⟩ (.bool ok)).setCell ⟨rb, 3, none⟩ (.bool false)).setCell ⟨rb, 4, none⟩ (.bool false)).setCell ⟨rb, 5, none⟩ (.bool false)) := ⟨_, rfl⟩
      rw [← hwx]
      have hfx : Fr (fun k => k = rb) (wy) wx := by rw [hwx]; exact six_fr _ _ _ _ _ _ _ _
      have hbx : wx.heap[rb]? = some (.cells #[.int .i64 (kk : Int), .int .i64 v0, .bool ok, .bool false, .bool false, .bool false] 71 (0, 0)) := by rw [hwx]; exact six_blk hby _ _ _ _ _ _
      clear hwx
      have t0 := blk_cell hbx 0 rfl
      have t1 := blk_cell hbx 1 rfl
      have t2 := blk_cell hbx 2 rfl
      have t3 := blk_cell hbx 3 rfl
      have t4 := blk_cell hbx 4 rfl
      have t5 := blk_cell hbx 5 rfl
      refine bodyPost_ret (v := .tuple #[.agg #[.int .i64 (kk : Int), .int .i64 v0, .bool ok, .bool false, .bool false, .bool false], .slice A5 nw cp5, .int .i64 0]) (by simp [results, Try.results24, go_sem, t0, t1, t2, t3, t4, t5]) rfl ⟨A5, cp5, rfl, ?_, rd_keep hby ⟨_, rfl⟩ ⟨_, rfl⟩ hrdy hfx⟩
      exact RTo.poke (F := fun k => k = qb ∨ k = rb) Hfa.out Ht5.out ((hfy.mono fun k _ q => .inl q).trans0 (hfx.mono fun k _ q => .inr q)) (fun q e => by
        have h1 := Hz1.out; have h4 := Hz4.out; have h5 := Hlt2.out; have h6 := Hqz.out
        rcases e with e | e
        · subst e; exact ⟨Hnq.out, by omega, h5⟩
        · subst e; exact ⟨Hns.out, by omega, by omega⟩)
end Go.Proofs.Ytdemeghhjnehbaa
