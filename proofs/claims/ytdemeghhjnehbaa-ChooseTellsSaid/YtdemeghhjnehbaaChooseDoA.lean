/- What Do of package choose does, whole. -/
import Derived.Test.YtdemeghhjnehbaaChooseDo
set_option linter.unusedVariables false
set_option linter.unusedSimpArgs false
namespace Go.Proofs.Ytdemeghhjnehbaa
open Go.RowKit
set_option maxRecDepth 100000
def DoP (w : World) (S S' : World → Nat → Prop) (B : Nat → Nat) (P : Nat → Option ChS) (i v : Int) (ok pn pk kd : Bool) (l : List Wk) (n : Nat) (er : Int) (e : Ending) (w' : World) : Prop := ∃ (A : Option Addr) (cp : Nat), e = .returned (.tuple #[resV i v ok pn pk kd, .slice A n cp, .int .i64 er]) ∧ Fr (S w') w w' ∧ Pool w' (S' w') B P ∧ Sl w' (From w.heap.size) 37 5 (.slice A n cp) n (wks l)
set_option maxHeartbeats 2000000 in
theorem do_ready {w : World} {S : Nat → Prop} {B : Nat → Nat} {P : Nat → Option ChS} (h : Pool w S B P) (hS : ∀ k, S k → k < w.heap.size) (v : Value) (l : List Cs) (n : Nat) (hn : l.length = n) (hrd : Rd w 3 v n (css B l)) (hok : ∀ x ∈ l, CsOk P x) (hmu : ∀ x ∈ l, (x.2.1 && muteC P x) = false)
    (f : Nat → Bool) (hf : ∀ k x, l[k]? = some x → canC P x = f k) (hn2 : n ≤ 16) (d : Bool) (dr t : Int) (ht : 0 ≤ t) (m j k i : Nat) (x : Cs) {c c' : ChS} (hm : (rdy f n).length = m) (hm0 : 0 < m) (hj : dr % (m : Int) = (j : Int)) (hjm : j < m) (hk : (rdy f n)[j]? = some (k : Int)) (hkn : k < n) (hx : l[k]? = some x) (hxi : x.1 = some i) (hi : P i = some c)
    (y : Int) (ok pn : Bool) (lw : List Wk) (nw : Nat) (hr : oneR c x = (y, ok, pn, lw)) (hs : oneS c x = c') (hnw : lw.length = nw) :
    Calls Try.prog 11 #[v, .bool d, .int .i64 dr, .int .i64 t] w (DoP w (fun _ => S) (fun _ => S) B (upd P i (some c')) k y ok pn false false lw nw 0) := by
  have hidx := fun W (hW : Fr Nob w W) => do_index (h.fr0 hW) v l n hn (hrd.fr hW) hok (fun _ => false) (fun k x hx => hmu x (List.mem_of_getElem? hx)) (by omega)
  have hrdy := fun W (hW : Fr Nob w W) => choose_ready (h.fr0 hW) v l n hn (hrd.fr hW) hok f hf (by omega) m hm
  have hpick : ∀ W, Calls Try.prog 34 #[.int .i64 dr, .int .i64 (m : Int)] W fun e w' => e = .returned (.int .i64 (j : Int)) ∧ W = w' := fun W => by
    have hle : (rdy f n).length ≤ n := rdy_le f n
    have := script_pick W dr m (by omega) (by omega)
    rwa [hj] at this
  have hone := fun W (hW : Fr Nob w W) => choose_one (h.fr0 hW) (fun k q => Nat.lt_of_lt_of_le (hS k q) hW.size) x i hxi hi (k : Int) y ok pn lw nw hr hs hnw
  have hin := fun W (hW : Fr Nob w W) => cs_in hn (hrd.fr hW)
  obtain ⟨A, c0, rfl, hc1, hc2, _⟩ := cs_in hn hrd
  have hcell : ∀ W, Fr Nob w W → ∃ g o, A = some ⟨g, o, none⟩ ∧ W.cell? ⟨g, o + k * 3, none⟩ = some (.pointer (pa B x.1)) ∧ W.cell? ⟨g, o + k * 3 + 1, none⟩ = some (.bool x.2.1) ∧ W.cell? ⟨g, o + k * 3 + 2, none⟩ = some (.int .i64 x.2.2) := fun W hW => by
    obtain ⟨A', c', hv, _, _, hA⟩ := hin W hW
    cases hv
    obtain ⟨x', g, o, hx', rfl, e0, e1, e2⟩ := hA k hkn
    rw [hx] at hx'
    cases hx'
    exact ⟨g, o, rfl, e0, e1, e2⟩
  have hget : ∀ (W : World) (T : Nat → Prop) A' cp, Sl W T 3 1 (.slice A' m cp) m (ints (rdy f n)) → ∃ g o, A' = some ⟨g, o, none⟩ ∧ W.cell? ⟨g, o + j, none⟩ = some (.int .i64 (k : Int)) := fun W T A' cp hsl => by
    obtain ⟨g, o, cap, hv, _, _, _, _, hc, _⟩ := hsl.form hm0
    cases hv
    refine ⟨g, o, rfl, hc j _ ?_⟩
    rw [List.getElem?_map, hk]; rfl
  have hmn : (rdy f n).length ≤ n := rdy_le f n
  rw [hm] at hmn
  have Hidx := Lib.hid hidx; have Hrdy := Lib.hid hrdy; have Hpick := Lib.hid hpick; have Hone := Lib.hid hone; have Hcell := Lib.hid hcell; have Hget := Lib.hid hget; have HS := Lib.hid hS
  have hji : (j : Int) < m := by omega
  have hki : (k : Int) < n := by omega
  have hm0i : decide ((0 : Int) < m) = true := decide_eq_true (by omega)
  have hn16 : decide ((16 : Int) < n) = false := decide_eq_false (by omega)
  have ht0 : decide (t < 0) = false := decide_eq_false (by omega)
  have hn16' : ¬ (16 : Int) < n := by omega
  have ht0' : ¬ t < 0 := by omega
  have hm0' : (0 : Int) < m := by omega
  clear hidx hrdy hpick hone hcell hget hS hin hrd hok hmu hf h hn hm hj hk hx hxi hi hr hs hnw
  obtain ⟨p, s, yy⟩ := x
  dsimp only at Hone Hcell
  generalize pa B p = pp at *
  generalize upd P i (some c') = P' at *
  generalize rdy f n = rl at *
  unfold maxLen at hc2
  go_enter Try.func11, Try.ntmps11
  go_wp2_with fail
  obtain ⟨w1, hw1⟩ : ∃ w1, w1 = w.alloc (.cells (resA 0 0 false false false false) 31) := ⟨_, rfl⟩
  rw [← hw1]
  obtain ⟨rb, hrb⟩ : ∃ rb, rb = w.heap.size := ⟨_, rfl⟩
  rw [← hrb]
  have hf1 : Fr Nob w w1 := by rw [hw1]; exact (Fr.refl Nob w).alloc _
  have hb1 : w1.heap[rb]? = some (.cells #[.int .i64 0, .int .i64 0, .bool false, .bool false, .bool false, .bool false] 31 (0, 0)) := by rw [hw1, hrb]; exact blk_alloc_eq _ rfl
  have Hz1 : Hid (w.heap.size = rb ∧ rb < w1.heap.size) := ⟨hrb.symm, lt_of_block hb1⟩
  have Hf1 := Lib.hid hf1; have Hb1 := Lib.hid hb1
  clear hw1 hf1 hb1 hrb
  refine (Hidx.out w1 Hf1.out).mono ?_
  rintro e w2 ⟨r, rfl, hf2, hr1⟩
  obtain rfl : r = -1 := by rcases hr1 with ⟨h, _⟩ | ⟨_, _, _, hno, _⟩; exact h; cases hno
  clear hr1
  have Hb2 := Lib.hid (hf2.blk id Hb1.out)
  have Hf2 := Lib.hid (Hf1.out.trans0 hf2)
  have Hz2 := Lib.hid hf2.size
  clear hf2
  go_wp2_with fail
  refine (Hrdy.out w2 Hf2.out).mono ?_
  rintro e w3 ⟨A3, cp3, rfl, hf3, hs3⟩
  obtain ⟨g3, o3, rfl, k3⟩ := Hget.out _ _ _ _ hs3
  obtain ⟨g, o, rfl, e0, e1, e2⟩ := Hcell.out w3 (Hf2.out.trans0 hf3)
  have Hb3 := Lib.hid (hf3.blk id Hb2.out)
  have Hf3 := Lib.hid (Hf2.out.trans0 hf3)
  have Hz3 := Lib.hid hf3.size
  have hcm3 : m ≤ cp3 := by
    obtain ⟨g', o', cap', hv, _, _, h1, _, _, _⟩ := hs3.form hm0
    cases hv; exact h1
  clear hf3 hs3
  go_wp2_with fail
  refine (Hpick.out w3).mono ?_
  rintro e _ ⟨rfl, rfl⟩
  go_wp2_with fail
  refine (Hone.out w3 Hf3.out).mono ?_
  rintro e w4 ⟨A4, cp4, rfl, hf4, hp4, hs4⟩
  have hns : ¬ S rb := fun q => by have := HS.out _ q; have := Hz1.out; omega
  have hb4 := hf4.blk hns Hb3.out
  have hb5 : (w4.alloc (.cells #[.int .i64 (k : Int), .int .i64 y, .bool ok, .bool pn, .bool false, .bool false] 31)).heap[rb]? = _ := ((Fr.refl Nob w4).alloc _).blk id hb4
  have f0 := blk_froz hb5 0
  have c00 := blk_cell hb5 0 rfl
  have f1 := blk_froz hb5 1
  have c01 := blk_cell hb5 1 rfl
  have f2 := blk_froz hb5 2
  have c02 := blk_cell hb5 2 rfl
  have f3 := blk_froz hb5 3
  have c03 := blk_cell hb5 3 rfl
  have f4 := blk_froz hb5 4
  have c04 := blk_cell hb5 4 rfl
  have f5 := blk_froz hb5 5
  have c05 := blk_cell hb5 5 rfl
  have Hf4 := Lib.hid (Hf3.out.none.trans0 hf4); have Hp4 := Lib.hid hp4; have Hs4 := Lib.hid hs4; have Hb4 := Lib.hid hb4; have Hns := Lib.hid hns
  have Hz4 : Hid (rb < w3.heap.size) := by have := Hz1.out; have := Hz2.out; have := Hz3.out; exact Lib.hid (by omega)
  clear hf4 hp4 hs4 hb4 hns hb5
  go_wp2_with fail
  have hfa : Fr Nob w4 (w4.alloc (.cells #[.int .i64 (k : Int), .int .i64 y, .bool ok, .bool pn, .bool false, .bool false] 31)) := (Fr.refl Nob w4).alloc _
  have hba := hfa.blk id Hb4.out
  obtain ⟨wx, hwx⟩ : ∃ wx, wx = (((((((w4.alloc (.cells #[.int .i64 (k : Int), .int .i64 y, .bool ok, .bool pn, .bool false, .bool false] 31)).setCell ⟨rb, 0, none⟩ (.int .i64 (k : Int))).setCell ⟨rb, 1, none⟩ (.int .i64 y)).setCell ⟨rb, 2, none⟩ (.bool ok)).setCell ⟨rb, 3, none⟩ (.bool pn)).setCell ⟨rb, 4, none⟩ (.bool false)).setCell ⟨rb, 5, none⟩ (.bool false)) := ⟨_, rfl⟩
  rw [← hwx]
  have hfx : Fr (fun k => k = rb) ((w4.alloc (.cells #[.int .i64 (k : Int), .int .i64 y, .bool ok, .bool pn, .bool false, .bool false] 31))) wx := by rw [hwx]; exact six_fr _ _ _ _ _ _ _ _
  have hbx : wx.heap[rb]? = some (.cells #[.int .i64 (k : Int), .int .i64 y, .bool ok, .bool pn, .bool false, .bool false] 31 (0, 0)) := by rw [hwx]; exact six_blk hba _ _ _ _ _ _
  clear hwx
  have t0 := blk_cell hbx 0 rfl
  have t1 := blk_cell hbx 1 rfl
  have t2 := blk_cell hbx 2 rfl
  have t3 := blk_cell hbx 3 rfl
  have t4 := blk_cell hbx 4 rfl
  have t5 := blk_cell hbx 5 rfl
  refine bodyPost_ret (v := .tuple #[.agg #[.int .i64 (k : Int), .int .i64 y, .bool ok, .bool pn, .bool false, .bool false], .slice A4 nw cp4, .int .i64 0]) (by simp [results, Try.results11, go_sem, t0, t1, t2, t3, t4, t5]) rfl ⟨A4, cp4, rfl, ?_, ?_, ?_⟩
  · exact (Hf4.out.trans0 hfa.none).trans hfx fun q hk e => by have := Hz1.out; omega
  · exact (Hp4.out.fr0 hfa).fr hfx fun q a e => by subst e; exact Hns.out a
  · exact ((Hs4.out.fr hfa fun _ _ q => q).fr hfx fun q a e => by have := Hz4.out; unfold From at a; omega).mono fun q _ a => by have := Hf3.out.size; unfold From at a ⊢; omega
theorem do_refused (w : World) (n c0 : Nat) (A : Option Addr) (d : Bool) (dr t : Int) (ht : t < 0) (hn : n ≤ 1000) :
    Calls Try.prog 11 #[.slice A n c0, .bool d, .int .i64 dr, .int .i64 t] w fun e w' => e = .returned (.tuple #[resV 0 0 false false false false, .slice none 0 0, .int .i64 1]) ∧ Fr Nob w w' := by
  have ht0 : decide (t < 0) = true := decide_eq_true ht
  by_cases h16 : 16 < n
  all_goals (
    first | (have hn16 : decide ((16 : Int) < n) = true := decide_eq_true (by omega)) | (have hn16 : decide ((16 : Int) < n) = false := decide_eq_false (by omega))
    go_enter Try.func11, Try.ntmps11
    go_wp2_with fail
    obtain ⟨w1, hw1⟩ : ∃ w1, w1 = w.alloc (.cells #[.int .i64 0, .int .i64 0, .bool false, .bool false, .bool false, .bool false] 31) := ⟨_, rfl⟩
    rw [← hw1]
    have hb1 : w1.heap[w.heap.size]? = some (.cells #[.int .i64 0, .int .i64 0, .bool false, .bool false, .bool false, .bool false] 31 (0, 0)) := by rw [hw1]; exact heap_alloc_new _ _
    have hf1 : Fr Nob w w1 := by rw [hw1]; exact (Fr.refl Nob w).alloc _
    clear hw1
    have t0 := blk_cell hb1 0 rfl
    have t1 := blk_cell hb1 1 rfl
    have t2 := blk_cell hb1 2 rfl
    have t3 := blk_cell hb1 3 rfl
    have t4 := blk_cell hb1 4 rfl
    have t5 := blk_cell hb1 5 rfl
    exact bodyPost_ret (v := .tuple #[resV 0 0 false false false false, .slice none 0 0, .int .i64 1]) (by simp [results, Try.results11, go_sem, t0, t1, t2, t3, t4, t5]) rfl ⟨rfl, hf1⟩)
set_option maxHeartbeats 2000000 in
theorem do_mute {w : World} {S : Nat → Prop} {B : Nat → Nat} {P : Nat → Option ChS} (h : Pool w S B P) (hS : ∀ k, S k → k < w.heap.size) (v : Value) (l : List Cs) (n : Nat) (hn : l.length = n) (hrd : Rd w 3 v n (css B l)) (hok : ∀ x ∈ l, CsOk P x)
    (f : Nat → Bool) (hf : ∀ k x, l[k]? = some x → (x.2.1 && muteC P x) = f k) (hn2 : n ≤ 16) (d : Bool) (dr t : Int) (ht : 0 ≤ t) (k : Nat) (hkn : k < n) (hk : f k = true) (hlo : ∀ j, j < k → f j = false) :
    Calls Try.prog 11 #[v, .bool d, .int .i64 dr, .int .i64 t] w (DoP w (fun _ => S) (fun _ => S) B P k 0 false false false true [] 0 0) := by
  have hidx := fun W (hW : Fr Nob w W) => do_index (h.fr0 hW) v l n hn (hrd.fr hW) hok f hf (by omega)
  have Hidx := Lib.hid hidx; have Hp := Lib.hid h; have HS := Lib.hid hS
  obtain ⟨A, c0, rfl, hc1, hc2, _⟩ := cs_in hn hrd
  have hn16 : decide ((16 : Int) < n) = false := decide_eq_false (by omega)
  have ht0 : decide (t < 0) = false := decide_eq_false (by omega)
  have hn16' : ¬ (16 : Int) < n := by omega
  have ht0' : ¬ t < 0 := by omega
  clear hidx hS hrd hok hf h hn
  unfold maxLen at hc2
  go_enter Try.func11, Try.ntmps11
  go_wp2_with fail
  obtain ⟨w1, hw1⟩ : ∃ w1, w1 = w.alloc (.cells (resA 0 0 false false false false) 31) := ⟨_, rfl⟩
  rw [← hw1]
  obtain ⟨rb, hrb⟩ : ∃ rb, rb = w.heap.size := ⟨_, rfl⟩
  rw [← hrb]
  have hf1 : Fr Nob w w1 := by rw [hw1]; exact (Fr.refl Nob w).alloc _
  have hb1 : w1.heap[rb]? = some (.cells #[.int .i64 0, .int .i64 0, .bool false, .bool false, .bool false, .bool false] 31 (0, 0)) := by rw [hw1, hrb]; exact blk_alloc_eq _ rfl
  have Hz1 : Hid (w.heap.size = rb ∧ rb < w1.heap.size) := ⟨hrb.symm, lt_of_block hb1⟩
  have Hf1 := Lib.hid hf1; have Hb1 := Lib.hid hb1
  clear hw1 hf1 hb1 hrb
  refine (Hidx.out w1 Hf1.out).mono ?_
  rintro e w2 ⟨r, rfl, hf2, hr1⟩
  obtain rfl : r = (k : Int) := by
    rcases hr1 with ⟨_, h⟩ | ⟨q, rfl, hq, hq1, hq2⟩
    · have := h k hkn; rw [hk] at this; cases this
    · have h1 : ¬ q < k := fun e => by rw [hlo q e] at hq1; cases hq1
      have h2 : ¬ k < q := fun e => by rw [hq2 k e] at hk; cases hk
      omega
  have hb2 := hf2.blk id Hb1.out
  have Hb2 := Lib.hid hb2
  have Hf2 := Lib.hid (Hf1.out.trans0 hf2)
  have hk0 : decide ((0 : Int) ≤ k) = true := decide_eq_true (by omega)
  have f0 := blk_froz hb2 0
  have c00 := blk_cell hb2 0 rfl
  have f1 := blk_froz hb2 1
  have c01 := blk_cell hb2 1 rfl
  have f2 := blk_froz hb2 2
  have c02 := blk_cell hb2 2 rfl
  have f3 := blk_froz hb2 3
  have c03 := blk_cell hb2 3 rfl
  have f4 := blk_froz hb2 4
  have c04 := blk_cell hb2 4 rfl
  have f5 := blk_froz hb2 5
  have c05 := blk_cell hb2 5 rfl
  clear hf2 hr1 hb2 hlo hk
  go_wp2_with fail
  obtain ⟨wx, hwx⟩ : ∃ wx, wx = ((((((w2.setCell ⟨rb, 0, none⟩ (.int .i64 (k : Int))).setCell ⟨rb, 1, none⟩ (.int .i64 0)).setCell ⟨rb, 2, none⟩ (.bool false)).setCell ⟨rb, 3, none⟩ (.bool false)).setCell ⟨rb, 4, none⟩ (.bool false)).setCell ⟨rb, 5, none⟩ (.bool true)) := ⟨_, rfl⟩
  rw [← hwx]
  have hfx : Fr (fun k => k = rb) (w2) wx := by rw [hwx]; exact six_fr _ _ _ _ _ _ _ _
  have hbx : wx.heap[rb]? = some (.cells #[.int .i64 (k : Int), .int .i64 0, .bool false, .bool false, .bool false, .bool true] 31 (0, 0)) := by rw [hwx]; exact six_blk Hb2.out _ _ _ _ _ _
  clear hwx
  have t0 := blk_cell hbx 0 rfl
  have t1 := blk_cell hbx 1 rfl
  have t2 := blk_cell hbx 2 rfl
  have t3 := blk_cell hbx 3 rfl
  have t4 := blk_cell hbx 4 rfl
  have t5 := blk_cell hbx 5 rfl
  refine bodyPost_ret (v := .tuple #[.agg #[.int .i64 (k : Int), .int .i64 0, .bool false, .bool false, .bool false, .bool true], .slice none 0 0, .int .i64 0]) (by simp [results, Try.results11, go_sem, t0, t1, t2, t3, t4, t5]) rfl ⟨none, 0, rfl, ?_, ?_, Sl.nil _ _ _ _⟩
  · exact Hf2.out.none.trans hfx fun q hk e => by have := Hz1.out; omega
  · exact (Hp.out.fr0 Hf2.out).fr hfx fun q a e => by subst e; have := HS.out _ a; have := Hz1.out; omega
set_option maxHeartbeats 2000000 in
theorem do_default {w : World} {S : Nat → Prop} {B : Nat → Nat} {P : Nat → Option ChS} (h : Pool w S B P) (hS : ∀ k, S k → k < w.heap.size) (v : Value) (l : List Cs) (n : Nat) (hn : l.length = n) (hrd : Rd w 3 v n (css B l)) (hok : ∀ x ∈ l, CsOk P x) (hmu : ∀ x ∈ l, (x.2.1 && muteC P x) = false)
    (hno : ∀ x ∈ l, canC P x = false) (hn2 : n ≤ 16) (dr t : Int) (ht : 0 ≤ t) :
    Calls Try.prog 11 #[v, .bool true, .int .i64 dr, .int .i64 t] w (DoP w (fun _ => S) (fun _ => S) B P (-1) 0 false false false false [] 0 0) := by
  have hrdy := fun W (hW : Fr Nob w W) => choose_ready (h.fr0 hW) v l n hn (hrd.fr hW) hok (fun _ => false) (fun k x hx => hno x (List.mem_of_getElem? hx)) (by omega) 0 (by rw [rdy_none (fun _ _ => rfl)]; rfl)
  have hidx := fun W (hW : Fr Nob w W) => do_index (h.fr0 hW) v l n hn (hrd.fr hW) hok (fun _ => false) (fun k x hx => hmu x (List.mem_of_getElem? hx)) (by omega)
  have Hidx := Lib.hid hidx; have Hp := Lib.hid h; have HS := Lib.hid hS
  have Hrdy := Lib.hid hrdy
  obtain ⟨A, c0, rfl, hc1, hc2, _⟩ := cs_in hn hrd
  have hn16 : decide ((16 : Int) < n) = false := decide_eq_false (by omega)
  have ht0 : decide (t < 0) = false := decide_eq_false (by omega)
  have hn16' : ¬ (16 : Int) < n := by omega
  have ht0' : ¬ t < 0 := by omega
  clear hidx hrdy hS hrd hok hmu hno h hn
  unfold maxLen at hc2
  go_enter Try.func11, Try.ntmps11
  go_wp2_with fail
  obtain ⟨w1, hw1⟩ : ∃ w1, w1 = w.alloc (.cells (resA 0 0 false false false false) 31) := ⟨_, rfl⟩
  rw [← hw1]
  obtain ⟨rb, hrb⟩ : ∃ rb, rb = w.heap.size := ⟨_, rfl⟩
  rw [← hrb]
  have hf1 : Fr Nob w w1 := by rw [hw1]; exact (Fr.refl Nob w).alloc _
  have hb1 : w1.heap[rb]? = some (.cells #[.int .i64 0, .int .i64 0, .bool false, .bool false, .bool false, .bool false] 31 (0, 0)) := by rw [hw1, hrb]; exact blk_alloc_eq _ rfl
  have Hz1 : Hid (w.heap.size = rb ∧ rb < w1.heap.size) := ⟨hrb.symm, lt_of_block hb1⟩
  have Hf1 := Lib.hid hf1; have Hb1 := Lib.hid hb1
  clear hw1 hf1 hb1 hrb
  refine (Hidx.out w1 Hf1.out).mono ?_
  rintro e w2 ⟨r, rfl, hf2, hr1⟩
  obtain rfl : r = -1 := by rcases hr1 with ⟨h, _⟩ | ⟨_, _, _, hno, _⟩; exact h; cases hno
  clear hr1
  have Hb2 := Lib.hid (hf2.blk id Hb1.out)
  have Hf2 := Lib.hid (Hf1.out.trans0 hf2)
  have Hz2 := Lib.hid hf2.size
  clear hf2
  go_wp2_with fail
  refine (Hrdy.out w2 Hf2.out).mono ?_
  rintro e w3 ⟨A3, cp3, rfl, hf3, hs3⟩
  have hb3 := hf3.blk id Hb2.out
  have Hb3 := Lib.hid hb3
  have Hf3 := Lib.hid (Hf2.out.trans0 hf3)
  have Hz3 := Lib.hid hf3.size
  clear hf3 hs3
  have f0 := blk_froz hb3 0
  have c00 := blk_cell hb3 0 rfl
  have f1 := blk_froz hb3 1
  have c01 := blk_cell hb3 1 rfl
  have f2 := blk_froz hb3 2
  have c02 := blk_cell hb3 2 rfl
  have f3 := blk_froz hb3 3
  have c03 := blk_cell hb3 3 rfl
  have f4 := blk_froz hb3 4
  have c04 := blk_cell hb3 4 rfl
  have f5 := blk_froz hb3 5
  have c05 := blk_cell hb3 5 rfl
  clear hb3
  go_wp2_with fail
  obtain ⟨wx, hwx⟩ : ∃ wx, wx = ((((((w3.setCell ⟨rb, 0, none⟩ (.int .i64 (-1))).setCell ⟨rb, 1, none⟩ (.int .i64 0)).setCell ⟨rb, 2, none⟩ (.bool false)).setCell ⟨rb, 3, none⟩ (.bool false)).setCell ⟨rb, 4, none⟩ (.bool false)).setCell ⟨rb, 5, none⟩ (.bool false)) := ⟨_, rfl⟩
  rw [← hwx]
  have hfx : Fr (fun k => k = rb) (w3) wx := by rw [hwx]; exact six_fr _ _ _ _ _ _ _ _
  have hbx : wx.heap[rb]? = some (.cells #[.int .i64 (-1), .int .i64 0, .bool false, .bool false, .bool false, .bool false] 31 (0, 0)) := by rw [hwx]; exact six_blk Hb3.out _ _ _ _ _ _
  clear hwx
  have t0 := blk_cell hbx 0 rfl
  have t1 := blk_cell hbx 1 rfl
  have t2 := blk_cell hbx 2 rfl
  have t3 := blk_cell hbx 3 rfl
  have t4 := blk_cell hbx 4 rfl
  have t5 := blk_cell hbx 5 rfl
  refine bodyPost_ret (v := .tuple #[.agg #[.int .i64 (-1), .int .i64 0, .bool false, .bool false, .bool false, .bool false], .slice none 0 0, .int .i64 0]) (by simp [results, Try.results11, go_sem, t0, t1, t2, t3, t4, t5]) rfl ⟨none, 0, rfl, ?_, ?_, Sl.nil _ _ _ _⟩
  · exact Hf3.out.none.trans hfx fun q hk e => by have := Hz1.out; omega
  · exact (Hp.out.fr0 Hf3.out).fr hfx fun q a e => by subst e; have := HS.out _ a; have := Hz1.out; omega
end Go.Proofs.Ytdemeghhjnehbaa
