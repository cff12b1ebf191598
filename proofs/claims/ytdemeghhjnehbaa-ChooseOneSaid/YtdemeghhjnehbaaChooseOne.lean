/- Of cases that are ready one alone is done, whichever is drawn, and each can be; with none the default is, or all wait, and leave no trace when they go, for all that the statement draws. -/
import Derived.Test.YtdemeghhjnehbaaChooseMany
set_option linter.unusedVariables false
set_option linter.unusedSimpArgs false
namespace Go.Proofs.Ytdemeghhjnehbaa
open Go.RowKit
set_option maxRecDepth 100000
theorem upd_upd {α : Type} (f : Nat → α) (n : Nat) (x y : α) : upd (upd f n x) n y = upd f n y := by funext i; unfold upd; split <;> rfl
theorem Mk.addC {w0 w w' : World} {S T U : Nat → Prop} {B : Nat → Nat} {k : Nat} {st : Nat → ChS} {vl vw : Value} {m : Nat} {s : Bool} {v : Nat → Int} {r : List Int} {size : Nat} {e : Ending}
    (h : Mk w0 w S T U B (PN k st) vl k (csN s v k) vw m r) (hn : NewP w (chNew size) e w') : ∃ (b : Nat) (S' : Nat → Prop) (B' : Nat → Nat), e = .returned (.tuple #[.pointer (some ⟨b, 0, none⟩), .int .i64 0]) ∧ B' k = b ∧ Mk w0 w' S' T U B' (upd (PN k st) k (some (chNew size))) vl k (csN s v k) vw m r := by
  obtain ⟨b, X, h1, hf, hc, hX⟩ := hn
  exact ⟨b, _, _, h1, upd_same _ _ _, h.add k hf hc hX fun x hx i hi => by
    obtain ⟨j, hj, rfl⟩ := csN_in hx
    cases hi; omega⟩
abbrev onS (h : Nat → Bool) : Nat → ChS := fun i => ⟨1, if h i then [100 + (i : Int)] else [], [], [], false, false, false⟩
abbrev on0 : Nat → Int := fun _ => 0
theorem on_can (h : Nat → Bool) (i : Nat) : (onS h i).canR false = h i := by
  cases e : h i <;> simp [ChS.canR, ChS.mute, ChS.free, ChS.queue, onS, e]
/-- Behind a Do that waits, or not. -/
abbrev onW (d : Bool) : Nat → ChS := fun i => ⟨1, [], if d then [] else [(9, (i : Int), 0)], [], false, false, false⟩
abbrev onK (h : Nat → Bool) (k : Nat) : Nat → ChS := fun i => ⟨1, if h i then (if i = k then [] else [100 + (i : Int)]) else [], [], [], false, false, false⟩
theorem on_sum (d : Bool) (n : Nat) : sumN (fun i => (onW d i).removeR 9) n = if d then 0 else n := by
  cases d
  · rw [sumN_congr (g := fun _ => 1) n, sumN_const]; simp
    intro i _; simp [ChS.removeR, notT]
  · rw [sumN_congr (g := fun _ => 0) n, sumN_const]; simp
    intro i _; simp [ChS.removeR, notT]
theorem on_st (d : Bool) (i : Nat) : (onW d i).removeS 9 = onW true i := by cases d <;> simp [ChS.removeS, notT]
theorem on_few (d : Bool) (i : Nat) : (onW d i).rv.length ≤ 1000 ∧ (onW d i).sd.length ≤ 1000 := by cases d <;> simp
def OnDo (w0 : World) (n : Nat) (S T U : Nat → Prop) (B : Nat → Nat) (v vw : Value) (m : Nat) (r : List Int) (st : Nat → ChS) (i y : Int) (ok pk : Bool) (e : Ending) (w' : World) : Prop := ∃ (A : Option Addr) (cp : Nat) (S' : Nat → Prop), e = .returned (.tuple #[resV i y ok false pk false, .slice A 0 cp, .int .i64 0]) ∧ Mk w0 w' S' T U B (PN n st) v n (csN false on0 n) vw m r
theorem on_none (w0 W : World) (S T U : Nat → Prop) (B : Nat → Nat) (v vw : Value) (n m : Nat) (r : List Int) (h : Nat → Bool) (hn : n ≤ 16) (hno : ∀ i, i < n → h i = false) (d : Bool) (dr : Int) (hm : Mk w0 W S T U B (PN n (onS h)) v n (csN false on0 n) vw m r) :
    Calls Try.prog 11 #[v, .bool d, .int .i64 dr, .int .i64 9] W (OnDo w0 n S T U B v vw m r (onW d) (-1) 0 false (!d)) := by
  have hst : PN n (onS h) = PN n (onW true) := PN_congr fun i hi => by simp [hno i hi]
  rw [hst] at hm
  have hmu : ∀ x ∈ csN false on0 n, (x.2.1 && muteC (PN n (onW true)) x) = false := csN_mute fun i _ => rfl
  have hcan : ∀ x ∈ csN false on0 n, canC (PN n (onW true)) x = false := fun x hx => by
    obtain ⟨k, hk⟩ := List.getElem?_of_mem hx
    rw [csN_can k x hk]; rfl
  cases d with
  | true =>
    refine (do_default hm.pool (fun k q => (hm.s k q).2) v _ n (csN_len _ _ _) hm.sl.rd (csN_ok _ _ _ _) hmu hcan (by omega) dr 9 (by omega)).mono ?_
    rintro e w' ⟨A, cp, he, hf, hp, _⟩
    exact ⟨A, cp, S, he, hm.turn hf hp⟩
  | false =>
    refine (do_park hm.pool (fun k q => (hm.s k q).2) v _ n (csN_len _ _ _) T hm.sl hm.st (fun k q => (hm.t k q).2) (csN_ok _ _ _ _) hmu hcan (PN_few 1000 fun i _ => by simp) (by omega) dr 9 (by omega)).mono ?_
    rintro e w' ⟨A, cp, he, hf, hp, _⟩
    refine ⟨A, cp, _, he, hm.wait hf ?_⟩
    rw [park_all 9 false on0 n (onW true) (onW false) fun i _ => by simp [ChS.waitS, ChS.waitR, ChS.mute, ChS.free, ChS.queue]] at hp
    exact hp
theorem on_some (w0 W : World) (S T U : Nat → Prop) (B : Nat → Nat) (v vw : Value) (n m : Nat) (h : Nat → Bool) (hn : n ≤ 16) (d : Bool) (dr : Int) (j k : Nat) (hlen : (rdy h n).length = m) (hm0 : 0 < m) (hj : dr % (m : Int) = (j : Int)) (hjm : j < m) (hk : (rdy h n)[j]? = some (k : Int)) (hkn : k < n) (hhk : h k = true) (hm : Mk w0 W S T U B (PN n (onS h)) v n (csN false on0 n) vw m (rdy h n)) :
    Calls Try.prog 11 #[v, .bool d, .int .i64 dr, .int .i64 9] W (OnDo w0 n S T U B v vw m (rdy h n) (onK h k) k (100 + (k : Int)) true false) := by
  refine (do_ready hm.pool (fun k q => (hm.s k q).2) v _ n (csN_len _ _ _) hm.sl.rd (csN_ok _ _ _ _) (csN_mute fun i _ => rfl) h (fun k x hx => by rw [csN_can k x hx, on_can]) hn d dr 9 (by omega) m j k k (some k, false, 0) (c := onS h k) (c' := ⟨1, [], [], [], false, false, false⟩) hlen hm0 hj hjm hk hkn (csN_get _ _ _ _ hkn) rfl (PN_at hkn) (100 + (k : Int)) true false [] 0 ?_ ?_ rfl).mono ?_
  · simp [oneR, ChS.recvR, onS, hhk]
  · simp [oneS, ChS.recvS, onS, hhk]
  · rintro e w' ⟨A, cp, he, hf, hp, _⟩
    refine ⟨A, cp, S, he, hm.turn hf ?_⟩
    rw [PN_upd _ _ _ _ hkn] at hp
    rw [PN_congr (st' := upd (onS h) k ⟨1, [], [], [], false, false, false⟩) fun i _ => ?_]
    · exact hp
    · unfold upd
      by_cases e : i = k
      · subst e; simp
      · simp [e]
theorem on_leave (w0 W : World) (S T U : Nat → Prop) (B : Nat → Nat) (v vw : Value) (n m : Nat) (r : List Int) (hn : n ≤ 16) (d : Bool) (q : Nat) (hq : (if d then 0 else n) = q) (h : Mk w0 W S T U B (PN n (onW d)) v n (csN false on0 n) vw m r) :
    Calls Try.prog 13 #[v, .int .i64 9] W fun e w' => e = .returned (.int .i64 (q : Int)) ∧ Mk w0 w' S T U B (PN n (onW true)) v n (csN false on0 n) vw m r := by
  refine (choose_leave h.pool v _ n (csN_len _ _ _) T h.sl h.st (csN_ok _ _ _ _) (by omega) (PN_few 1000 fun i _ => on_few d i) 9 q (by rw [leave_sum, on_sum]; exact hq)).mono ?_
  rintro e w' ⟨he, hf, hp⟩
  rw [leave_all 9 false on0 n (onW d) (onW true) fun i _ => on_st d i] at hp
  exact ⟨he, h.turn hf hp⟩
/-- Where the channel of a case is read. -/
theorem Mk.ptr {w0 w : World} {S T U : Nat → Prop} {B : Nat → Nat} {n : Nat} {st : Nat → ChS} {A : Option Addr} {c : Nat} {vw : Value} {m : Nat} {s : Bool} {v : Nat → Int} {r : List Int} (h : Mk w0 w S T U B (PN n st) (.slice A n c) n (csN s v n) vw m r) (i : Nat) (hi : i < n) : ∃ g o, A = some ⟨g, o, none⟩ ∧ w.cell? ⟨g, o + i * 3, none⟩ = some (.pointer (some ⟨B i, 0, none⟩)) := by
  obtain ⟨A', c', hv, _, _, hA⟩ := cs_in (csN_len s v n) h.sl.rd
  cases hv
  obtain ⟨x, g, o, hx, rfl, e0, _, _⟩ := hA i hi
  rw [csN_get s v n i hi] at hx
  cases hx
  exact ⟨g, o, rfl, e0⟩
theorem wait_all_none (w : World) (S : Nat → Prop) (b : Nat) (h : WaitAt w S b []) :
    Calls Try.prog 42 #[.pointer (some ⟨b, 0, none⟩)] w fun e w' => e = .returned (.slice none 0 0) ∧ w = w' := by
  obtain ⟨xs, h, hx⟩ := h
  have hxs : xs = [] := List.map_eq_nil_iff.1 hx
  subst hxs
  have b0 : w.cell? ⟨b, 0, none⟩ = some (.pointer none) := blk_cell h.blk 0 rfl
  clear h hx
  go_enter Try.func42, Try.ntmps42
  go_wp2_with fail
  go_loopw [2, 3] (fun vo x wr => vo = .slice none 0 0 ∧ x = .pointer none ∧ wr = w) (fun _ _ _ => 0)
  case atStart => exact ⟨rfl, rfl, rfl⟩
  case round =>
    obtain ⟨rfl, rfl, rfl⟩ := hrel
    go_wp2_with fail
    go_ret
    exact ⟨rfl, rfl⟩
theorem pool_waiting_none {w : World} {S : Nat → Prop} {B : Nat → Nat} {P : Nat → Option ChS} (h : Pool w S B P) (i : Nat) {c : ChS} (hi : P i = some c) (hn : c.rv = []) : Calls Try.prog 16 #[.pointer (some ⟨B i, 0, none⟩), .bool false] w fun e w' => e = .returned (.slice none 0 0) ∧ w = w' := by
  obtain ⟨T, h1, _⟩ := h.at hi
  obtain ⟨rb, qb, sb, R, A, D, hp⟩ := h1
  have hq := chan_queue hp false
  have ha := hp.recv
  rw [hn] at ha
  rw [if_neg (by simp)] at hq
  have Hq := Lib.hid hq; have Ha := Lib.hid (wait_all_none w A qb ha)
  clear h hq ha hi hn hp
  go_enter Try.func16, Try.ntmps16
  go_wp2_with fail
  refine Hq.out.mono ?_
  rintro e _ ⟨rfl, rfl⟩
  go_wp2_with fail
  refine Ha.out.mono ?_
  rintro e _ ⟨rfl, rfl⟩
  go_wp2_with fail
  go_ret
  exact ⟨rfl, rfl⟩
set_option maxHeartbeats 8000000 in
theorem one_main (w : World) (v : Value) (l : List Bool) (n : Nat) (hn : l.length = n) (h1 : 1 ≤ n) (h16 : n ≤ 16) (hrd : Rd w 1 v n (bools l)) (dr : Int) (d : Bool) :
    Calls Try.prog 6 #[v, .int .i64 dr, .bool d] w fun e w' => e = .returned (.bool true) ∧ Fr Nob w w' := by
  obtain ⟨A0, c0, rfl, hc1, hc2, hA0⟩ := bools_in hn hrd
  have Haw := Lib.hid (fun W => awake10 W)
  have Hnew := Lib.hid (fun W => chan_new W 1 (by omega))
  have HA0 := Lib.hid hA0
  have d1 : decide ((n : Int) < 1) = false := decide_eq_false (by omega)
  have d2 : decide ((16 : Int) < n) = false := decide_eq_false (by omega)
  have d1' : ¬ (n : Int) < 1 := by omega
  have d2' : ¬ (16 : Int) < n := by omega
  generalize hh : (fun k => l.getD k false) = h at *
  have hg : ∀ k, l.getD k false = h k := fun k => by rw [← hh]
  simp only [hg] at HA0
  have Hm00 : Hid (Mk w w Nob Nob Nob (fun _ => 0) (PN 0 (onS h)) (.slice none 0 0) 0 (csN false on0 0) (.slice none 0 0) 0 (rdy h 0)) := Lib.hid (by have := Mk.start w (fun _ => 0); rw [PN_0 (onS h)] at this; exact this)
  clear hA0 hrd hn hh hg
  unfold maxLen at hc2
  go_enter Try.func6, Try.ntmps6
  go_wp2_with fail
  go_loopw [7, 8, 9] (fun v7 v8 i wr => ∃ (k m : Nat) (A A' : Option Addr) (c c' : Nat) (S T U : Nat → Prop) (B : Nat → Nat), i = .int .i64 k ∧ k ≤ n ∧ m ≤ k ∧ v7 = .slice A k c ∧ v8 = .slice A' m c' ∧ Hid ((rdy h k).length = m) ∧ Hid (Mk w wr S T U B (PN k (onS h)) (.slice A k c) k (csN false on0 k) (.slice A' m c') m (rdy h k))) (fun _ _ i _ => n - (intOf i).toNat)
  case atStart => exact ⟨0, 0, none, none, 0, 0, Nob, Nob, Nob, fun _ => 0, rfl, Nat.zero_le _, Nat.zero_le _, rfl, rfl, rfl, Hm00⟩
  case round =>
    obtain ⟨wo, rfl⟩ : ∃ wo : World, wo = wr := ⟨_, rfl⟩
    obtain ⟨k, m, A, A', c, c', S, T, U, B, rfl, hk, hmk, rfl, rfl, Hlen, Hm⟩ := hrel
    clear Hm00
    by_cases hlt : k < n
    · have hki : (k : Int) < n := by omega
      obtain ⟨g, o, rfl, e0⟩ := HA0.out k hlt
      go_wp2_with fail
      refine (Hnew.out _).mono ?_
      intro e w2 hnew
      obtain ⟨b, S2, B2, rfl, hb2, hm2⟩ := Hm.out.addC hnew
      have f0 := hm2.fr.cell id e0
      have Hm2 := Lib.hid hm2; have Hb2 := Lib.hid hb2
      clear hnew hm2 hb2 Hm e0
      cases hhk : h k with
      | true =>
        rw [hhk] at f0
        have hv100 : IntKind.i64.wrap ((100 : Int) + k) = 100 + (k : Int) := IntWalk.i64_in _ (by omega)
        have hrk := rdy_yes hhk
        have hsd := pool_send Hm2.out.pool k (c := chNew 1) (c' := onS h k) (upd_same _ _ _) (100 + (k : Int)) true [] 0 0 rfl (by simp [ChS.sendS, ChS.mute, hhk]) rfl
        rw [Hb2.out, upd_upd, PN_add] at hsd
        have Hsd := Lib.hid hsd
        have Hrk := Lib.hid hrk
        clear hsd hrk hhk
        go_wp2_with fail
        refine Hsd.out.mono ?_
        rintro e w3 ⟨A3, cp3, rfl, hf3, hp3, _⟩
        have Hm3 := Lib.hid (Hm2.out.turn hf3 hp3)
        clear hf3 hp3 Hsd f0 hv100 Hm2
        go_wp2_with (at_builtin; (first | (refine wpList_append1 _ rfl _ _ _ rfl U 3 _ 1 8 Try.underlying42 Try.info_int' rfl (by omega) (.slice A' m c') m (ints (rdy h k)) [.int .i64 (k : Int)] rfl Hm3.out.sw rfl rfl rfl (by omega) (by omega) ?_; intro v4 w4 hs4 hf4 hz4; obtain ⟨A4, c4, rfl⟩ := hs4.slice; have Hm4 : Hid (Mk w w4 S2 T (And' U w3 w4) B2 (PN (k + 1) (onS h)) (.slice A k c) k (csN false on0 k) (.slice A4 (m + 1) c4) (m + 1) (rdy h (k + 1))) := (Lib.hid (by rw [Hrk.out]; exact Hm3.out.appW hf4 hs4)); clear hs4 hf4 hz4) | (refine wpList_append1 _ rfl _ _ _ rfl T 29 _ 3 24 Try.underlying23 info_case rfl (by omega) (.slice A k c) k (css B2 (csN false on0 k)) [.pointer (some ⟨b, 0, none⟩), .bool false, .int .i64 0] rfl Hm4.out.sl rfl rfl rfl (by omega) (by omega) ?_; intro v5 w5 hs5 hf5 hz5)))
        obtain ⟨A5, c5, rfl⟩ := hs5.slice
        have Hm5 : Hid (Mk w w5 S2 (And' T w4 w5) (And' U w3 w4) B2 (PN (k + 1) (onS h)) (.slice A5 (k + 1) c5) (k + 1) (csN false on0 (k + 1)) (.slice A4 (m + 1) c4) (m + 1) (rdy h (k + 1))) := Lib.hid (by
          rw [csN_succ]
          refine Hm4.out.appL (x := (some k, false, 0)) hf5 ?_
          rw [show csEn B2 (some k, false, 0) = [.pointer (some ⟨b, 0, none⟩), .bool false, .int .i64 0] by simp only [csEn, pa, Hb2.out]]
          exact hs5)
        have Hlen5 : Hid ((rdy h (k + 1)).length = m + 1) := Lib.hid (by rw [Hrk.out, List.length_append, Hlen.out]; rfl)
        clear hs5 hf5 hz5 Hm4 Hm3 Hlen Hrk
        go_wp2_with fail
        go_roundw
        case rel => exact ⟨k + 1, m + 1, A5, A4, c5, c4, _, _, _, _, by go_num, by omega, by omega, rfl, rfl, Hlen5, Hm5⟩
        case measure => simp [intOf]; omega
      | false =>
        rw [hhk] at f0
        have hrk := rdy_no hhk
        have Hm3 : Hid (Mk w w2 S2 T U B2 (PN (k + 1) (onS h)) (.slice A k c) k (csN false on0 k) (.slice A' m c') m (rdy h (k + 1))) := Lib.hid (by
          have := Hm2.out
          rw [hrk]
          rw [show chNew 1 = onS h k by simp [hhk], PN_add] at this
          exact this)
        have Hlen5 : Hid ((rdy h (k + 1)).length = m) := Lib.hid (by rw [hrk]; exact Hlen.out)
        clear hrk Hm2 hhk Hlen
        go_wp2_with (at_builtin; (refine wpList_append1 _ rfl _ _ _ rfl T 29 _ 3 24 Try.underlying23 info_case rfl (by omega) (.slice A k c) k (css B2 (csN false on0 k)) [.pointer (some ⟨b, 0, none⟩), .bool false, .int .i64 0] rfl Hm3.out.sl rfl rfl rfl (by omega) (by omega) ?_; intro v5 w5 hs5 hf5 hz5))
        obtain ⟨A5, c5, rfl⟩ := hs5.slice
        have Hm5 : Hid (Mk w w5 S2 (And' T w2 w5) U B2 (PN (k + 1) (onS h)) (.slice A5 (k + 1) c5) (k + 1) (csN false on0 (k + 1)) (.slice A' m c') m (rdy h (k + 1))) := Lib.hid (by
          rw [csN_succ]
          refine Hm3.out.appL (x := (some k, false, 0)) hf5 ?_
          rw [show csEn B2 (some k, false, 0) = [.pointer (some ⟨b, 0, none⟩), .bool false, .int .i64 0] by simp only [csEn, pa, Hb2.out]]
          exact hs5)
        clear hs5 hf5 hz5 Hm3 f0
        go_wp2_with fail
        go_roundw
        case rel => exact ⟨k + 1, m, A5, A', c5, c', _, _, _, _, by go_num, by omega, by omega, rfl, rfl, Hlen5, Hm5⟩
        case measure => simp [intOf]; omega
    · obtain rfl : k = n := by omega
      by_cases hm0 : m = 0
      · subst hm0
        have hno := rdy_nil (List.eq_nil_of_length_eq_zero Hlen.out)
        have Hlow := Lib.hid hno
        clear hno
        cases d with
        | true =>
          have Hdo : Hid (Calls Try.prog 11 #[.slice A k c, .bool true, .int .i64 dr, .int .i64 9] wo (OnDo w k S T U B (.slice A k c) (.slice A' 0 c') 0 (rdy h k) (onW true) (-1) 0 false false)) := Lib.hid (on_none w wo S T U B _ _ k 0 _ h h16 Hlow.out true dr Hm.out)
          clear Hm Hlow
          go_wp2_with fail
          refine Hdo.out.mono ?_
          rintro e w2 ⟨A2, cp2, S2, rfl, hm2⟩
          have Hm2 := Lib.hid hm2
          clear hm2 Hdo
          go_wp2_with fail
          obtain ⟨w3, hw3⟩ : ∃ w3, w3 = w2.alloc (resO (-1) 0 false false false false) := ⟨_, rfl⟩
          rw [← hw3]
          have hf3 : Fr Nob w2 w3 := by rw [hw3]; exact (Fr.refl Nob w2).alloc _
          have Hm3 := Lib.hid (Hm2.out.fr0 hf3)
          clear hw3 hf3 Hm2
          go_loopw [15] (fun i wr => ∃ q : Nat, i = .int .i64 q ∧ q ≤ k ∧ Hid (Mk w wr S2 T U B (PN k (onW true)) (.slice A k c) k (csN false on0 k) (.slice A' 0 c') 0 (rdy h k))) (fun i _ => k - (intOf i).toNat)
          case atStart => exact ⟨0, rfl, Nat.zero_le _, Hm3⟩
          case round =>
            obtain ⟨wz, rfl⟩ : ∃ wz : World, wz = wr := ⟨_, rfl⟩
            obtain ⟨q, rfl, hq, Hmz⟩ := hrel
            clear Hm3
            by_cases hlt2 : q < k
            · obtain ⟨g, o, rfl, p0⟩ := Hmz.out.ptr q hlt2
              have hqi : (q : Int) < k := by omega
              have hwt := pool_waiting Hmz.out.pool q (PN_at hlt2) false 0 rfl
              obtain ⟨bq, hbq⟩ : ∃ bq, bq = B q := ⟨_, rfl⟩
              rw [← hbq] at p0 hwt
              have Hwt := Lib.hid hwt
              clear hwt hbq
              go_wp2_with fail
              refine Hwt.out.mono ?_
              rintro e w6 ⟨A6, c6, rfl, hf6, _⟩
              have Hm6 := Lib.hid (Hmz.out.fr0 hf6)
              clear hf6 Hwt Hmz p0
              go_wp2_with fail
              go_roundw
              case rel => exact ⟨q + 1, by go_num, by omega, Hm6⟩
              case measure => simp [intOf]; omega
            · obtain rfl : q = k := by omega
              have hlv := on_leave w wz S2 T U B _ _ q 0 _ h16 true 0 rfl Hmz.out
              have Hlv := Lib.hid hlv
              have hq0 : ((q : Int) == 0) = false := beq_eq_false_iff_ne.2 (by omega)
              have hq0' : (q == 0) = false := beq_eq_false_iff_ne.2 (by omega)
              clear hlv Hmz
              go_wp2_with fail
              refine Hlv.out.mono ?_
              rintro e w7 ⟨rfl, hm7⟩
              have Hm7 := Lib.hid hm7
              clear hm7 Hlv
              go_wp2_with fail
              refine (on_leave w w7 S2 T U B _ _ q 0 _ h16 true 0 rfl Hm7.out).mono ?_
              rintro e w8 ⟨rfl, hm8⟩
              have F8 := Lib.hid hm8.fr
              clear hm8 Hm7
              go_wp2_with fail
              refine (Haw.out _).mono ?_
              rintro e w10 ⟨rfl, hf10⟩
              have F10 := Lib.hid (F8.out.trans0 hf10)
              clear hf10
              go_wp2_with fail
              go_ret
              exact ⟨rfl, F10.out⟩
        | false =>
          have Hdo : Hid (Calls Try.prog 11 #[.slice A k c, .bool false, .int .i64 dr, .int .i64 9] wo (OnDo w k S T U B (.slice A k c) (.slice A' 0 c') 0 (rdy h k) (onW false) (-1) 0 false true)) := Lib.hid (on_none w wo S T U B _ _ k 0 _ h h16 Hlow.out false dr Hm.out)
          clear Hm Hlow
          go_wp2_with fail
          refine Hdo.out.mono ?_
          rintro e w2 ⟨A2, cp2, S2, rfl, hm2⟩
          have Hm2 := Lib.hid hm2
          clear hm2 Hdo
          go_wp2_with fail
          obtain ⟨w3, hw3⟩ : ∃ w3, w3 = w2.alloc (resO (-1) 0 false false true false) := ⟨_, rfl⟩
          rw [← hw3]
          have hf3 : Fr Nob w2 w3 := by rw [hw3]; exact (Fr.refl Nob w2).alloc _
          have Hm3 := Lib.hid (Hm2.out.fr0 hf3)
          clear hw3 hf3 Hm2
          go_loopw [15] (fun i wr => ∃ q : Nat, i = .int .i64 q ∧ q ≤ k ∧ Hid (Mk w wr S2 T U B (PN k (onW false)) (.slice A k c) k (csN false on0 k) (.slice A' 0 c') 0 (rdy h k))) (fun i _ => k - (intOf i).toNat)
          case atStart => exact ⟨0, rfl, Nat.zero_le _, Hm3⟩
          case round =>
            obtain ⟨wz, rfl⟩ : ∃ wz : World, wz = wr := ⟨_, rfl⟩
            obtain ⟨q, rfl, hq, Hmz⟩ := hrel
            clear Hm3
            by_cases hlt2 : q < k
            · obtain ⟨g, o, rfl, p0⟩ := Hmz.out.ptr q hlt2
              have hqi : (q : Int) < k := by omega
              have hwt := pool_waiting Hmz.out.pool q (PN_at hlt2) false 1 rfl
              obtain ⟨bq, hbq⟩ : ∃ bq, bq = B q := ⟨_, rfl⟩
              rw [← hbq] at p0 hwt
              have Hwt := Lib.hid hwt
              clear hwt hbq
              go_wp2_with fail
              refine Hwt.out.mono ?_
              rintro e w6 ⟨A6, c6, rfl, hf6, _⟩
              have Hm6 := Lib.hid (Hmz.out.fr0 hf6)
              clear hf6 Hwt Hmz p0
              go_wp2_with fail
              go_roundw
              case rel => exact ⟨q + 1, by go_num, by omega, Hm6⟩
              case measure => simp [intOf]; omega
            · obtain rfl : q = k := by omega
              have hlv := on_leave w wz S2 T U B _ _ q 0 _ h16 false q rfl Hmz.out
              have Hlv := Lib.hid hlv
              have hq0 : ((q : Int) == 0) = false := beq_eq_false_iff_ne.2 (by omega)
              have hq0' : (q == 0) = false := beq_eq_false_iff_ne.2 (by omega)
              clear hlv Hmz
              go_wp2_with fail
              refine Hlv.out.mono ?_
              rintro e w7 ⟨rfl, hm7⟩
              have Hm7 := Lib.hid hm7
              clear hm7 Hlv
              go_wp2_with fail
              refine (on_leave w w7 S2 T U B _ _ q 0 _ h16 true 0 rfl Hm7.out).mono ?_
              rintro e w8 ⟨rfl, hm8⟩
              have F8 := Lib.hid hm8.fr
              clear hm8 Hm7
              go_wp2_with fail
              refine (Haw.out _).mono ?_
              rintro e w10 ⟨rfl, hf10⟩
              have F10 := Lib.hid (F8.out.trans0 hf10)
              clear hf10
              go_wp2_with fail
              go_ret
              exact ⟨rfl, F10.out⟩
      · have hlo := Int.emod_nonneg dr (show (m : Int) ≠ 0 by omega)
        have hhi := Int.emod_lt_of_pos dr (show (0 : Int) < m by omega)
        obtain ⟨j, hj⟩ := Int.eq_ofNat_of_zero_le hlo
        have hjm : j < m := by omega
        have hrnd := fun W => alike_round W dr m (by omega) (by omega)
        rw [hj] at hrnd
        obtain ⟨kk, hkk, hkn, hhk⟩ := rdy_get (f := h) (k := k) (j := j) (List.getElem?_eq_getElem (by rw [Hlen.out]; exact hjm))
        have hkj : (rdy h k)[j]? = some (kk : Int) := by rw [List.getElem?_eq_getElem (by rw [Hlen.out]; exact hjm), hkk]
        have hdo := on_some w wo S T U B _ _ k m h h16 d dr j kk Hlen.out (by omega) hj hjm hkj hkn hhk Hm.out
        have Hdo := Lib.hid hdo; have Hrnd := Lib.hid hrnd; have Hkj := Lib.hid hkj; have Hhk := Lib.hid hhk
        have hmi : ((m : Int) == 0) = false := beq_eq_false_iff_ne.2 (by omega)
        have hv100 : IntKind.i64.wrap ((100 : Int) + kk) = 100 + (kk : Int) := IntWalk.i64_in _ (by omega)
        have hjmi : (j : Int) < m := by omega
        clear hdo hrnd hkj hhk hkk hj hlo hhi Hm
        go_wp2_with fail
        refine Hdo.out.mono ?_
        rintro e w2 ⟨A2, cp2, S2, rfl, hm2⟩
        have Hm2 := Lib.hid hm2
        clear hm2 Hdo
        go_wp2_with fail
        obtain ⟨w3, hw3⟩ : ∃ w3, w3 = w2.alloc (resO (kk : Int) (100 + (kk : Int)) true false false false) := ⟨_, rfl⟩
        rw [← hw3]
        have hf3 : Fr Nob w2 w3 := by rw [hw3]; exact (Fr.refl Nob w2).alloc _
        obtain ⟨rb, hrb⟩ : ∃ rb, rb = w2.heap.size := ⟨_, rfl⟩
        have hb3 : w3.heap[rb]? = some (resO (kk : Int) (100 + (kk : Int)) true false false false) := by rw [hw3, hrb]; exact heap_alloc_new _ _
        rw [← hrb]
        have Hm3 := Lib.hid (Hm2.out.fr0 hf3)
        clear hw3 hf3 hrb Hm2
        refine (Hrnd.out w3).mono ?_
        rintro e _ ⟨rfl, rfl⟩
        obtain ⟨gw, ow, capw, hvw, _, _, hcw1, _, hcw, _⟩ := Hm3.out.sw.form (by omega)
        cases hvw
        have u0 := hcw j (.int .i64 (kk : Int)) (by rw [List.getElem?_map, Hkj.out]; rfl)
        have r0 := blk_cell hb3 0 rfl
        have r1 := blk_cell hb3 1 rfl
        have r2 := blk_cell hb3 2 rfl
        have r3 := blk_cell hb3 3 rfl
        have r4 := blk_cell hb3 4 rfl
        have r5 := blk_cell hb3 5 rfl
        clear hcw hb3 Hrnd Hkj
        go_wp2_with fail
        clear u0 r0 r1 r2 r3 r4 r5
        go_loopw [18] (fun i wr => ∃ q : Nat, i = .int .i64 q ∧ q ≤ k ∧ Hid (Fr Nob w3 wr)) (fun i _ => k - (intOf i).toNat)
        case atStart => exact ⟨0, rfl, Nat.zero_le _, Lib.hid (Fr.refl _ _)⟩
        case round =>
          obtain ⟨wz, rfl⟩ : ∃ wz : World, wz = wr := ⟨_, rfl⟩
          obtain ⟨q, rfl, hq, Hf⟩ := hrel
          have Hmz := Lib.hid (Hm3.out.fr0 Hf.out)
          by_cases hlt2 : q < k
          · obtain ⟨g, o, rfl, p0⟩ := Hmz.out.ptr q hlt2
            obtain ⟨g2, o2, rfl, b0⟩ := HA0.out q hlt2
            have b1 := Hmz.out.fr.cell id b0
            have hqi : (q : Int) < k := by omega
            have key : ∀ W, Fr Nob wz W → Fr Nob wz W ∧ W.cell? ⟨g, o + q * 3, none⟩ = some (.pointer (some ⟨B q, 0, none⟩)) ∧ W.cell? ⟨g2, o2 + q, none⟩ = some (.bool (h q)) := fun W hW => ⟨hW, hW.cell id p0, hW.cell id b1⟩
            have hlenq : ∀ W, Fr Nob wz W → Calls Try.prog 17 #[.pointer (some ⟨B q, 0, none⟩)] W fun e w' => e = .returned (.int .i64 ((((onK h kk q).q.length : Nat)) : Int)) ∧ W = w' := fun W hW => pool_len (Hmz.out.fr0 hW).pool q (PN_at hlt2) _ rfl
            have hwtq : ∀ W, Fr Nob wz W → Calls Try.prog 16 #[.pointer (some ⟨B q, 0, none⟩), .bool false] W fun e w' => e = .returned (.slice none 0 0) ∧ W = w' := fun W hW => pool_waiting_none (Hmz.out.fr0 hW).pool q (PN_at hlt2) rfl
            obtain ⟨bq, hbq⟩ : ∃ bq, bq = B q := ⟨_, rfl⟩
            rw [← hbq] at key hlenq hwtq p0
            have fin : ∀ (hb : Bool) (n01 : Nat), h q = hb → (onK h kk q).q.length = n01 → (hb = false ∧ n01 = 0 ∨ hb = true ∧ q = kk ∧ n01 = 0 ∨ hb = true ∧ q ≠ kk ∧ n01 = 1) → True := fun _ _ _ _ _ => trivial
            obtain ⟨hb, hhb⟩ : ∃ hb, h q = hb := ⟨_, rfl⟩
            rw [hhb] at key b1
            have hcase : hb = false ∧ (onK h kk q).q.length = 0 ∨ hb = true ∧ q = kk ∧ (onK h kk q).q.length = 0 ∨ hb = true ∧ q ≠ kk ∧ (onK h kk q).q.length = 1 := by
              cases hb with
              | false => left; simp [hhb]
              | true =>
                right
                by_cases e : q = kk
                · left; simp [hhb, e]
                · right; simp [hhb, e]
            clear fin b0 hhb
            have Hlq := Lib.hid hlenq; have Hwq := Lib.hid hwtq; have Key := Lib.hid key
            clear hlenq hwtq key hbq
            rcases hcase with ⟨rfl, hn0⟩ | ⟨rfl, hqk, hn0⟩ | ⟨rfl, hqk, hn0⟩
            all_goals (rw [hn0] at Hlq; clear hn0)
            · have hf4 : Fr Nob wz wz := Fr.refl _ _
              go_wp2_with fail
              go_quiet ((first | (go_at_call 17; exact Calls.quiet_of_same ((Hlq.out _ ((Fr.refl _ _).drewN _)).mono fun e w' h => ⟨h.1, h.2.symm⟩)) | (go_at_call 16; exact Calls.quiet_of_same ((Hwq.out _ ((Fr.refl _ _).drewN _)).mono fun e w' h => ⟨h.1, h.2.symm⟩))))
              have hf6 : Fr Nob wz (wz.drewN nq) := (Fr.refl _ _).drewN nq
              all_goals (
                have Hf6 := Lib.hid (Hf.out.trans0 hf6)
                go_wp2_with fail
                go_roundw
                case rel => exact ⟨q + 1, by go_num, by omega, Hf6⟩
                case measure => simp [intOf]; omega)
            · have hne : ((q : Int) != (kk : Int)) = false := by simp [hqk]
              have hne2 : (q != kk) = false := by simp [hqk]
              have hf4 : Fr Nob wz wz := Fr.refl _ _
              clear hqk
              go_wp2_with fail
              go_quiet ((first | (go_at_call 17; exact Calls.quiet_of_same ((Hlq.out _ ((Fr.refl _ _).drewN _)).mono fun e w' h => ⟨h.1, h.2.symm⟩)) | (go_at_call 16; exact Calls.quiet_of_same ((Hwq.out _ ((Fr.refl _ _).drewN _)).mono fun e w' h => ⟨h.1, h.2.symm⟩))))
              have hf6 : Fr Nob wz (wz.drewN nq) := (Fr.refl _ _).drewN nq
              all_goals (
                have Hf6 := Lib.hid (Hf.out.trans0 hf6)
                go_wp2_with fail
                go_roundw
                case rel => exact ⟨q + 1, by go_num, by omega, Hf6⟩
                case measure => simp [intOf]; omega)
            · have hne : ((q : Int) != (kk : Int)) = true := by simp; omega
              have hne2 : (q != kk) = true := by simp [hqk]
              have hf4 : Fr Nob wz wz := Fr.refl _ _
              clear hqk
              go_wp2_with fail
              go_quiet ((first | (go_at_call 17; exact Calls.quiet_of_same ((Hlq.out _ ((Fr.refl _ _).drewN _)).mono fun e w' h => ⟨h.1, h.2.symm⟩)) | (go_at_call 16; exact Calls.quiet_of_same ((Hwq.out _ ((Fr.refl _ _).drewN _)).mono fun e w' h => ⟨h.1, h.2.symm⟩))))
              have hf6 : Fr Nob wz (wz.drewN nq) := (Fr.refl _ _).drewN nq
              all_goals (
                have Hf6 := Lib.hid (Hf.out.trans0 hf6)
                go_wp2_with fail
                go_roundw
                case rel => exact ⟨q + 1, by go_num, by omega, Hf6⟩
                case measure => simp [intOf]; omega)
          · obtain rfl : q = k := by omega
            have F := Lib.hid Hmz.out.fr
            clear Hmz Hm3 Hf
            go_wp2_with fail
            refine (Haw.out _).mono ?_
            rintro e w10 ⟨rfl, hf10⟩
            have F10 := Lib.hid (F.out.trans0 hf10)
            clear hf10
            go_wp2_with fail
            go_ret
            exact ⟨rfl, F10.out⟩

theorem one_bad (w : World) (v : Value) (l : List Bool) (n : Nat) (hn : l.length = n) (hb : n < 1 ∨ 16 < n) (hrd : Rd w 1 v n (bools l)) (dr : Int) (d : Bool) :
    Calls Try.prog 6 #[v, .int .i64 dr, .bool d] w fun e w' => e = .returned (.bool true) ∧ Fr Nob w w' := by
  obtain ⟨A0, c0, rfl, hc1, hc2, _⟩ := bools_in hn hrd
  have Haw := Lib.hid (fun W => awake10 W)
  unfold maxLen at hc2
  clear hrd hn
  by_cases h1 : n < 1
  · have d1 : decide ((n : Int) < 1) = true := decide_eq_true (by omega)
    have d1' : (n : Int) < 1 := by omega
    clear hb h1
    go_enter Try.func6, Try.ntmps6
    go_wp2_with fail
    refine (Haw.out _).mono ?_
    rintro e w2 ⟨rfl, hf2⟩
    have F2 := Lib.hid hf2
    clear hf2
    go_wp2_with fail
    go_ret
    exact ⟨rfl, F2.out⟩
  · have d1 : decide ((n : Int) < 1) = false := decide_eq_false (by omega)
    have d2 : decide ((16 : Int) < n) = true := decide_eq_true (by omega)
    have d1' : ¬ (n : Int) < 1 := by omega
    have d2' : (16 : Int) < n := by omega
    clear hb h1
    go_enter Try.func6, Try.ntmps6
    go_wp2_with fail
    refine (Haw.out _).mono ?_
    rintro e w2 ⟨rfl, hf2⟩
    have F2 := Lib.hid hf2
    clear hf2
    go_wp2_with fail
    go_ret
    exact ⟨rfl, F2.out⟩

theorem chooseOne_walk (v : Value) (l : List Bool) (dr : Int) (d : Bool) (w : World) (h0 : IsBools w v l) (w1 : (Lit.int .i64 dr).wf = true) :
    Calls Try.prog 6 #[v, .int .i64 dr, .bool d] w fun e w' => e = .returned (.bool true) ∧ Below w.heap.size w w' := by
  have key : Calls Try.prog 6 #[v, .int .i64 dr, .bool d] w fun e w' => e = .returned (.bool true) ∧ Fr Nob w w' := by
    by_cases h : l.length < 1 ∨ 16 < l.length
    · exact one_bad w v l _ rfl h h0 dr d
    · exact one_main w v l _ rfl (by omega) (by omega) h0 dr d
  exact key.mono fun e w' ⟨h1, h2⟩ => ⟨h1, h2.below (Nat.le_refl _) fun _ q => q.elim⟩

/-! The row: out of the walk above. -/
namespace chooseOne
open Go.ChangeShapes Go.WideShapes Go.ChangeAt Go.RowKit
open Go.ChangeMaps (open_string shut_string)
theorem own : ownKnob Try.prog.godebug = none := by kernel_rfl
theorem laidOut : laidOutB Try.prog = true := by kernel_rfl
set_option maxRecDepth 100000 in
theorem lifted (os : Os) (started : os.Started) (H : Type) (enc : TypeId × Value → H) :
    ReturnsInHanded {} Try.checked os 6 .any (Rows.chooseOneSpec.pre6 enc Try.prog Try.f6 Rows.chooseOneRow.domain false) (Rows.chooseOneSpec.post enc Try.prog Try.f6 false true false false) := by
  refine returnsInHanded_of_change (C := Try.checked) own started (by kernel_rfl) Try.func6
    (ChangeSpec.witness6 (enc := enc) (C := Try.checked) false ⟨#[], #[.slice none 0 0, .int .i64 0, .bool false], []⟩ 8 (by kernel_rfl) (by kernel_rfl) (by kernel_rfl) (by kernel_rfl)) ?_
  intro W base args ds gs before hval0 hW hcnd _
  have hval : ∀ (j : Nat) t v, Try.f6.params[j]? = some t → args[j]? = some v → Value.okWide Try.prog W .any base t v := hval0
  have hW' := hW
  obtain ⟨p, q, hA0, hV, rfl, hfz, hnd⟩ := hW
  have hA : DataW.TrodAll enc Try.prog W 0 (fun _ => true) true Try.f6.params.toList args.toList ds p := hA0
  rw [Try.params6] at hA hval
  obtain ⟨v0, vs0, d0, ds0, p0, q0, hargs, rfl, rfl, h0, r0⟩ := trodAll_cons hA
  obtain ⟨v1, vs1, d1, ds1, p1, q1, rfl, rfl, rfl, h1, r1⟩ := trodAll_cons r0
  obtain ⟨v2, vs2, d2, ds2, p2, q2, rfl, rfl, rfl, h2, r2⟩ := trodAll_cons r1
  obtain ⟨rfl, rfl, rfl⟩ := trodAll_nil r2
  obtain rfl : args = #[v0, v1, v2] := by cases args; simp_all
  obtain ⟨rfl, rfl⟩ := trodVars_none hV
  have k0 := h0
  have lt0 : ∀ x ∈ p0, x.block < W.heap.size := by obtain ⟨m, hm⟩ := k0; exact DataW.trod_lt m _ _ _ hm
  obtain ⟨x0, g0⟩ := opn_bools (hval 0 45 v0 rfl rfl) h0
  obtain ⟨a1, rfl, rfl, rfl, w1⟩ := open_int Try.underlying3 (hval 1 3 v1 rfl rfl) h1
  obtain ⟨a2, rfl, rfl, rfl⟩ := open_bool Try.underlying4 (hval 2 4 v2 rfl rfl) h2
  clear hA0 hval0
  refine (chooseOne_walk v0 x0 a1 a2 W g0 w1).mono fun e W' ⟨he, bel⟩ => ?_
  subst he
  exact ⟨_, rfl, _, _, _, [], _, [], hW', trodAll_mk1 (shut_bool Try.underlying4 _), (trodAll_cons_mk (Below.trod laidOut (by kernel_rfl) (of_decide_eq_true (by kernel_rfl)) k0 bel lt0) (trodAll_cons_mk (shut_int Try.underlying3 w1) (trodAll_cons_mk (shut_bool Try.underlying4 _) trodAll_mk0))), rfl, bel.frame _, fun h => by cases h⟩
theorem over : Rows.chooseOneRow.holds Try.pinned (OpenSpec.ofChange Rows.chooseOneSpec) :=
  OpenClaim.holds_of_wide 6 Try.f6 rfl rfl rfl rfl rfl rfl rfl ⟨rfl, rfl, rfl, rfl, rfl⟩ rfl rfl rfl rfl rfl (by kernel_rfl) Try.func6 (by kernel_rfl)
    (of_decide_eq_true (by kernel_rfl)) (by unfold Func.isWrapper; first | (rw [if_pos (by decide +kernel)]; kernel_rfl) | (rw [if_neg (by decide +kernel)]; exact ⟨rfl, rfl⟩))
    (fun os started H enc _ => lifted os started H enc)
end chooseOne
/-- THE STATEMENT. -/
theorem chooseOne_holds : Rows.ChooseOneSaid := chooseOne.over
#print axioms chooseOne_holds
end Go.Proofs.Ytdemeghhjnehbaa
