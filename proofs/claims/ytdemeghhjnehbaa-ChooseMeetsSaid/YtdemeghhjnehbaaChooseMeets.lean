/- Of two that wait by several cases on the same channels, a third one meets the one that came first, and both its waits go when it leaves, for all that the statement draws. -/
import Derived.Test.YtdemeghhjnehbaaChooseMany
set_option linter.unusedVariables false
set_option linter.unusedSimpArgs false
namespace Go.Proofs.Ytdemeghhjnehbaa
open Go.RowKit
set_option maxRecDepth 100000
def mtC (s : Bool) (l : List Wt) : ChS := if s then ⟨0, [], [], l, false, false, false⟩ else ⟨0, [], l, [], false, false, false⟩
abbrev mtV (i : Nat) : Int := 20 + (i : Int)
abbrev mtW (s : Bool) (t : Int) (i : Nat) : Wt := (t, (i : Int), if s then mtV i else 0)
theorem mt_wait (s : Bool) (l : List Wt) (x : Wt) : (mtC s l).waitS x s = mtC s (l ++ [x]) := by
  cases s <;> simp [ChS.waitS, ChS.waitR, ChS.mute, ChS.free, ChS.queue, mtC]
theorem mt_can (s : Bool) (l : List Wt) : (mtC s l).canR s = false := by cases s <;> simp [ChS.canR, ChS.mute, ChS.free, ChS.queue, mtC]
theorem mt_can2 (s : Bool) (x : Wt) (l : List Wt) : (mtC s (x :: l)).canR (!s) = true := by cases s <;> simp [ChS.canR, ChS.mute, ChS.free, ChS.queue, mtC]
theorem mt_mute (s : Bool) (l : List Wt) : (mtC s l).mute = false := by cases s <;> rfl
theorem mt_few (s : Bool) (l : List Wt) (h : l.length ≤ 1000) : (mtC s l).rv.length ≤ 1000 ∧ (mtC s l).sd.length ≤ 1000 := by cases s <;> simp [mtC, h]
theorem mt_oneR (s : Bool) (t : Int) (k : Nat) (l : List Wt) : oneR (mtC s (mtW s t k :: l)) (some k, !s, 8) = (if s then mtV k else 0, true, false, [(t, (k : Int), if s then 0 else 8, true, false)]) := by
  cases s <;> simp [oneR, ChS.sendR, ChS.recvR, ChS.mute, mtC]
theorem mt_oneS (s : Bool) (t : Int) (k : Nat) (l : List Wt) : oneS (mtC s (mtW s t k :: l)) (some k, !s, 8) = mtC s l := by
  cases s <;> simp [oneS, ChS.sendS, ChS.recvS, ChS.mute, mtC]
theorem mt_rem (s : Bool) (l : List Wt) (t : Int) : (mtC s l).removeS t = mtC s (notT l t) := by cases s <;> simp [ChS.removeS, mtC, notT]
theorem mt_remR (s : Bool) (l : List Wt) (t : Int) : (mtC s l).removeR t = l.length - (notT l t).length := by cases s <;> simp [ChS.removeR, mtC, notT]
/-- What the channels are, step by step. -/
abbrev mt0 (s : Bool) : Nat → ChS := fun _ => mtC s []
abbrev mt1 (s : Bool) : Nat → ChS := fun i => mtC s [mtW s 5 i]
abbrev mt2 (s : Bool) : Nat → ChS := fun i => mtC s [mtW s 5 i, mtW s 6 i]
abbrev mt3 (s : Bool) (k : Nat) : Nat → ChS := fun i => if i = k then mtC s [mtW s 6 i] else mtC s [mtW s 5 i, mtW s 6 i]
abbrev mt4 (s : Bool) : Nat → ChS := fun i => mtC s [mtW s 6 i]
theorem mt_sum5 (s : Bool) (n k : Nat) (hk : k < n) : sumN (fun i => (mt3 s k i).removeR 5) n = n - 1 := by
  rw [sumN_congr (g := fun i => if i = k then 0 else 1) n, sumN_but, if_pos hk]
  intro i _
  by_cases e : i = k
  · simp only [mt3, if_pos e, mt_remR]; simp [notT]
  · simp only [mt3, if_neg e, mt_remR]; simp [notT]
theorem mt_st5 (s : Bool) (k i : Nat) : (mt3 s k i).removeS 5 = mt4 s i := by
  by_cases e : i = k
  · simp only [mt3, if_pos e, mt_rem]; simp [notT]
  · simp only [mt3, if_neg e, mt_rem]; simp [notT]
theorem mt_sum6 (s : Bool) (n : Nat) : sumN (fun i => (mt4 s i).removeR 6) n = n := by
  rw [sumN_congr (g := fun _ => 1) n, sumN_const]; omega
  intro i _
  simp only [mt4, mt_remR]; simp [notT]
theorem mt_st6 (s : Bool) (i : Nat) : (mt4 s i).removeS 6 = mt0 s i := by
  simp only [mt4, mt_rem]; simp [notT]
theorem mt_st7 (s : Bool) (i : Nat) : (mt0 s i).removeS 7 = mt0 s i := by
  simp only [mt0, mt_rem]; rfl
theorem mt_sum7 (s : Bool) (n : Nat) : sumN (fun i => (mt0 s i).removeR 7) n = 0 := by
  rw [sumN_congr (g := fun _ => 0) n, sumN_const]; omega
  intro i _
  simp only [mt0, mt_remR]; simp [notT]
def MtDo (w0 : World) (s : Bool) (n : Nat) (B : Nat → Nat) (v : Value) (st : Nat → ChS) (e : Ending) (W w' : World) (S T : Nat → Prop) : Prop := ∃ (A : Option Addr) (cp : Nat), e = .returned (.tuple #[resV (-1) 0 false false true false, .slice A 0 cp, .int .i64 0]) ∧ Fr S W w' ∧ Mk w0 w' (And' S W w') T Nob B (PN n st) v n (csN s mtV n) (.slice none 0 0) 0 []
theorem mt_park (w0 W : World) (S T : Nat → Prop) (B : Nat → Nat) (v : Value) (s : Bool) (n : Nat) (hn : n ≤ 8) (l : Nat → List Wt) (t : Int) (ht : 0 ≤ t) (hl : ∀ i, (l i).length ≤ 1000) (h : Mk w0 W S T Nob B (PN n fun i => mtC s (l i)) v n (csN s mtV n) (.slice none 0 0) 0 []) :
    Calls Try.prog 11 #[v, .bool false, .int .i64 0, .int .i64 t] W fun e w' => MtDo w0 s n B v (fun i => mtC s (l i ++ [mtW s t i])) e W w' S T := by
  refine (do_park h.pool (fun k q => (h.s k q).2) v (csN s mtV n) n (csN_len _ _ _) T h.sl h.st (fun k q => (h.t k q).2) (csN_ok _ _ _ _) (csN_mute fun i _ => mt_mute s _) ?_ (PN_few 1000 fun i _ => mt_few s _ (hl i)) (by omega) 0 t ht).mono ?_
  · intro x hx
    obtain ⟨k, hk⟩ := List.getElem?_of_mem hx
    rw [csN_can k x hk, mt_can]
  · rintro e w' ⟨A, cp, he, hf, hp, _⟩
    refine ⟨A, cp, he, hf, h.wait hf ?_⟩
    rw [park_all t s mtV n (fun i => mtC s (l i)) (fun i => mtC s (l i ++ [mtW s t i])) fun i _ => mt_wait s (l i) _] at hp
    exact hp
theorem mt_leave (w0 W : World) (S T : Nat → Prop) (B : Nat → Nat) (v : Value) (s : Bool) (n : Nat) (hn : n ≤ 8) (st st' : Nat → ChS) (t : Int) (r : Nat) (hr : sumN (fun i => (st i).removeR t) n = r) (hst : ∀ i, (st i).removeS t = st' i) (hf : ∀ i, (st i).rv.length ≤ 1000 ∧ (st i).sd.length ≤ 1000) (h : Mk w0 W S T Nob B (PN n st) v n (csN s mtV n) (.slice none 0 0) 0 []) :
    Calls Try.prog 13 #[v, .int .i64 t] W fun e w' => e = .returned (.int .i64 (r : Int)) ∧ Mk w0 w' S T Nob B (PN n st') v n (csN s mtV n) (.slice none 0 0) 0 [] := by
  refine (choose_leave h.pool v (csN s mtV n) n (csN_len _ _ _) T h.sl h.st (csN_ok _ _ _ _) (by omega) (PN_few 1000 fun i _ => hf i) t r (by rw [leave_sum]; exact hr)).mono ?_
  rintro e w' ⟨he, hf, hp⟩
  rw [leave_all t s mtV n st st' fun i _ => hst i] at hp
  exact ⟨he, h.turn hf hp⟩
theorem mt3_few (s : Bool) (k i : Nat) : (mt3 s k i).rv.length ≤ 1000 ∧ (mt3 s k i).sd.length ≤ 1000 := by
  by_cases e : i = k
  · simp only [mt3, if_pos e]; exact mt_few s _ (by simp)
  · simp only [mt3, if_neg e]; exact mt_few s _ (by simp)
set_option maxHeartbeats 8000000 in
theorem meets_main (w : World) (n : Nat) (at' : Int) (s : Bool) (h1 : 1 ≤ n) (h8 : n ≤ 8) :
    Calls Try.prog 3 #[.int .i64 (n : Int), .int .i64 at', .bool s] w fun e w' => e = .returned (.bool true) ∧ Fr Nob w w' := by
  have Haw := Lib.hid (fun W => awake10 W)
  have Hnew := Lib.hid (fun W => chan_new W 0 (by omega))
  have hlo := Int.emod_nonneg at' (show (n : Int) ≠ 0 by omega)
  have hhi := Int.emod_lt_of_pos at' (show (0 : Int) < n by omega)
  obtain ⟨k, hk⟩ := Int.eq_ofNat_of_zero_le hlo
  have hkn : k < n := by omega
  have hrnd := fun W => alike_round W at' n (by omega) (by omega)
  rw [hk] at hrnd
  have Hrnd := Lib.hid hrnd
  have d1 : decide ((n : Int) < 1) = false := decide_eq_false (by omega)
  have d2 : decide ((8 : Int) < n) = false := decide_eq_false (by omega)
  have d1' : ¬ (n : Int) < 1 := by omega
  have d2' : ¬ (8 : Int) < n := by omega
  have Hm00 : Hid (Mk w w Nob Nob Nob (fun _ => 0) (PN 0 (mt0 s)) (.slice none 0 0) 0 (csN s mtV 0) (.slice none 0 0) 0 []) := Lib.hid (by have := Mk.start w (fun _ => 0); rw [PN_0 (mt0 s)] at this; exact this)
  have hmt0 : ∀ k, mt0 s k = chNew 0 := fun k => by cases s <;> rfl
  have Hmt0 := Lib.hid hmt0
  clear hrnd hk hlo hhi hmt0
  go_enter Try.func3, Try.ntmps3
  go_wp2_with fail
  go_loopw [7, 8] (fun v7 i wr => ∃ (q : Nat) (A : Option Addr) (c : Nat) (S T : Nat → Prop) (B : Nat → Nat), i = .int .i64 q ∧ q ≤ n ∧ v7 = .slice A q c ∧ Hid (Mk w wr S T Nob B (PN q (mt0 s)) (.slice A q c) q (csN s mtV q) (.slice none 0 0) 0 [])) (fun _ i _ => n - (intOf i).toNat)
  case atStart => exact ⟨0, none, 0, Nob, Nob, fun _ => 0, rfl, Nat.zero_le _, rfl, Hm00⟩
  case round =>
    obtain ⟨wo, rfl⟩ : ∃ wo : World, wo = wr := ⟨_, rfl⟩
    obtain ⟨q, A, c, S, T, B, rfl, hq, rfl, Hm⟩ := hrel
    clear Hm00
    by_cases hlt : q < n
    · have hqi : (q : Int) < n := by omega
      have hv20 : IntKind.i64.wrap ((20 : Int) + q) = 20 + (q : Int) := IntWalk.i64_in _ (by omega)
      go_wp2_with fail
      refine (Hnew.out _).mono ?_
      intro e w2 hnew
      obtain ⟨b, S2, B2, rfl, hb2, hm2⟩ := Hm.out.addN hnew (Hmt0.out q)
      have Hm2 := Lib.hid hm2; have Hb2 := Lib.hid hb2
      clear hnew hm2 hb2 Hm
      go_wp2_with (at_builtin; (refine wpList_append1 _ rfl _ _ _ rfl T 29 _ 3 24 Try.underlying23 info_case rfl (by omega) (.slice A q c) q (css B2 (csN s mtV q)) [.pointer (some ⟨b, 0, none⟩), .bool s, .int .i64 (20 + (q : Int))] rfl Hm2.out.sl rfl rfl rfl (by omega) (by omega) ?_; intro v5 w5 hs5 hf5 hz5))
      obtain ⟨A5, c5, rfl⟩ := hs5.slice
      have Hm5 : Hid (Mk w w5 S2 (And' T w2 w5) Nob B2 (PN (q + 1) (mt0 s)) (.slice A5 (q + 1) c5) (q + 1) (csN s mtV (q + 1)) (.slice none 0 0) 0 []) := Lib.hid (by
        rw [csN_succ]
        refine Hm2.out.appL (x := (some q, s, mtV q)) hf5 ?_
        rw [show csEn B2 (some q, s, mtV q) = [.pointer (some ⟨b, 0, none⟩), .bool s, .int .i64 (20 + (q : Int))] by simp only [csEn, pa, Hb2.out]]
        exact hs5)
      clear hs5 hf5 hz5 hv20
      go_wp2_with fail
      go_roundw
      case rel => exact ⟨q + 1, A5, c5, _, _, _, by go_num, by omega, rfl, Hm5⟩
      case measure => simp [intOf]; omega
    · obtain rfl : q = n := by omega
      have hd1 := mt_park w wo S T B _ s q h8 (fun _ => []) 5 (by omega) (fun _ => by simp) Hm.out
      have Hd1 := Lib.hid hd1
      clear hd1 Hm
      go_wp2_with fail
      refine Hd1.out.mono ?_
      rintro e w1 ⟨A1, cp1, rfl, hf1, hm1⟩
      have Hm1 : Hid (Mk w w1 (And' S wo w1) T Nob B (PN q (mt1 s)) (.slice A q c) q (csN s mtV q) (.slice none 0 0) 0 []) := hm1
      clear hf1 hm1 Hd1
      generalize And' S wo w1 = S1 at *
      go_wp2_with fail
      obtain ⟨w2, hw2⟩ : ∃ w2, w2 = w1.alloc (resO (-1) 0 false false true false) := ⟨_, rfl⟩
      rw [← hw2]
      have hf2 : Fr Nob w1 w2 := by rw [hw2]; exact (Fr.refl Nob w1).alloc _
      obtain ⟨ra, hra⟩ : ∃ ra, ra = w1.heap.size := ⟨_, rfl⟩
      have Ka : Hid (Kp S1 w2 ra (resO (-1) 0 false false true false)) := Lib.hid ⟨by rw [hw2, hra]; exact heap_alloc_new _ _, fun a => by have := (Hm1.out.s _ a).2; omega⟩
      rw [← hra]
      have Hm2 := Lib.hid (Hm1.out.fr0 hf2)
      clear hw2 hf2 hra Hm1
      have hd2 := mt_park w w2 S1 T B _ s q h8 (fun i => [mtW s 5 i]) 6 (by omega) (fun _ => by simp) Hm2.out
      refine hd2.mono ?_
      rintro e w3 ⟨A3, cp3, rfl, hf3, hm3⟩
      have Hm3 : Hid (Mk w w3 (And' S1 w2 w3) T Nob B (PN q (mt2 s)) (.slice A q c) q (csN s mtV q) (.slice none 0 0) 0 []) := hm3
      replace Ka := Lib.hid (Ka.out.grow hf3)
      clear hf3 hm3 hd2 Hm2
      generalize And' S1 w2 w3 = S3 at *
      have a4 := ((Fr.refl Nob w3).alloc (resO (-1) 0 false false true false)).cell (p := ⟨ra, 4, none⟩) id (blk_cell Ka.out.blk 4 rfl)
      go_wp2_with fail
      obtain ⟨w4, hw4⟩ : ∃ w4, w4 = w3.alloc (resO (-1) 0 false false true false) := ⟨_, rfl⟩
      rw [← hw4]
      have hf4 : Fr Nob w3 w4 := by rw [hw4]; exact (Fr.refl Nob w3).alloc _
      have Hm4 := Lib.hid (Hm3.out.fr0 hf4)
      clear hw4 hf4 a4 Hm3 Ka
      refine (Hrnd.out w4).mono ?_
      rintro e _ ⟨rfl, rfl⟩
      obtain ⟨Al, cl, hv, hcl1, _, hAl⟩ := cs_in (csN_len s mtV q) Hm4.out.sl.rd
      cases hv
      obtain ⟨x, g, o, hx, rfl, e0, e1, e2⟩ := hAl k hkn
      rw [csN_get s mtV q k hkn] at hx
      cases hx
      have e0' : w4.cell? ⟨g, o + k * 3, none⟩ = some (.pointer (some ⟨B k, 0, none⟩)) := e0
      have hki : (k : Int) < q := by omega
      obtain ⟨bk, hbk⟩ : ∃ bk, bk = B k := ⟨_, rfl⟩
      rw [← hbk] at e0'
      have Hbk := Lib.hid hbk
      clear hAl e0 e1 e2 hbk
      go_wp2_with fail
      obtain ⟨w5, hw5⟩ : ∃ w5, w5 = (w4.alloc (.cells #[.pointer (some ⟨bk, 0, none⟩), .bool (!s), .int .i64 8] 29)).alloc (.cells #[.pointer (some ⟨bk, 0, none⟩), .bool (!s), .int .i64 8] 29) := ⟨_, rfl⟩
      rw [← hw5]
      have hf5 : Fr Nob w4 w5 := by rw [hw5]; exact ((Fr.refl Nob w4).alloc _).alloc _
      have hb5 : w5.heap[w4.heap.size + 1]? = some (.cells #[.pointer (some ⟨bk, 0, none⟩), .bool (!s), .int .i64 8] 29 (0, 0)) := by rw [hw5]; exact blk_alloc_eq _ (by simp)
      have Hm5 := Lib.hid (Hm4.out.fr0 hf5)
      have hrd5 : Rd w5 3 (.slice (some ⟨w4.heap.size + 1, 0, none⟩) 1 1) 1 (css B [(some k, !s, 8)]) := by
        rw [show css B [(some k, !s, 8)] = [.pointer (some ⟨bk, 0, none⟩), .bool (!s), .int .i64 8] by simp only [css, List.flatMap_cons, List.flatMap_nil, List.append_nil, csEn, pa, Hbk.out]]
        exact rd_lit hb5 1 3 rfl (by simp [maxLen])
      have hdo : Calls Try.prog 11 #[.slice (some ⟨w4.heap.size + 1, 0, none⟩) 1 1, .bool true, .int .i64 0, .int .i64 7] w5 (DoP w5 (fun _ => S3) (fun _ => S3) B (upd (PN q (mt2 s)) k (some (mtC s [mtW s 6 k]))) (0 : Nat) (if s then mtV k else 0) true false false false [(5, (k : Int), if s then 0 else 8, true, false)] 1 0) := by
        refine do_ready Hm5.out.pool (fun a b => (Hm5.out.s a b).2) _ [(some k, !s, 8)] 1 rfl hrd5 ?_ ?_ (fun _ => true) ?_ (by omega) true 0 7 (by omega) 1 0 0 k (some k, !s, 8) (c := mtC s [mtW s 5 k, mtW s 6 k]) rfl (by omega) (by decide) (by omega) rfl (by omega) rfl rfl (PN_at hkn) _ true false _ 1 (mt_oneR s 5 k _) (mt_oneS s 5 k _) rfl
        · intro x hx; simp at hx; subst hx; intro i hi; cases hi; exact ⟨_, PN_at hkn⟩
        · intro x hx; simp at hx; subst hx; simp only [muteC, PN_at hkn, mt_mute, Bool.and_false]
        · intro z x hx
          have := List.mem_of_getElem? hx
          simp at this; subst this
          simp only [canC, PN_at hkn]
          exact mt_can2 s _ _
      rw [PN_upd _ _ _ _ hkn] at hdo
      have Hdo := Lib.hid hdo
      clear hdo hrd5 hw5 hf5 hb5 Hm4
      refine Hdo.out.mono ?_
      rintro e w6 ⟨A6, cp6, rfl, hf6, hp6, hs6⟩
      have Hm6 : Hid (Mk w w6 S3 T Nob B (PN q (mt3 s k)) (.slice (some ⟨g, o, none⟩) q c) q (csN s mtV q) (.slice none 0 0) 0 []) := Lib.hid (by
        refine Hm5.out.turn hf6 ?_
        rw [PN_congr (st' := upd (mt2 s) k (mtC s [mtW s 6 k])) fun i _ => ?_]
        · exact hp6
        · unfold upd mt3
          by_cases e : i = k
          · subst e; simp
          · simp [e])
      obtain ⟨g6, o6, cap6, hv6, _, _, hc61, _, hcell6, _⟩ := hs6.form (by omega)
      cases hv6
      have k0 := hcell6 0 _ rfl
      have k1 := hcell6 1 _ rfl
      have k2 := hcell6 2 _ rfl
      have k3 := hcell6 3 _ rfl
      have K0 := ((Fr.refl Nob w6).alloc (resO 0 (if s then mtV k else 0) true false false false)).cell (p := ⟨g6, o6 + 0, none⟩) id k0
      have K1 := ((Fr.refl Nob w6).alloc (resO 0 (if s then mtV k else 0) true false false false)).cell (p := ⟨g6, o6 + 1, none⟩) id k1
      have K2 := ((Fr.refl Nob w6).alloc (resO 0 (if s then mtV k else 0) true false false false)).cell (p := ⟨g6, o6 + 2, none⟩) id k2
      have K3 := ((Fr.refl Nob w6).alloc (resO 0 (if s then mtV k else 0) true false false false)).cell (p := ⟨g6, o6 + 3, none⟩) id k3
      rw [Nat.add_zero] at K0
      have hv20 : IntKind.i64.wrap ((20 : Int) + k) = 20 + (k : Int) := IntWalk.i64_in _ (by omega)
      have hvn : IntKind.i64.wrap ((q : Int) - 1) = (q : Int) - 1 := IntWalk.i64_in _ (by omega)
      have hsub : ((q - 1 : Nat) : Int) = (q : Int) - 1 := by omega
      have Hsub := Lib.hid hsub
      have HL5 : Hid (∀ W, Fr Nob w6 W → Calls Try.prog 13 #[.slice (some ⟨g, o, none⟩) q c, .int .i64 5] W fun e w' => e = .returned (.int .i64 ((q : Int) - 1)) ∧ Mk w w' S3 T Nob B (PN q (mt4 s)) (.slice (some ⟨g, o, none⟩) q c) q (csN s mtV q) (.slice none 0 0) 0 []) := Lib.hid fun W hW => by
        have := mt_leave w W S3 T B _ s q h8 _ _ 5 (q - 1) (mt_sum5 s q k hkn) (mt_st5 s k) (mt3_few s k) (Hm6.out.fr0 hW)
        rwa [Hsub.out] at this
      clear hf6 hp6 hs6 hcell6 k0 k1 k2 k3 hsub Hdo Hm5
      cases s <;> (
        simp only [if_true, if_false, Bool.false_eq_true] at K0 K1 K2 K3
        go_wp2_with fail
        refine (HL5.out _ (by first | exact (Fr.refl _ _).alloc _ | exact Fr.refl _ _)).mono ?_
        rintro e w7 ⟨rfl, hm7⟩
        have Hm7 := Lib.hid hm7
        clear hm7 K0 K1 K2 K3
        go_wp2_with fail
        refine (mt_leave w w7 S3 T B _ _ q h8 _ _ 6 q (mt_sum6 _ q) (mt_st6 _) (fun i => mt_few _ _ (by simp)) Hm7.out).mono ?_
        rintro e w8 ⟨rfl, hm8⟩
        have Hm8 := Lib.hid hm8
        clear hm8 Hm7
        go_wp2_with fail
        refine (mt_leave w w8 S3 T B _ _ q h8 _ _ 7 0 (mt_sum7 _ q) (mt_st7 _) (fun i => mt_few _ _ (by simp)) Hm8.out).mono ?_
        rintro e w9 ⟨rfl, hm9⟩
        have F9 := Lib.hid hm9.fr
        clear hm9 Hm8
        go_wp2_with fail
        refine (Haw.out _).mono ?_
        rintro e w10 ⟨rfl, hf10⟩
        have F10 := Lib.hid (F9.out.trans0 hf10)
        clear hf10
        go_wp2_with fail
        go_ret
        exact ⟨rfl, F10.out⟩)

theorem meets_bad (w : World) (a0 a1 : Int) (s : Bool) (h : a0 < 1 ∨ 8 < a0) :
    Calls Try.prog 3 #[.int .i64 a0, .int .i64 a1, .bool s] w fun e w' => e = .returned (.bool true) ∧ Fr Nob w w' := by
  have Haw := Lib.hid (fun W => awake10 W)
  by_cases h0 : a0 < 1
  · have d0 : decide (a0 < 1) = true := decide_eq_true h0
    clear h h0
    go_enter Try.func3, Try.ntmps3
    go_wp2_with fail
    refine (Haw.out _).mono ?_
    rintro e w2 ⟨rfl, hf2⟩
    have F2 := Lib.hid (hf2)
    clear hf2
    go_wp2_with fail
    go_ret
    exact ⟨rfl, F2.out⟩
  · have d0 : decide (a0 < 1) = false := decide_eq_false h0
    have d1 : decide (8 < a0) = true := decide_eq_true (by omega)
    clear h h0
    go_enter Try.func3, Try.ntmps3
    go_wp2_with fail
    refine (Haw.out _).mono ?_
    rintro e w2 ⟨rfl, hf2⟩
    have F2 := Lib.hid (hf2)
    clear hf2
    go_wp2_with fail
    go_ret
    exact ⟨rfl, F2.out⟩

theorem chooseMeets_walk (a0 a1 : Int) (s : Bool) (w : World) (w0 : (Lit.int .i64 a0).wf = true) (w1 : (Lit.int .i64 a1).wf = true) :
    Calls Try.prog 3 #[.int .i64 a0, .int .i64 a1, .bool s] w fun e w' => e = .returned (.bool true) ∧ Below w.heap.size w w' := by
  have key : Calls Try.prog 3 #[.int .i64 a0, .int .i64 a1, .bool s] w fun e w' => e = .returned (.bool true) ∧ Fr Nob w w' := by
    by_cases h : a0 < 1 ∨ 8 < a0
    · exact meets_bad w a0 a1 s h
    · obtain ⟨n, rfl⟩ : ∃ n : Nat, a0 = n := ⟨a0.toNat, by omega⟩
      exact meets_main w n a1 s (by omega) (by omega)
  exact key.mono fun e w' ⟨h1, h2⟩ => ⟨h1, h2.below (Nat.le_refl _) fun _ q => q.elim⟩

/-! The row: out of the walk above. -/
namespace chooseMeets
open Go.ChangeShapes Go.WideShapes Go.ChangeAt Go.RowKit
open Go.ChangeMaps (open_string shut_string)
theorem own : ownKnob Try.prog.godebug = none := by kernel_rfl
theorem laidOut : laidOutB Try.prog = true := by kernel_rfl
set_option maxRecDepth 100000 in
theorem lifted (os : Os) (started : os.Started) (H : Type) (enc : TypeId × Value → H) :
    ReturnsInHanded {} Try.checked os 3 .any (Rows.chooseMeetsSpec.pre6 enc Try.prog Try.f3 Rows.chooseMeetsRow.domain false) (Rows.chooseMeetsSpec.post enc Try.prog Try.f3 false true false false) := by
  refine returnsInHanded_of_change (C := Try.checked) own started (by kernel_rfl) Try.func3
    (ChangeSpec.witness6 (enc := enc) (C := Try.checked) false ⟨#[], #[.int .i64 0, .int .i64 0, .bool false], []⟩ 8 (by kernel_rfl) (by kernel_rfl) (by kernel_rfl) (by kernel_rfl)) ?_
  intro W base args ds gs before hval0 hW hcnd _
  have hval : ∀ (j : Nat) t v, Try.f3.params[j]? = some t → args[j]? = some v → Value.okWide Try.prog W .any base t v := hval0
  have hW' := hW
  obtain ⟨p, q, hA0, hV, rfl, hfz, hnd⟩ := hW
  have hA : DataW.TrodAll enc Try.prog W 0 (fun _ => true) true Try.f3.params.toList args.toList ds p := hA0
  rw [Try.params3] at hA hval
  obtain ⟨v0, vs0, d0, ds0, p0, q0, hargs, rfl, rfl, h0, r0⟩ := trodAll_cons hA
  obtain ⟨v1, vs1, d1, ds1, p1, q1, rfl, rfl, rfl, h1, r1⟩ := trodAll_cons r0
  obtain ⟨v2, vs2, d2, ds2, p2, q2, rfl, rfl, rfl, h2, r2⟩ := trodAll_cons r1
  obtain ⟨rfl, rfl, rfl⟩ := trodAll_nil r2
  obtain rfl : args = #[v0, v1, v2] := by cases args; simp_all
  obtain ⟨rfl, rfl⟩ := trodVars_none hV
  obtain ⟨a0, rfl, rfl, rfl, w0⟩ := open_int Try.underlying3 (hval 0 3 v0 rfl rfl) h0
  obtain ⟨a1, rfl, rfl, rfl, w1⟩ := open_int Try.underlying3 (hval 1 3 v1 rfl rfl) h1
  obtain ⟨a2, rfl, rfl, rfl⟩ := open_bool Try.underlying4 (hval 2 4 v2 rfl rfl) h2
  clear hA0 hval0
  refine (chooseMeets_walk a0 a1 a2 W w0 w1).mono fun e W' ⟨he, bel⟩ => ?_
  subst he
  exact ⟨_, rfl, _, _, _, [], _, [], hW', trodAll_mk1 (shut_bool Try.underlying4 _), (trodAll_cons_mk (shut_int Try.underlying3 w0) (trodAll_cons_mk (shut_int Try.underlying3 w1) (trodAll_cons_mk (shut_bool Try.underlying4 _) trodAll_mk0))), rfl, bel.frame _, fun h => by cases h⟩
theorem over : Rows.chooseMeetsRow.holds Try.pinned (OpenSpec.ofChange Rows.chooseMeetsSpec) :=
  OpenClaim.holds_of_wide 3 Try.f3 rfl rfl rfl rfl rfl rfl rfl ⟨rfl, rfl, rfl, rfl, rfl⟩ rfl rfl rfl rfl rfl (by kernel_rfl) Try.func3 (by kernel_rfl)
    (of_decide_eq_true (by kernel_rfl)) (by unfold Func.isWrapper; first | (rw [if_pos (by decide +kernel)]; kernel_rfl) | (rw [if_neg (by decide +kernel)]; exact ⟨rfl, rfl⟩))
    (fun os started H enc _ => lifted os started H enc)
end chooseMeets
/-- THE STATEMENT. -/
theorem chooseMeets_holds : Rows.ChooseMeetsSaid := chooseMeets.over
#print axioms chooseMeets_holds
end Go.Proofs.Ytdemeghhjnehbaa
