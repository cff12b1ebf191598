/- TopTimes answers true whatever its inputs are: no condition. -/
import Derived.Test.YtcffplgimbbflaaGreatTmQ22
import Derived.Test.YtcffplgimbbflaaGreatRows
set_option linter.unusedVariables false
set_option linter.unusedSimpArgs false
namespace Go.Proofs.YtcffplgimbbflaaGreat
open Go.RowKit
set_option maxRecDepth 100000
theorem topTimes_bad (d : Int) (tick : Bool) (A : Option Addr) (n c : Nat) (w : World) (h : d < 1 ∨ 1000 < d ∨ 150 < n) :
    Calls Tryz.prog 6 #[inV d, .bool tick, .slice A n c] w fun e w' => e = .returned (.bool true) ∧ Below w.heap.size w w' := by
  have Haw := Lib.hid (top_awake w)
  by_cases h1 : d < 1
  · go_enter Tryz.func6, Tryz.ntmps6
    go_wp2_with fail
    refine Haw.out.mono ?_
    rintro e w' ⟨rfl, hf⟩
    go_wp2_with fail
    go_ret
    exact ⟨rfl, hf.below (Nat.le_refl _) fun _ q => q.elim⟩
  · by_cases h2 : 1000 < d
    · go_enter Tryz.func6, Tryz.ntmps6
      go_wp2_with fail
      refine Haw.out.mono ?_
      rintro e w' ⟨rfl, hf⟩
      go_wp2_with fail
      go_ret
      exact ⟨rfl, hf.below (Nat.le_refl _) fun _ q => q.elim⟩
    · have h3 : (150 : Int) < n := by omega
      clear h
      go_enter Tryz.func6, Tryz.ntmps6
      go_wp2_with fail
      refine Haw.out.mono ?_
      rintro e w' ⟨rfl, hf⟩
      go_wp2_with fail
      go_ret
      exact ⟨rfl, hf.below (Nat.le_refl _) fun _ q => q.elim⟩
theorem step_ev {P : List (List Ins)} {st s : WS} {e : En} (h : st.step P e = some s) : s.ev.length ≤ 1000000 := by
  obtain ⟨_, s1, _, h2, rfl, _⟩ := step_some h
  exact h2
theorem nocs_pT (d op : Int) : NoCs [pT d op] := by
  intro p hp y hy
  simp only [List.mem_singleton] at hp
  subst hp
  simp only [pT, ins, List.mem_cons, List.not_mem_nil, or_false] at hy
  rcases hy with rfl | rfl | rfl | rfl | rfl | rfl | rfl | rfl | rfl | rfl | rfl <;> exact ⟨rfl, rfl⟩
theorem plain_pT (d : Int) (tick : Bool) : ∀ p ∈ PT d tick, ∀ y ∈ p, plainB y = true := by
  intro p hp y hy
  simp only [PT, List.mem_singleton] at hp
  subst hp
  cases tick <;>
  · simp only [pT, ins, List.mem_cons, List.not_mem_nil, or_false] at hy
    rcases hy with rfl | rfl | rfl | rfl | rfl | rfl | rfl | rfl | rfl | rfl | rfl <;> rfl
theorem starts_pT (d : Int) (tick : Bool) : ∀ p ∈ PT d tick, progB p = true ∧ ∀ y ∈ p, startsI y < ((PT d tick).length : Int) := by
  intro p hp
  simp only [PT, List.mem_singleton] at hp
  subst hp
  refine ⟨goodT d tick, fun y hy => ?_⟩
  cases tick <;>
  · simp only [pT, ins, List.mem_cons, List.not_mem_nil, or_false] at hy
    rcases hy with rfl | rfl | rfl | rfl | rfl | rfl | rfl | rfl | rfl | rfl | rfl <;> simp [startsI, PT]
/-- Where the entries are done one by one. -/
def TimesR (W wr : World) (wb : Nat) (d : Int) (tick : Bool) (lv : Value) (k : Nat) (st : WS) (lk : List Ev) : Prop :=
  InvT d tick k st (toldL 0 lk) ∧ Gath W wr Nob wb (PT d tick) st lv lk (k * 10000) (1 + k * 100) ∧ lk.length ≤ k * 1000000
theorem enGet (l : List En) (k j : Nat) (x : En) (h : l[k]? = some x) (hj : j < 3) : (l.flatMap enEn)[k * 3 + j]? = (enEn x)[j]? := rowsGet enEn (fun _ => rfl) l k j x h hj
set_option maxHeartbeats 4000000 in
theorem topTimes_false (d : Int) (v : Value) (l : List En) (n : Nat) (hn : l.length = n) (W : World) (h1 : 1 ≤ d) (h2 : d ≤ 1000) (hl : n ≤ 150) (hrd : Rd W 3 v n (l.flatMap enEn)) :
    Calls Tryz.prog 6 #[inV d, .bool false, v] W fun e w' => e = .returned (.bool true) ∧ Below W.heap.size W w' := by
  obtain ⟨_, hmax, A, c, rfl, hc1, hc2, hA⟩ := hrd
  have g1 : ¬ d < 1 := by omega
  have g2 : ¬ 1000 < d := by omega
  have g3 : ¬ (150 : Int) < n := by omega
  have HA := Lib.hid hA; have Hn := Lib.hid hn
  clear hA hn
  go_enter Tryz.func6, Tryz.ntmps6
  go_wp2_with fail
  obtain ⟨z1, hz1⟩ : ∃ z1, z1 = (W.alloc (.cells ((pT d 17).flatMap insEn).toArray 25)).alloc (.cells #[.slice (some ⟨W.heap.size, 0, none⟩) 11 11] 28) := ⟨_, rfl⟩
  have hz1' := hz1
  simp only [pT, ins, insEn, List.flatMap_cons, List.flatMap_nil, List.cons_append, List.nil_append] at hz1'
  rw [← hz1']
  have hfz : Fr Nob W z1 := by rw [hz1]; exact ((Fr.refl Nob W).alloc _).alloc _
  have hb1 : z1.heap[W.heap.size + 1]? = some (.cells [.slice (some ⟨W.heap.size, 0, none⟩) 11 11].toArray 28 (0, 0)) := by rw [hz1]; exact blk_alloc_eq _ (by simp)
  have hb0 : z1.heap[W.heap.size]? = some (.cells ((pT d 17).flatMap insEn).toArray 25 (0, 0)) := by rw [hz1, blk_alloc_ne _ (by simp)]; exact heap_alloc_new _ _
  have hin : PgIn z1 (.slice (some ⟨W.heap.size + 1, 0, none⟩) 1 1) (PT d false) [.slice (some ⟨W.heap.size, 0, none⟩) 11 11] := PgIn.of rfl (rd_lit hb1 1 1 (by omega) rfl (by omega)) (fun i p hi => by
    cases i with
    | zero => simp [PT] at hi; subst hi; exact ⟨_, rfl, rd_lit hb0 11 6 (by omega) rfl (by omega)⟩
    | succ i => simp [PT] at hi) (nocs_pT d 17) ⟨by simp, by simp⟩ (starts_pT d false)
  have Hnew := Lib.hid (world_new hin)
  have Hfz := Lib.hid hfz
  clear hz1 hz1' hfz hb1 hb0 hin
  refine Hnew.out.mono ?_
  rintro e w0 ⟨wb, S0, L, rfl, hf0, ha0, hs0, hsame⟩
  obtain rfl := SameP.eq (nocs_pT d 17) hsame
  have hg0 : TimesR W w0 wb d false (.slice none 0 0) 0 ws0 [] := ⟨inv_start d false, ⟨_, S0, Nob, Hfz.out.trans0 hf0, ha0.mono (by omega) (by omega), fun q a => .inr (by have := hs0 q a; have := Hfz.out.size; omega), Sl.nil _ _ _ _, fun q a => a.elim⟩, by simp⟩
  have Hg0 := Lib.hid hg0
  have Hok := Lib.hid (fun dr => pgok1 (nocs_pT d 17) (plain_pT d false) dr)
  clear hf0 ha0 hs0 hsame hg0 Hnew
  go_wp2_with fail
  go_loopw [11, 12] (fun lv i wr => ∃ (k : Nat) (st : WS) (lk : List Ev), k ≤ n ∧ i = .int .i64 k ∧ Hid (TimesR W wr wb d false lv k st lk)) (fun _ i _ => n - (intOf i).toNat)
  case atStart => exact ⟨0, ws0, [], Nat.zero_le _, rfl, Hg0⟩
  case round =>
    obtain ⟨k, st, lk, hk, rfl, hr⟩ := hrel
    by_cases hlt : k < n
    · obtain ⟨x, hx⟩ : ∃ x, l[k]? = some x := ⟨l[k]'(by rw [Hn.out]; exact hlt), by simp⟩
      obtain ⟨hinv, ⟨B1, S1, T1, f1, a1, u1, e1, t1⟩, hlen⟩ := hr.out
      obtain ⟨s, hs, hinv'⟩ := inv_step h1 h2 (by omega) hinv x
      obtain ⟨g, o, rfl, hgl, hc⟩ := HA.out (by omega)
      have hq : ∀ j u, j < 3 → (enEn x)[j]? = some u → wr.cell? ⟨g, o + (k * 3 + j), none⟩ = some u := fun j u hj hu => f1.cell (p := ⟨g, o + (k * 3 + j), none⟩) (fun q => q) (hc _ _ ((enGet l k j x hx hj).trans hu))
      have q0 := hq 0 _ (by omega) rfl
      have q1 := hq 1 _ (by omega) rfl
      have q2 := hq 2 _ (by omega) rfl
      rw [← Nat.add_assoc] at q1 q2
      rw [Nat.add_zero] at q0
      obtain ⟨x0, x1, x2⟩ := x
      dsimp only at q0 q1 q2
      have hki : (k : Int) < n := by omega
      have hev := step_ev hs
      have Hst := Lib.hid (world_steps doc1 a1 x0 x1 x2 (Hok.out x2) hs (by omega) (by omega))
      obtain ⟨Av, cv, rfl⟩ := e1.slice
      have Hf1 := Lib.hid f1; have Hu1 := Lib.hid u1; have He1 := Lib.hid e1; have Ht1 := Lib.hid t1; have Hinv := Lib.hid hinv'; have Hev := Lib.hid hev
      clear hq hc hx hinv f1 a1 u1 e1 t1 hs hinv' hev hr
      go_wp2_with fail
      refine Hst.out.mono ?_
      rintro e w2 ⟨v2, rfl, hg2⟩
      have Hg2 := Lib.hid hg2
      obtain ⟨B2, S2, T2, f2, a2, u2, e2, t2⟩ := hg2
      have He2 := Lib.hid e2.rd
      have He1' := Lib.hid (He1.out.fr f2 fun q a b => (Ht1.out q a).2.2 b)
      clear f2 a2 u2 e2 t2 q0 q1 q2
      go_wp2_with (at_builtin; refine wpList_append_rd _ rfl _ _ _ rfl T1 43 _ 6 48 Tryz.underlying34 Tryz.info_clone_evs rfl (by omega) (.slice Av lk.length cv) lk.length (evs lk) rfl He1'.out v2 s.ev.length (evs s.ev) rfl He2.out (evs_one _) (by omega) (by have := Hev.out; omega) ?_; intro v3 w3 hs3 hf3; have Hs3 := Lib.hid hs3; have Hf3 := Lib.hid hf3; clear hs3 hf3)
      go_roundw
      case rel =>
        refine ⟨k + 1, s, lk ++ s.ev, by omega, by go_num, Lib.hid ⟨by rw [toldL_app]; exact Hinv.out, ?_, by rw [List.length_append]; have := Hev.out; omega⟩⟩
        have q := Gath.join (l := lk) Hf1.out Hu1.out Ht1.out Hg2.out Hf3.out Hs3.out rfl
        obtain ⟨B3, S3, T3, f3, a3, u3, e3, t3⟩ := q
        exact ⟨B3, S3, T3, f3, a3.mono (by omega) (by unfold costN; split <;> omega), u3, e3, t3⟩
      case measure => simp [intOf]; omega
    · obtain rfl : k = n := by omega
      obtain ⟨hinv, ⟨B1, S1, T1, f1, a1, u1, e1, t1⟩, hlen⟩ := hr.out
      obtain ⟨hgrp, hch⟩ := hinv.good
      have Htold := Lib.hid (order_told wr _ lk lk.length rfl (by omega) e1.rd 0)
      have Hf1 := Lib.hid f1; have Ha1 := Lib.hid a1; have Hgrp := Lib.hid hgrp; have Hch := Lib.hid hch
      have hTl : (toldL 0 lk).length ≤ lk.length := by unfold toldL; rw [List.length_map]; exact List.length_filter_le _ _
      clear hinv f1 a1 u1 e1 t1 hgrp hch hr
      go_wp2_with fail
      refine Htold.out.mono ?_
      rintro e w1 ⟨tv, rfl, hf2, ht2⟩
      generalize toldL 0 lk = T at *
      obtain ⟨_, hTmax, At, ct, rfl, hct1, hct2, hAt⟩ := ht2
      generalize hN : T.length = N at *
      have HN := Lib.hid hN; have HAt := Lib.hid hAt; have Hf2 := Lib.hid (Hf1.out.trans0 hf2); have Ha2 := Lib.hid (Ha1.out.fr0 hf2)
      clear hN hAt hf2 Htold Hf1 Ha1
      go_wp2_with fail
      go_loopw [14, 15] (fun la i wr => ∃ (p : Nat) (last : Int) (fst : Bool), p ≤ N ∧ i = .int .i64 p ∧ la = .int .i64 last ∧ Hid (Fr Nob w1 wr ∧ grp d false last fst (T.drop p) ∧ (fst = true → p = 0))) (fun _ i _ => N - (intOf i).toNat)
      case atStart => exact ⟨0, -1, true, Nat.zero_le _, rfl, rfl, Lib.hid ⟨Fr.refl _ _, by simpa using Hgrp.out, fun _ => rfl⟩⟩
      case round =>
        obtain ⟨p, last, fst, hp, rfl, rfl, hq⟩ := hrel
        obtain ⟨p1, hp1⟩ : ∃ p1, p1 = p + 1 := ⟨_, rfl⟩
        obtain ⟨p2, hp2⟩ : ∃ p2, p2 = p + 2 := ⟨_, rfl⟩
        obtain ⟨p3, hp3⟩ : ∃ p3, p3 = p + 3 := ⟨_, rfl⟩
        obtain ⟨p4, hp4⟩ : ∃ p4, p4 = p + 4 := ⟨_, rfl⟩
        have u1 : IntKind.i64.wrap ((p : Int) + 1) = (p1 : Int) := by rw [IntWalk.i64_in _ (by omega)]; omega
        have u2 : IntKind.i64.wrap ((p : Int) + 2) = (p2 : Int) := by rw [IntWalk.i64_in _ (by omega)]; omega
        have u3 : IntKind.i64.wrap ((p : Int) + 3) = (p3 : Int) := by rw [IntWalk.i64_in _ (by omega)]; omega
        have u4 : IntKind.i64.wrap ((p : Int) + 4) = (p4 : Int) := by rw [IntWalk.i64_in _ (by omega)]; omega
        by_cases hlt : p3 < N
        · obtain ⟨hfr, hg, hfst⟩ := hq.out
          have hd4 : ∃ y0 y1 y2 y3, T.drop p = y0 :: y1 :: y2 :: y3 :: T.drop p4 ∧ T[p]? = some y0 ∧ T[p1]? = some y1 ∧ T[p2]? = some y2 ∧ T[p3]? = some y3 := by
            have hNl := HN.out
            subst hp1; subst hp2; subst hp3; subst hp4
            exact ⟨T[p]'(by omega), T[p + 1]'(by omega), T[p + 2]'(by omega), T[p + 3]'(by omega), by
              rw [List.drop_eq_getElem_cons (by omega : p < T.length), List.drop_eq_getElem_cons (by omega : p + 1 < T.length), List.drop_eq_getElem_cons (by omega : p + 1 + 1 < T.length), List.drop_eq_getElem_cons (by omega : p + 1 + 1 + 1 < T.length)], List.getElem?_eq_getElem _, List.getElem?_eq_getElem _, List.getElem?_eq_getElem _, List.getElem?_eq_getElem _⟩
          obtain ⟨y0, y1, y2, y3, hdr, k0, k1, k2, k3⟩ := hd4
          rw [hdr] at hg
          obtain ⟨⟨c1, c2, c3, rfl, rfl, c4⟩, hg'⟩ := hg
          obtain ⟨gt, ot, rfl, hgtl, hct⟩ := HAt.out (by omega)
          have r0 := hfr.cell (p := ⟨gt, ot + p, none⟩) (fun q => q) (hct p (inV y0) (by simp [ints, k0]))
          have r1 := hfr.cell (p := ⟨gt, ot + p1, none⟩) (fun q => q) (hct p1 (inV y1) (by simp [ints, k1]))
          have r2 := hfr.cell (p := ⟨gt, ot + p2, none⟩) (fun q => q) (hct p2 (inV 0) (by simp [ints, k2]))
          have r3 := hfr.cell (p := ⟨gt, ot + p3, none⟩) (fun q => q) (hct p3 (inV 0) (by simp [ints, k3]))
          have i0 : (p : Int) < N := by omega
          have i1 : (p1 : Int) < N := by omega
          have i2 : (p2 : Int) < N := by omega
          have i3 : (p3 : Int) < N := by omega
          have m1 : decide (y1 < y0) = false := decide_eq_false (by omega)
          have m2 : decide (y0 < d) = false := decide_eq_false (by omega)
          have m3 : decide (y0 ≤ last) = false := decide_eq_false (by omega)
          have hp0 : p = 0 := by rcases c4 with e | e; exact hfst e; cases e
          have ip : decide (0 < p) = false := decide_eq_false (by omega)
          clear hp0 c4 hfst
          have Hg' := Lib.hid hg'; have Hfr := Lib.hid hfr
          have s1 : (p : Int) + 1 = (p1 : Int) := by omega
          have s2 : (p : Int) + 2 = (p2 : Int) := by omega
          have s3 : (p : Int) + 3 = (p3 : Int) := by omega
          have s4 : (p : Int) + 4 = (p4 : Int) := by omega
          have v1 : IntKind.i64.wrap (p1 : Int) = (p1 : Int) := IntWalk.i64_in _ (by omega)
          have v2 : IntKind.i64.wrap (p2 : Int) = (p2 : Int) := IntWalk.i64_in _ (by omega)
          have v3 : IntKind.i64.wrap (p3 : Int) = (p3 : Int) := IntWalk.i64_in _ (by omega)
          have v4 : IntKind.i64.wrap (p4 : Int) = (p4 : Int) := IntWalk.i64_in _ (by omega)
          have Hp4 := Lib.hid hp4; have Hlt := Lib.hid hlt; have Hp3 := Lib.hid hp3
          clear hp1 hp2 hp3 hp4
          clear hg' hfr hct hdr k0 k1 k2 k3 c1 c2 c3 hq
          go_wp2_with fail
          go_quiet (fail)
          obtain ⟨wq, hwq⟩ : ∃ wq, wq = wr.drewN nq := ⟨_, rfl⟩
          rw [← hwq]
          have hfq := Fr.ofDrew ⟨nq, hwq⟩
          have r0 := hfq.cell (p := ⟨gt, ot + p, none⟩) (fun q => q) r0
          have Hfq := Lib.hid (Hfr.out.trans0 hfq)
          clear hwq hfq r1 r2 r3
          go_wp2_with fail
          go_roundw
          case rel => exact ⟨p4, y0, false, by have := Hp4.out; have := Hp3.out; have := Hlt.out; omega, by rfl, by rfl, Lib.hid ⟨Hfq.out, Hg'.out, fun q => by cases q⟩⟩
          case measure => have := Hp4.out; have := Hp3.out; have := Hlt.out; simp [intOf]; omega
        · have i3 : ¬ (p3 : Int) < N := by omega
          have hfr := hq.out.1
          have Hfr := Lib.hid (Hf2.out.trans0 hfr); have Hwt := Lib.hid (Ha2.out.fr0 hfr)
          clear hq hfr
          rcases Hch.out with hn0 | ⟨hn1, q, rv, hch0⟩
          · have Hc := Lib.hid (fun W (hW : Fr Nob wr W) => world_chanNo (Hwt.out.fr0 hW) 0 (by omega))
            clear hn0
            go_wp2_with fail
            refine (Hc.out _ (Fr.refl _ _)).mono ?_
            rintro e _ ⟨rfl, rfl⟩
            go_wp2_with fail
            refine (len_nil _).mono ?_
            rintro e _ ⟨rfl, rfl⟩
            go_wp2_with fail
            refine (Hc.out _ (Fr.refl _ _)).mono ?_
            rintro e _ ⟨rfl, rfl⟩
            go_wp2_with fail
            refine (cap_nil _).mono ?_
            rintro e _ ⟨rfl, rfl⟩
            go_wp2_with fail
            refine (top_awake _).mono ?_
            rintro e w9 ⟨rfl, hf9⟩
            go_wp2_with fail
            go_ret
            exact ⟨rfl, ((Hfr.out.trans0 hf9).below (Nat.le_refl _) fun _ q => q.elim)⟩
          · have Hc := Lib.hid (fun W (hW : Fr Nob wr W) => world_chanAt (Hwt.out.fr0 hW) 0 (by omega))
            have Hl := Lib.hid (Hwt.out.len hch0 (by omega) 0 rfl)
            have Hcp := Lib.hid (Hwt.out.cap hch0 (by omega) 0 rfl)
            clear hn1 hch0
            go_wp2_with fail
            refine (Hc.out _ (Fr.refl _ _)).mono ?_
            rintro e _ ⟨rfl, rfl⟩
            go_wp2_with fail
            refine Hl.out.mono ?_
            rintro e _ ⟨rfl, rfl⟩
            go_wp2_with fail
            refine (Hc.out _ (Fr.refl _ _)).mono ?_
            rintro e _ ⟨rfl, rfl⟩
            go_wp2_with fail
            refine Hcp.out.mono ?_
            rintro e _ ⟨rfl, rfl⟩
            go_wp2_with fail
            refine (top_awake _).mono ?_
            rintro e w9 ⟨rfl, hf9⟩
            go_wp2_with fail
            go_ret
            exact ⟨rfl, ((Hfr.out.trans0 hf9).below (Nat.le_refl _) fun _ q => q.elim)⟩
set_option maxHeartbeats 4000000 in
theorem topTimes_true (d : Int) (v : Value) (l : List En) (n : Nat) (hn : l.length = n) (W : World) (h1 : 1 ≤ d) (h2 : d ≤ 1000) (hl : n ≤ 150) (hrd : Rd W 3 v n (l.flatMap enEn)) :
    Calls Tryz.prog 6 #[inV d, .bool true, v] W fun e w' => e = .returned (.bool true) ∧ Below W.heap.size W w' := by
  obtain ⟨_, hmax, A, c, rfl, hc1, hc2, hA⟩ := hrd
  have g1 : ¬ d < 1 := by omega
  have g2 : ¬ 1000 < d := by omega
  have g3 : ¬ (150 : Int) < n := by omega
  have HA := Lib.hid hA; have Hn := Lib.hid hn
  clear hA hn
  go_enter Tryz.func6, Tryz.ntmps6
  go_wp2_with fail
  obtain ⟨z1, hz1⟩ : ∃ z1, z1 = (W.alloc (.cells ((pT d 18).flatMap insEn).toArray 25)).alloc (.cells #[.slice (some ⟨W.heap.size, 0, none⟩) 11 11] 28) := ⟨_, rfl⟩
  have hz1' := hz1
  simp only [pT, ins, insEn, List.flatMap_cons, List.flatMap_nil, List.cons_append, List.nil_append] at hz1'
  rw [← hz1']
  have hfz : Fr Nob W z1 := by rw [hz1]; exact ((Fr.refl Nob W).alloc _).alloc _
  have hb1 : z1.heap[W.heap.size + 1]? = some (.cells [.slice (some ⟨W.heap.size, 0, none⟩) 11 11].toArray 28 (0, 0)) := by rw [hz1]; exact blk_alloc_eq _ (by simp)
  have hb0 : z1.heap[W.heap.size]? = some (.cells ((pT d 18).flatMap insEn).toArray 25 (0, 0)) := by rw [hz1, blk_alloc_ne _ (by simp)]; exact heap_alloc_new _ _
  have hin : PgIn z1 (.slice (some ⟨W.heap.size + 1, 0, none⟩) 1 1) (PT d true) [.slice (some ⟨W.heap.size, 0, none⟩) 11 11] := PgIn.of rfl (rd_lit hb1 1 1 (by omega) rfl (by omega)) (fun i p hi => by
    cases i with
    | zero => simp [PT] at hi; subst hi; exact ⟨_, rfl, rd_lit hb0 11 6 (by omega) rfl (by omega)⟩
    | succ i => simp [PT] at hi) (nocs_pT d 18) ⟨by simp, by simp⟩ (starts_pT d true)
  have Hnew := Lib.hid (world_new hin)
  have Hfz := Lib.hid hfz
  clear hz1 hz1' hfz hb1 hb0 hin
  refine Hnew.out.mono ?_
  rintro e w0 ⟨wb, S0, L, rfl, hf0, ha0, hs0, hsame⟩
  obtain rfl := SameP.eq (nocs_pT d 18) hsame
  have hg0 : TimesR W w0 wb d true (.slice none 0 0) 0 ws0 [] := ⟨inv_start d true, ⟨_, S0, Nob, Hfz.out.trans0 hf0, ha0.mono (by omega) (by omega), fun q a => .inr (by have := hs0 q a; have := Hfz.out.size; omega), Sl.nil _ _ _ _, fun q a => a.elim⟩, by simp⟩
  have Hg0 := Lib.hid hg0
  have Hok := Lib.hid (fun dr => pgok1 (nocs_pT d 18) (plain_pT d true) dr)
  clear hf0 ha0 hs0 hsame hg0 Hnew
  go_wp2_with fail
  go_loopw [11, 12] (fun lv i wr => ∃ (k : Nat) (st : WS) (lk : List Ev), k ≤ n ∧ i = .int .i64 k ∧ Hid (TimesR W wr wb d true lv k st lk)) (fun _ i _ => n - (intOf i).toNat)
  case atStart => exact ⟨0, ws0, [], Nat.zero_le _, rfl, Hg0⟩
  case round =>
    obtain ⟨k, st, lk, hk, rfl, hr⟩ := hrel
    by_cases hlt : k < n
    · obtain ⟨x, hx⟩ : ∃ x, l[k]? = some x := ⟨l[k]'(by rw [Hn.out]; exact hlt), by simp⟩
      obtain ⟨hinv, ⟨B1, S1, T1, f1, a1, u1, e1, t1⟩, hlen⟩ := hr.out
      obtain ⟨s, hs, hinv'⟩ := inv_step h1 h2 (by omega) hinv x
      obtain ⟨g, o, rfl, hgl, hc⟩ := HA.out (by omega)
      have hq : ∀ j u, j < 3 → (enEn x)[j]? = some u → wr.cell? ⟨g, o + (k * 3 + j), none⟩ = some u := fun j u hj hu => f1.cell (p := ⟨g, o + (k * 3 + j), none⟩) (fun q => q) (hc _ _ ((enGet l k j x hx hj).trans hu))
      have q0 := hq 0 _ (by omega) rfl
      have q1 := hq 1 _ (by omega) rfl
      have q2 := hq 2 _ (by omega) rfl
      rw [← Nat.add_assoc] at q1 q2
      rw [Nat.add_zero] at q0
      obtain ⟨x0, x1, x2⟩ := x
      dsimp only at q0 q1 q2
      have hki : (k : Int) < n := by omega
      have hev := step_ev hs
      have Hst := Lib.hid (world_steps doc1 a1 x0 x1 x2 (Hok.out x2) hs (by omega) (by omega))
      obtain ⟨Av, cv, rfl⟩ := e1.slice
      have Hf1 := Lib.hid f1; have Hu1 := Lib.hid u1; have He1 := Lib.hid e1; have Ht1 := Lib.hid t1; have Hinv := Lib.hid hinv'; have Hev := Lib.hid hev
      clear hq hc hx hinv f1 a1 u1 e1 t1 hs hinv' hev hr
      go_wp2_with fail
      refine Hst.out.mono ?_
      rintro e w2 ⟨v2, rfl, hg2⟩
      have Hg2 := Lib.hid hg2
      obtain ⟨B2, S2, T2, f2, a2, u2, e2, t2⟩ := hg2
      have He2 := Lib.hid e2.rd
      have He1' := Lib.hid (He1.out.fr f2 fun q a b => (Ht1.out q a).2.2 b)
      clear f2 a2 u2 e2 t2 q0 q1 q2
      go_wp2_with (at_builtin; refine wpList_append_rd _ rfl _ _ _ rfl T1 43 _ 6 48 Tryz.underlying34 Tryz.info_clone_evs rfl (by omega) (.slice Av lk.length cv) lk.length (evs lk) rfl He1'.out v2 s.ev.length (evs s.ev) rfl He2.out (evs_one _) (by omega) (by have := Hev.out; omega) ?_; intro v3 w3 hs3 hf3; have Hs3 := Lib.hid hs3; have Hf3 := Lib.hid hf3; clear hs3 hf3)
      go_roundw
      case rel =>
        refine ⟨k + 1, s, lk ++ s.ev, by omega, by go_num, Lib.hid ⟨by rw [toldL_app]; exact Hinv.out, ?_, by rw [List.length_append]; have := Hev.out; omega⟩⟩
        have q := Gath.join (l := lk) Hf1.out Hu1.out Ht1.out Hg2.out Hf3.out Hs3.out rfl
        obtain ⟨B3, S3, T3, f3, a3, u3, e3, t3⟩ := q
        exact ⟨B3, S3, T3, f3, a3.mono (by omega) (by unfold costN; split <;> omega), u3, e3, t3⟩
      case measure => simp [intOf]; omega
    · obtain rfl : k = n := by omega
      obtain ⟨hinv, ⟨B1, S1, T1, f1, a1, u1, e1, t1⟩, hlen⟩ := hr.out
      obtain ⟨hgrp, hch⟩ := hinv.good
      have Htold := Lib.hid (order_told wr _ lk lk.length rfl (by omega) e1.rd 0)
      have Hf1 := Lib.hid f1; have Ha1 := Lib.hid a1; have Hgrp := Lib.hid hgrp; have Hch := Lib.hid hch
      have hTl : (toldL 0 lk).length ≤ lk.length := by unfold toldL; rw [List.length_map]; exact List.length_filter_le _ _
      clear hinv f1 a1 u1 e1 t1 hgrp hch hr
      go_wp2_with fail
      refine Htold.out.mono ?_
      rintro e w1 ⟨tv, rfl, hf2, ht2⟩
      generalize toldL 0 lk = T at *
      obtain ⟨_, hTmax, At, ct, rfl, hct1, hct2, hAt⟩ := ht2
      generalize hN : T.length = N at *
      have HN := Lib.hid hN; have HAt := Lib.hid hAt; have Hf2 := Lib.hid (Hf1.out.trans0 hf2); have Ha2 := Lib.hid (Ha1.out.fr0 hf2)
      clear hN hAt hf2 Htold Hf1 Ha1
      go_wp2_with fail
      go_loopw [14, 15] (fun la i wr => ∃ (p : Nat) (last : Int) (fst : Bool), p ≤ N ∧ i = .int .i64 p ∧ la = .int .i64 last ∧ Hid (Fr Nob w1 wr ∧ grp d true last fst (T.drop p) ∧ (fst = true → p = 0))) (fun _ i _ => N - (intOf i).toNat)
      case atStart => exact ⟨0, -1, true, Nat.zero_le _, rfl, rfl, Lib.hid ⟨Fr.refl _ _, by simpa using Hgrp.out, fun _ => rfl⟩⟩
      case round =>
        obtain ⟨p, last, fst, hp, rfl, rfl, hq⟩ := hrel
        obtain ⟨p1, hp1⟩ : ∃ p1, p1 = p + 1 := ⟨_, rfl⟩
        obtain ⟨p2, hp2⟩ : ∃ p2, p2 = p + 2 := ⟨_, rfl⟩
        obtain ⟨p3, hp3⟩ : ∃ p3, p3 = p + 3 := ⟨_, rfl⟩
        obtain ⟨p4, hp4⟩ : ∃ p4, p4 = p + 4 := ⟨_, rfl⟩
        have u1 : IntKind.i64.wrap ((p : Int) + 1) = (p1 : Int) := by rw [IntWalk.i64_in _ (by omega)]; omega
        have u2 : IntKind.i64.wrap ((p : Int) + 2) = (p2 : Int) := by rw [IntWalk.i64_in _ (by omega)]; omega
        have u3 : IntKind.i64.wrap ((p : Int) + 3) = (p3 : Int) := by rw [IntWalk.i64_in _ (by omega)]; omega
        have u4 : IntKind.i64.wrap ((p : Int) + 4) = (p4 : Int) := by rw [IntWalk.i64_in _ (by omega)]; omega
        by_cases hlt : p3 < N
        · obtain ⟨hfr, hg, hfst⟩ := hq.out
          have hd4 : ∃ y0 y1 y2 y3, T.drop p = y0 :: y1 :: y2 :: y3 :: T.drop p4 ∧ T[p]? = some y0 ∧ T[p1]? = some y1 ∧ T[p2]? = some y2 ∧ T[p3]? = some y3 := by
            have hNl := HN.out
            subst hp1; subst hp2; subst hp3; subst hp4
            exact ⟨T[p]'(by omega), T[p + 1]'(by omega), T[p + 2]'(by omega), T[p + 3]'(by omega), by
              rw [List.drop_eq_getElem_cons (by omega : p < T.length), List.drop_eq_getElem_cons (by omega : p + 1 < T.length), List.drop_eq_getElem_cons (by omega : p + 1 + 1 < T.length), List.drop_eq_getElem_cons (by omega : p + 1 + 1 + 1 < T.length)], List.getElem?_eq_getElem _, List.getElem?_eq_getElem _, List.getElem?_eq_getElem _, List.getElem?_eq_getElem _⟩
          obtain ⟨y0, y1, y2, y3, hdr, k0, k1, k2, k3⟩ := hd4
          rw [hdr] at hg
          obtain ⟨⟨c1, c2, c3, rfl, rfl, c4⟩, hg'⟩ := hg
          obtain ⟨gt, ot, rfl, hgtl, hct⟩ := HAt.out (by omega)
          have r0 := hfr.cell (p := ⟨gt, ot + p, none⟩) (fun q => q) (hct p (inV y0) (by simp [ints, k0]))
          have r1 := hfr.cell (p := ⟨gt, ot + p1, none⟩) (fun q => q) (hct p1 (inV y1) (by simp [ints, k1]))
          have r2 := hfr.cell (p := ⟨gt, ot + p2, none⟩) (fun q => q) (hct p2 (inV 0) (by simp [ints, k2]))
          have r3 := hfr.cell (p := ⟨gt, ot + p3, none⟩) (fun q => q) (hct p3 (inV 0) (by simp [ints, k3]))
          have i0 : (p : Int) < N := by omega
          have i1 : (p1 : Int) < N := by omega
          have i2 : (p2 : Int) < N := by omega
          have i3 : (p3 : Int) < N := by omega
          have m1 : decide (y1 < y0) = false := decide_eq_false (by omega)
          have m2 : decide (y0 < d) = false := decide_eq_false (by omega)
          have m3 : decide (y0 ≤ last) = false := decide_eq_false (by omega)
          clear c4 hfst
          by_cases ip' : (0 : Int) < p
          · have ip : decide (0 < p) = true := decide_eq_true (by omega)
            clear ip'
            have Hg' := Lib.hid hg'; have Hfr := Lib.hid hfr
            have s1 : (p : Int) + 1 = (p1 : Int) := by omega
            have s2 : (p : Int) + 2 = (p2 : Int) := by omega
            have s3 : (p : Int) + 3 = (p3 : Int) := by omega
            have s4 : (p : Int) + 4 = (p4 : Int) := by omega
            have v1 : IntKind.i64.wrap (p1 : Int) = (p1 : Int) := IntWalk.i64_in _ (by omega)
            have v2 : IntKind.i64.wrap (p2 : Int) = (p2 : Int) := IntWalk.i64_in _ (by omega)
            have v3 : IntKind.i64.wrap (p3 : Int) = (p3 : Int) := IntWalk.i64_in _ (by omega)
            have v4 : IntKind.i64.wrap (p4 : Int) = (p4 : Int) := IntWalk.i64_in _ (by omega)
            have Hp4 := Lib.hid hp4; have Hlt := Lib.hid hlt; have Hp3 := Lib.hid hp3
            clear hp1 hp2 hp3 hp4
            clear hg' hfr hct hdr k0 k1 k2 k3 c1 c2 c3 hq
            go_wp2_with fail
            go_quiet (fail)
            obtain ⟨wq, hwq⟩ : ∃ wq, wq = wr.drewN nq := ⟨_, rfl⟩
            rw [← hwq]
            have hfq := Fr.ofDrew ⟨nq, hwq⟩
            have r0 := hfq.cell (p := ⟨gt, ot + p, none⟩) (fun q => q) r0
            have Hfq := Lib.hid (Hfr.out.trans0 hfq)
            clear hwq hfq r1 r2 r3
            go_wp2_with fail
            go_roundw
            case rel => exact ⟨p4, y0, false, by have := Hp4.out; have := Hp3.out; have := Hlt.out; omega, by rfl, by rfl, Lib.hid ⟨Hfq.out, Hg'.out, fun q => by cases q⟩⟩
            case measure => have := Hp4.out; have := Hp3.out; have := Hlt.out; simp [intOf]; omega
          · have ip : decide (0 < p) = false := decide_eq_false (by omega)
            clear ip'
            have Hg' := Lib.hid hg'; have Hfr := Lib.hid hfr
            have s1 : (p : Int) + 1 = (p1 : Int) := by omega
            have s2 : (p : Int) + 2 = (p2 : Int) := by omega
            have s3 : (p : Int) + 3 = (p3 : Int) := by omega
            have s4 : (p : Int) + 4 = (p4 : Int) := by omega
            have v1 : IntKind.i64.wrap (p1 : Int) = (p1 : Int) := IntWalk.i64_in _ (by omega)
            have v2 : IntKind.i64.wrap (p2 : Int) = (p2 : Int) := IntWalk.i64_in _ (by omega)
            have v3 : IntKind.i64.wrap (p3 : Int) = (p3 : Int) := IntWalk.i64_in _ (by omega)
            have v4 : IntKind.i64.wrap (p4 : Int) = (p4 : Int) := IntWalk.i64_in _ (by omega)
            have Hp4 := Lib.hid hp4; have Hlt := Lib.hid hlt; have Hp3 := Lib.hid hp3
            clear hp1 hp2 hp3 hp4
            clear hg' hfr hct hdr k0 k1 k2 k3 c1 c2 c3 hq
            go_wp2_with fail
            go_quiet (fail)
            obtain ⟨wq, hwq⟩ : ∃ wq, wq = wr.drewN nq := ⟨_, rfl⟩
            rw [← hwq]
            have hfq := Fr.ofDrew ⟨nq, hwq⟩
            have r0 := hfq.cell (p := ⟨gt, ot + p, none⟩) (fun q => q) r0
            have Hfq := Lib.hid (Hfr.out.trans0 hfq)
            clear hwq hfq r1 r2 r3
            go_wp2_with fail
            go_roundw
            case rel => exact ⟨p4, y0, false, by have := Hp4.out; have := Hp3.out; have := Hlt.out; omega, by rfl, by rfl, Lib.hid ⟨Hfq.out, Hg'.out, fun q => by cases q⟩⟩
            case measure => have := Hp4.out; have := Hp3.out; have := Hlt.out; simp [intOf]; omega
        · have i3 : ¬ (p3 : Int) < N := by omega
          have hfr := hq.out.1
          have Hfr := Lib.hid (Hf2.out.trans0 hfr); have Hwt := Lib.hid (Ha2.out.fr0 hfr)
          clear hq hfr
          rcases Hch.out with hn0 | ⟨hn1, q, rv, hch0⟩
          · have Hc := Lib.hid (fun W (hW : Fr Nob wr W) => world_chanNo (Hwt.out.fr0 hW) 0 (by omega))
            clear hn0
            go_wp2_with fail
            refine (Hc.out _ (Fr.refl _ _)).mono ?_
            rintro e _ ⟨rfl, rfl⟩
            go_wp2_with fail
            refine (len_nil _).mono ?_
            rintro e _ ⟨rfl, rfl⟩
            go_wp2_with fail
            refine (Hc.out _ (Fr.refl _ _)).mono ?_
            rintro e _ ⟨rfl, rfl⟩
            go_wp2_with fail
            refine (cap_nil _).mono ?_
            rintro e _ ⟨rfl, rfl⟩
            go_wp2_with fail
            refine (top_awake _).mono ?_
            rintro e w9 ⟨rfl, hf9⟩
            go_wp2_with fail
            go_ret
            exact ⟨rfl, ((Hfr.out.trans0 hf9).below (Nat.le_refl _) fun _ q => q.elim)⟩
          · have Hc := Lib.hid (fun W (hW : Fr Nob wr W) => world_chanAt (Hwt.out.fr0 hW) 0 (by omega))
            have Hl := Lib.hid (Hwt.out.len hch0 (by omega) 0 rfl)
            have Hcp := Lib.hid (Hwt.out.cap hch0 (by omega) 0 rfl)
            clear hn1 hch0
            go_wp2_with fail
            refine (Hc.out _ (Fr.refl _ _)).mono ?_
            rintro e _ ⟨rfl, rfl⟩
            go_wp2_with fail
            refine Hl.out.mono ?_
            rintro e _ ⟨rfl, rfl⟩
            go_wp2_with fail
            refine (Hc.out _ (Fr.refl _ _)).mono ?_
            rintro e _ ⟨rfl, rfl⟩
            go_wp2_with fail
            refine Hcp.out.mono ?_
            rintro e _ ⟨rfl, rfl⟩
            go_wp2_with fail
            refine (top_awake _).mono ?_
            rintro e w9 ⟨rfl, hf9⟩
            go_wp2_with fail
            go_ret
            exact ⟨rfl, ((Hfr.out.trans0 hf9).below (Nat.le_refl _) fun _ q => q.elim)⟩
theorem topTimes_walk (a0 : Int) (a1 : Bool) (v2 : Value) (x2 : List En) (W : World) (w0 : (Lit.int .i64 a0).wf = true) (g2 : IsEntries W v2 x2) :
    Calls Tryz.prog 6 #[.int .i64 a0, .bool a1, v2] W fun e w' => e = .returned (.bool true) ∧ Below W.heap.size W w' := by
  by_cases hbad : a0 < 1 ∨ 1000 < a0 ∨ 150 < x2.length
  · obtain ⟨_, _, A, c, rfl, _⟩ := g2.1
    exact topTimes_bad a0 a1 A _ c W hbad
  · cases a1 with
    | false => exact topTimes_false a0 v2 x2 _ rfl W (by omega) (by omega) (by omega) g2.1
    | true => exact topTimes_true a0 v2 x2 _ rfl W (by omega) (by omega) (by omega) g2.1
/-! The row: out of the walk above. -/
namespace topTimes
open Go.ChangeShapes Go.WideShapes Go.ChangeAt Go.RowKit
open Go.ChangeMaps (open_string shut_string)
theorem own : ownKnob Tryz.prog.godebug = none := by kernel_rfl
theorem laidOut : laidOutB Tryz.prog = true := by kernel_rfl
set_option maxRecDepth 100000 in
theorem lifted (os : Os) (started : os.Started) (H : Type) (enc : TypeId × Value → H) :
    ReturnsInHanded {} Tryz.checked os 6 .any (Rows.topTimesSpec.pre6 enc Tryz.prog Tryz.f6 Rows.topTimesRow.domain false) (Rows.topTimesSpec.post enc Tryz.prog Tryz.f6 false true false false) := by
  refine returnsInHanded_of_change (C := Tryz.checked) own started (by kernel_rfl) Tryz.func6
    (ChangeSpec.witness6 (enc := enc) (C := Tryz.checked) false ⟨#[], #[.int .i64 0, .bool false, .slice none 0 0], []⟩ 8 (by kernel_rfl) (by kernel_rfl) (by kernel_rfl) (by kernel_rfl)) ?_
  intro W base args ds gs before hval0 hW hcnd _
  have hval : ∀ (j : Nat) t v, Tryz.f6.params[j]? = some t → args[j]? = some v → Value.okWide Tryz.prog W .any base t v := hval0
  have hW' := hW
  obtain ⟨p, q, hA0, hV, rfl, hfz, hnd⟩ := hW
  have hA : DataW.TrodAll enc Tryz.prog W 0 (fun _ => true) true Tryz.f6.params.toList args.toList ds p := hA0
  rw [Tryz.params6] at hA hval
  obtain ⟨v0, vs0, d0, ds0, p0, q0, hargs, rfl, rfl, h0, r0⟩ := trodAll_cons hA
  obtain ⟨v1, vs1, d1, ds1, p1, q1, rfl, rfl, rfl, h1, r1⟩ := trodAll_cons r0
  obtain ⟨v2, vs2, d2, ds2, p2, q2, rfl, rfl, rfl, h2, r2⟩ := trodAll_cons r1
  obtain ⟨rfl, rfl, rfl⟩ := trodAll_nil r2
  obtain rfl : args = #[v0, v1, v2] := by cases args; simp_all
  obtain ⟨rfl, rfl⟩ := trodVars_none hV
  obtain ⟨a0, rfl, rfl, rfl, w0⟩ := open_int Tryz.underlying3 (hval 0 3 v0 rfl rfl) h0
  obtain ⟨a1, rfl, rfl, rfl⟩ := open_bool Tryz.underlying4 (hval 1 4 v1 rfl rfl) h1
  have k2 := h2
  have lt2 : ∀ x ∈ p2, x.block < W.heap.size := by obtain ⟨m, hm⟩ := k2; exact DataW.trod_lt m _ _ _ hm
  obtain ⟨x2, g2⟩ := opn_entries (hval 2 47 v2 rfl rfl) h2
  clear hA0 hval0
  refine (topTimes_walk a0 a1 v2 x2 W w0 g2).mono fun e W' ⟨he, bel⟩ => ?_
  subst he
  exact ⟨_, rfl, _, _, _, [], _, [], hW', trodAll_mk1 (shut_bool Tryz.underlying4 _), (trodAll_cons_mk (shut_int Tryz.underlying3 w0) (trodAll_cons_mk (shut_bool Tryz.underlying4 _) (trodAll_cons_mk (Below.trod laidOut (by kernel_rfl) (of_decide_eq_true (by kernel_rfl)) k2 bel lt2) trodAll_mk0))), rfl, bel.frame _, fun h => by cases h⟩
theorem over : Rows.topTimesRow.holds Tryz.pinned (OpenSpec.ofChange Rows.topTimesSpec) :=
  OpenClaim.holds_of_wide 6 Tryz.f6 rfl rfl rfl rfl rfl rfl rfl ⟨rfl, rfl, rfl, rfl, rfl⟩ rfl rfl rfl rfl rfl (by kernel_rfl) Tryz.func6 (by kernel_rfl)
    (of_decide_eq_true (by kernel_rfl)) (by unfold Func.isWrapper; first | (rw [if_pos (by decide +kernel)]; kernel_rfl) | (rw [if_neg (by decide +kernel)]; exact ⟨rfl, rfl⟩))
    (fun os started H enc _ => lifted os started H enc)
end topTimes
/-- THE STATEMENT. -/
theorem topTimes_holds : Rows.TopTimesSaid := topTimes.over
#print axioms topTimes_holds
end Go.Proofs.YtcffplgimbbflaaGreat
