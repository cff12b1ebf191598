/- Who waits on a channel, from outside; what two laws need. -/
import Derived.Test.YtcffplgimbbflaaGreatSlQ22
set_option linter.unusedVariables false
set_option linter.unusedSimpArgs false
namespace Go.Proofs.YtcffplgimbbflaaGreat
open Go.RowKit
set_option maxRecDepth 100000
theorem info_out12 (pc : Int) (r : Nat → Int) (t : Bool) (x : Int) (e : Bool) : (Tryz.prog.info? 138).map (fun i => i.size) = some (outA pc r t x e).size := by show _ = some 12; kernel_rfl
theorem len16 {y : Ins} {n : Int} (h : goodB y n = true) : y.2.2.1.length ≤ 16 := by
  unfold goodB headB at h
  simp only [Bool.and_eq_true, decide_eq_true_eq] at h
  exact h.1.1.1.1.2
theorem csAll {y : Ins} {n : Int} (h : goodB y n = true) : ∀ z ∈ y.2.2.1, csB z = true := by
  unfold goodB at h
  simp only [Bool.and_eq_true] at h
  exact List.all_eq_true.1 h.2
theorem len512 {p : List Ins} (h : progB p = true) : p.length ≤ 1000 := by
  unfold progB at h
  simp only [Bool.and_eq_true, decide_eq_true_eq] at h
  omega
set_option maxHeartbeats 1000000 in
theorem run_idle {w : World} {S : Nat → Prop} {wb : Nat} {P : Pg} {st : WS} {nd nm : Nat} (h : WAt w S wb P st nd nm) (hnd : nd ≤ 90000000000) (n draw : Int) (hl : st.line = []) : Calls Tryz.prog 30 #[ptV wb, inV n, inV draw] w fun e w' => e = .returned (.tuple #[]) ∧ Nx w S wb P st (nd + 1) nm w' := by
  obtain ⟨F, c, h, rfl, hS⟩ := h
  obtain ⟨m, csL, hsL, hmn⟩ := h.lks id
  obtain ⟨A, cp, hvl⟩ := hsL.slice
  have hb := h.blk id
  have c2 := blk_cell hb 2 rfl
  rw [hvl] at hsL
  generalize hnl : st.line.length = nl at *
  have Hnl := Lib.hid hnl
  have Hrdy := Lib.hid (task_ready (h.tab id) nl hnl)
  have Hpk := Lib.hid (fun W (hW : Fr Nob w W) => by have q := (h.fr0 hW).tab id; rw [hl] at q; exact task_pick_none q n)
  have h70 : ¬ F 7 c.wb := fun q => absurd (h.dis _ _ _ q h.own0) (by decide)
  have H := Lib.hid h; have HS := Lib.hid hS; have HsL := Lib.hid hsL; have Hb := Lib.hid hb; have H70 := Lib.hid h70; have Hvl := Lib.hid hvl
  clear h hS hsL hb h70 hnl hvl
  go_enter Tryz.func30, Tryz.ntmps30
  go_wp2_with fail
  refine Hrdy.out.mono ?_
  rintro e w1 ⟨A1, cp1, rfl, hf1, hs1⟩
  have c21 := hf1.cell id c2
  have Hf1 := Lib.hid hf1
  clear c2 hs1 hf1
  go_wp2_with fail
  refine (Hpk.out w1 Hf1.out).mono ?_
  rintro e w2 ⟨rfl, hf2⟩
  have hf02 := Hf1.out.trans0 hf2
  have hb2 := hf02.blk id Hb.out
  have c8 := blk_cell hb2 8 rfl
  rw [Hvl.out] at c8
  have f8 := blk_froz hb2 8
  have Hf02 := Lib.hid hf02; have Hb2 := Lib.hid hb2; have Hs2 := Lib.hid (HsL.out.fr0 hf02)
  clear hf2 hf02 hb2 c21
  clear hl
  go_wp2_with (at_builtin; refine wpList_append1 _ rfl _ _ _ rfl (F 7) 134 _ 2 32 Tryz.underlying67 Tryz.info_look rfl (by omega) (.slice A m cp) m csL [.slice A1 nl cp1, inV (-1)] rfl Hs2.out rfl rfl rfl (by omega) (by omega) ?_; intro v3 w3 hs3 hf3 hz3; obtain ⟨X3, cp3, rfl⟩ := hs3.slice; have hb3 := hf3.blk H70.out Hb2.out; have d8 := blk_cell hb3 8 rfl; have g8 := blk_froz hb3 8; have Hb3 := Lib.hid hb3; have Hs3 := Lib.hid hs3; have Hf3 := Lib.hid hf3; clear hb3 hs3 hf3)
  refine bodyPost_ret (results_none Tryz.results30 _ _ _) rfl ⟨rfl, WP.looked HS.out H.out Hf02.out Hf3.out Hs3.out hmn⟩
set_option maxHeartbeats 8000000 in
theorem world_run {KO : Int → Prop} (hD : DoC KO) {w : World} {S : Nat → Prop} {wb : Nat} {P : Pg} {st : WS} {nd nm : Nat} (h : WAt w S wb P st nd nm) (hfew : st.few = true) (hnd : nd ≤ 90000000000) (hnm : nm < 690000) (n draw : Int) {s : WS} (hs : st.run P.1 n draw = some s)
    (hKO : ∀ p ∈ P.1, ∀ y ∈ p, mineB y.1.1 = false → KO y.1.1) :
    Calls Tryz.prog 30 #[ptV wb, inV n, inV draw] w fun e w' => e = .returned (.tuple #[]) ∧ ∃ B', Nx w S wb (P.1, B') s (nd + 2001) (nm + 10) w' := by
  by_cases hl : st.line = []
  · have e : st.run P.1 n draw = some st := by unfold WS.run; rw [hl]
    obtain rfl : st = s := by rw [e] at hs; exact Option.some.inj hs
    refine (run_idle h hnd n draw hl).mono ?_
    rintro e w' ⟨rfl, hn⟩
    exact ⟨rfl, P.2, hn.mono (by omega) (by omega)⟩
  obtain ⟨i, t, d, pi, k, p, hid, hi, ht2, ht0, hp, ht1, hkp, hgp, hcase⟩ := run_some hs hl
  have hl0 : 0 < st.line.length := List.length_pos_iff.2 hl
  have h0 := h
  obtain ⟨F, c, h, rfl, hS⟩ := h
  obtain ⟨m, csL, hsL, hmn⟩ := h.lks id
  obtain ⟨A, cp, hvl⟩ := hsL.slice
  have hb := h.blk id
  have c2 := blk_cell hb 2 rfl
  rw [hvl] at hsL
  generalize hnl : st.line.length = nl at *
  have Hnl := Lib.hid hnl
  have Hrdy := Lib.hid (task_ready (h.tab id) nl hnl)
  have Hpk := Lib.hid (fun W (hW : Fr Nob w W) => task_pick ((h.fr0 hW).tab id) n nl hnl hl0)
  have h70 : ¬ F 7 c.wb := fun q => absurd (h.dis _ _ _ q h.own0) (by decide)
  have H := Lib.hid h; have HS := Lib.hid hS; have HsL := Lib.hid hsL; have Hb := Lib.hid hb; have H70 := Lib.hid h70; have Hvl := Lib.hid hvl
  clear h hS hsL hb h70 hnl hvl
  go_enter Tryz.func30, Tryz.ntmps30
  go_wp2_with fail
  refine Hrdy.out.mono ?_
  rintro e w1 ⟨A1, cp1, rfl, hf1, hs1⟩
  have c21 := hf1.cell id c2
  have Hf1 := Lib.hid hf1
  clear c2 hs1 hf1
  go_wp2_with fail
  refine (Hpk.out w1 Hf1.out).mono ?_
  rintro e w2 ⟨rfl, hf2⟩
  have hf02 := Hf1.out.trans0 hf2
  have hb2 := hf02.blk id Hb.out
  have c8 := blk_cell hb2 8 rfl
  rw [Hvl.out] at c8
  have f8 := blk_froz hb2 8
  have Hf02 := Lib.hid hf02; have Hb2 := Lib.hid hb2; have Hs2 := Lib.hid (HsL.out.fr0 hf02)
  clear hf2 hf02 hb2 c21
  have hid' : st.line.getD (n % (nl : Int)).toNat 0 = (i : Int) := hid
  rw [hid']
  go_wp2_with (at_builtin; refine wpList_append1 _ rfl _ _ _ rfl (F 7) 134 _ 2 32 Tryz.underlying67 Tryz.info_look rfl (by omega) (.slice A m cp) m csL [.slice A1 nl cp1, inV (i : Int)] rfl Hs2.out rfl rfl rfl (by omega) (by omega) ?_; intro v3 w3 hs3 hf3 hz3; obtain ⟨X3, cp3, rfl⟩ := hs3.slice; have hb3 := hf3.blk H70.out Hb2.out; have d2 := blk_cell hb3 2 rfl; have d8 := blk_cell hb3 8 rfl; have g8 := blk_froz hb3 8; have Hb3 := Lib.hid hb3; have Hs3 := Lib.hid hs3; have Hf3 := Lib.hid hf3; clear hb3 hs3 hf3)
  have hnx := WP.looked HS.out H.out Hf02.out Hf3.out Hs3.out hmn
  obtain ⟨w4, hw4⟩ : ∃ w4, w4 = w3.setCell ⟨c.wb, 8, none⟩ (.slice X3 (m + 1) cp3) := ⟨_, rfl⟩
  rw [← hw4] at hnx ⊢
  obtain ⟨S4, hf4, ha4, hs4⟩ := hnx
  have Ha4 := Lib.hid ha4
  obtain ⟨F4, c4, h4, hwb4, hS4⟩ := ha4
  have hcas := (h4.cas id).2 i t d [] hi
  obtain ⟨cv, htsv, _, hnil⟩ := hcas
  obtain rfl := hnil rfl
  obtain ⟨rows, hrs, hrow⟩ := h4.prg id
  obtain ⟨rv, hrv, hsr, hins⟩ := hrow pi p hp
  obtain ⟨Ar, cr, rfl⟩ := hsr.slice
  have Hget := Lib.hid (task_get (h4.tab id) i t d htsv)
  have htb4 : c.tb = c4.tb := by
    have e1 : w4.cell? ⟨c.wb, 2, none⟩ = some (ptV c4.tb) := by rw [← hwb4]; exact blk_cell (h4.blk id) 2 rfl
    have e2 : w4.cell? ⟨c.wb, 2, none⟩ = some (ptV c.tb) := by rw [hw4]; exact blk_cell (blk_set Hb3.out 8 _) 2 rfl
    simpa using e2.symm.trans e1
  rw [htb4]
  have c2 := blk_cell (h4.blk id) 2 rfl
  have c0 := blk_cell (h4.blk id) 0 rfl
  rw [hwb4] at c2 c0
  have hpl := (List.getElem?_eq_some_iff.1 hp).1
  obtain ⟨g, off, cpp, hvp, hg, hgl, hgc1, hgc2, hgc, hgz⟩ := hrs.form (by omega)
  rw [hvp] at c0
  have q0 := hgc pi (.slice Ar p.length cr) hrv
  obtain ⟨O, er, hO⟩ : ∃ O er, doR p k (regsOf t) st.now = (O, er) := ⟨_, _, rfl⟩
  obtain ⟨o1, o2, o3, o4, o5⟩ := O
  have Hdo4 := Lib.hid (fun W (hW : Fr Nob w4 W) => do_any W (.slice Ar p.length cr) p p.length (regsOf t) st.now rfl ((hsr.fr0 hW).rd) (fun y hy => Sl.rd ((hins y hy).1.fr0 hW)) (k : Int))
  have Hnow4 := Lib.hid (fun W (hW : Fr Nob w4 W) => world_now (Ha4.out.fr0 hW))
  have Hf4 := Lib.hid hf4; have Hs4 := Lib.hid hs4; have C2 := Lib.hid c2; have Hsr := Lib.hid hsr; have Hins := Lib.hid hins; have HO := Lib.hid hO; have Hcase := Lib.hid hcase
  have Hp := Lib.hid hp; have Ht1 := Lib.hid ht1; have Ht0 := Lib.hid ht0; have Hgp := Lib.hid hgp; have Htb4 := Lib.hid htb4
  have hpi : (pi : Int) < P.1.length := by omega
  clear htb4 d2 h0 h4 hf4 hs4 hwb4 hS4 hnil htsv hrs hrow hrv hsr hins hO hcase hw4 hid' hid hl hi hs hgc hgz hvp c8 f8 d8 g8 Hrdy Hpk hp hgp hpl hgl hg hgc1 hgc2
  go_wp2_with fail
  refine Hget.out.mono ?_
  rintro e w5' ⟨rfl, hf5'⟩
  have Hf5' := Lib.hid hf5'
  have hzn : (w5'.alloc (.cells tkZ.toArray 98)).heap[w5'.heap.size]? = some (.cells tkZ.toArray 98 (0, 0)) := heap_alloc_new _ _
  unfold tkZ at hzn
  dsimp only [tkL] at hzn
  clear hf5'
  go_wp2_with (refine wpList_store_row _ rfl 98 (.tmp 9) (.tmp 61) rfl w5'.heap.size (tkD t d).toArray _ 98 rfl rfl hzn rfl (info18 t d) (tkD_all t d) ?_; intro z5 hb5 hf5; have Hb5 := Lib.hid hb5; have Hf5 := Lib.hid hf5; clear hb5 hf5)
  obtain ⟨tb, htb⟩ : ∃ tb, tb = w5'.heap.size := ⟨_, rfl⟩
  rw [← htb] at Hb5 Hf5 ⊢
  have Htb : Hid (w5'.heap.size = tb) := Lib.hid htb.symm
  have hf45 : Fr Nob w4 z5 := (Hf5'.out.alloc _).trans Hf5.out fun k hk e => by have := Htb.out; have := Hf5'.out.size; omega
  have k0 := (hf45.cell id c0); have kq := (hf45.cell (p := ⟨g, off + pi, none⟩) id q0)
  have t0 : z5.cell? ⟨tb, 0, none⟩ = some (inV (pi : Int)) := by rw [← Ht0.out]; exact tkc0 Hb5.out
  have key6 : ∀ W, Fr Nob z5 W → W.cell? ⟨c.wb, 0, none⟩ = some (.slice (some ⟨g, off, none⟩) P.1.length cpp) ∧ W.cell? ⟨tb, 0, none⟩ = some (inV (pi : Int)) ∧ W.cell? ⟨g, off + pi, none⟩ = some (.slice Ar p.length cr) := fun W hW => ⟨hW.cell id k0, hW.cell id t0, hW.cell id kq⟩
  have Key6 := Lib.hid key6; have Hf45 := Lib.hid hf45
  have hf0 : Fr Nob z5 z5 := Fr.refl _ _
  clear key6 k0 kq t0 hf45 htb hzn c0 q0
  go_region_held3 (fun W => W.cell? ⟨c.wb, 0, none⟩ = some (.slice (some ⟨g, off, none⟩) P.1.length cpp) ∧ W.cell? ⟨tb, 0, none⟩ = some (inV (pi : Int)) ∧ W.cell? ⟨g, off + pi, none⟩ = some (.slice Ar p.length cr))
    ((refine Key6.out _ ?_; first | with_reducible exact hf0 | exact hf0.drew))
    (fail)
  obtain ⟨w5, hv5⟩ : ∃ w5, w5 = z5.drew := ⟨_, rfl⟩
  have hb5 : w5.heap[tb]? = some (.cells (tkD t d).toArray 98 (0, 0)) := by rw [hv5]; exact Hb5.out
  have hf45 : Fr Nob w4 w5 := by rw [hv5]; exact Hf45.out.drew
  rw [← hv5]
  have HB5 := Lib.hid hb5; have HF5 := Lib.hid hf45; have Htbz : Hid (w4.heap.size ≤ tb) := Lib.hid (by have := Htb.out; have := Hf5'.out.size; omega)
  clear hv5 hb5 hf45 Key6 hf0 Hf5 Hb5 Hf45
  go_wp2_with fail
  have key5 : ∀ W, Fr Nob w5 W → W.cell? ⟨tb, 1, none⟩ = some (inV (k : Int)) ∧ W.cell? ⟨tb, 4, none⟩ = some (inV (t 4)) ∧ W.cell? ⟨tb, 5, none⟩ = some (inV (t 5)) ∧ W.cell? ⟨tb, 6, none⟩ = some (inV (t 6)) ∧ W.cell? ⟨tb, 7, none⟩ = some (inV (t 7)) ∧ W.cell? ⟨tb, 8, none⟩ = some (inV (t 8)) ∧ W.cell? ⟨tb, 9, none⟩ = some (inV (t 9)) ∧ W.cell? ⟨tb, 10, none⟩ = some (inV (t 10)) ∧ W.cell? ⟨tb, 11, none⟩ = some (inV (t 11)) := fun W hW => by
    have q := hW.blk (fun q => q) HB5.out
    exact ⟨by rw [← Ht1.out]; exact tkc1 q, tkc4 q, tkc5 q, tkc6 q, tkc7 q, tkc8 q, tkc9 q, tkc10 q, tkc11 q⟩
  have Key5 := Lib.hid key5
  have Hnow := Lib.hid (fun W (hW : Fr Nob w5 W) => Hnow4.out W (HF5.out.trans0 hW))
  have Hdo : Hid (∀ W, Fr Nob w5 W → Calls Tryz.prog 57 #[.slice Ar p.length cr, inV (k : Int), .agg #[inV (t 4), inV (t 5), inV (t 6), inV (t 7), inV (t 8), inV (t 9), inV (t 10), inV (t 11)], inV st.now] W fun e w' => e = .returned (.tuple #[.agg (outA o1 o2 o3 o4 o5), inV er]) ∧ Fr Nob W w') := Lib.hid fun W hW => by
    have q := Hdo4.out W (HF5.out.trans0 hW)
    rw [HO.out] at q
    exact q
  clear key5
  refine wp_region_held_drew (S := fun W => W.cell? ⟨tb, 1, none⟩ = some (inV (k : Int)) ∧ W.cell? ⟨tb, 4, none⟩ = some (inV (t 4)) ∧ W.cell? ⟨tb, 5, none⟩ = some (inV (t 5)) ∧ W.cell? ⟨tb, 6, none⟩ = some (inV (t 6)) ∧ W.cell? ⟨tb, 7, none⟩ = some (inV (t 7)) ∧ W.cell? ⟨tb, 8, none⟩ = some (inV (t 8)) ∧ W.cell? ⟨tb, 9, none⟩ = some (inV (t 9)) ∧ W.cell? ⟨tb, 10, none⟩ = some (inV (t 10)) ∧ W.cell? ⟨tb, 11, none⟩ = some (inV (t 11))) (by kernel_rfl) (Key5.out _ (Fr.refl Nob w5).drew) (fun hHeld => ?_)
  refine wpAnyH_take (i := 0) (v := ?_) rfl (by kernel_rfl) (by kernel_rfl) (by kernel_rfl) (fun _ _ _ h => h) (Or.inl ⟨by rfl, ?_⟩) (by assumption) ?_
  rotate_left
  · intro w hSw; (try dsimp only at hSw); go_simp; try with_reducible rfl
  try simp only [List.getElem_toArray, List.getElem_cons_zero, List.getElem_cons_succ, Act.put, List.setIfInBounds_toArray, List.set_cons_zero, List.set_cons_succ]
  refine wpAnyH_take (i := 1) (v := ?_) rfl (by kernel_rfl) (by kernel_rfl) (by kernel_rfl) (fun _ _ _ h => h) (Or.inl ⟨by rfl, ?_⟩) (by assumption) ?_
  rotate_left
  · intro w hSw; (try dsimp only at hSw); go_simp; try with_reducible rfl
  try simp only [List.getElem_toArray, List.getElem_cons_zero, List.getElem_cons_succ, Act.put, List.setIfInBounds_toArray, List.set_cons_zero, List.set_cons_succ]
  refine wpAnyH_take (i := 2) (v := ?_) rfl (by kernel_rfl) (by kernel_rfl) (by kernel_rfl) (fun _ _ _ h => h) (Or.inl ⟨by rfl, ?_⟩) (by assumption) ?_
  rotate_left
  · intro w hSw; (try dsimp only at hSw); go_simp; try with_reducible rfl
  try simp only [List.getElem_toArray, List.getElem_cons_zero, List.getElem_cons_succ, Act.put, List.setIfInBounds_toArray, List.set_cons_zero, List.set_cons_succ]
  refine wpAnyH_take (i := 3) (v := ?_) rfl (by kernel_rfl) (by kernel_rfl) (by kernel_rfl) (fun _ _ _ h => h) (Or.inl ⟨by rfl, ?_⟩) (by assumption) ?_
  rotate_left
  · intro w hSw; (try dsimp only at hSw); go_simp; try with_reducible rfl
  try simp only [List.getElem_toArray, List.getElem_cons_zero, List.getElem_cons_succ, Act.put, List.setIfInBounds_toArray, List.set_cons_zero, List.set_cons_succ]
  refine wpAnyH_take (i := 4) (v := ?_) rfl (by kernel_rfl) (by kernel_rfl) (by kernel_rfl) (fun _ _ _ h => h) (Or.inl ⟨by rfl, ?_⟩) (by assumption) ?_
  rotate_left
  · intro w hSw; (try dsimp only at hSw); go_simp; try with_reducible rfl
  try simp only [List.getElem_toArray, List.getElem_cons_zero, List.getElem_cons_succ, Act.put, List.setIfInBounds_toArray, List.set_cons_zero, List.set_cons_succ]
  refine wpAnyH_take (i := 5) (v := ?_) rfl (by kernel_rfl) (by kernel_rfl) (by kernel_rfl) (fun _ _ _ h => h) (Or.inl ⟨by rfl, ?_⟩) (by assumption) ?_
  rotate_left
  · intro w hSw; (try dsimp only at hSw); go_simp; try with_reducible rfl
  try simp only [List.getElem_toArray, List.getElem_cons_zero, List.getElem_cons_succ, Act.put, List.setIfInBounds_toArray, List.set_cons_zero, List.set_cons_succ]
  refine wpAnyH_ready (rs := [6, 11]) (by kernel_rfl) (by simp) ?_
  refine AllReadyH.cons rfl (fun K hK => ?_) (AllReadyH.cons rfl (fun K hK => ?_) AllReadyH.nil)
  focus
    try simp only [List.getElem_toArray, List.getElem_cons_zero, List.getElem_cons_succ]
    go_simp
    refine (Hnow.out _ (Fr.refl Nob w5).drew).mono ?_
    rintro e _ ⟨rfl, rfl⟩
    refine hK.out _ _ (Key5.out _ (Fr.refl Nob w5).drew) (fun hHeld2 => ?_)
    clear hK K
    refine wpAnyH_ready (rs := [7, 11]) (by kernel_rfl) (by simp) ?_
    refine AllReadyH.cons rfl (fun K hK => ?_) (AllReadyH.cons rfl (fun K hK => ?_) AllReadyH.nil)
    focus
      try simp only [List.getElem_toArray, List.getElem_cons_zero, List.getElem_cons_succ]
      go_simp
      refine (Hdo.out _ (Fr.refl Nob w5).drew).mono ?_
      rintro e w6 ⟨rfl, hf6'⟩
      have hf6 : Fr Nob w5 w6 := ((Fr.refl Nob w5).drew).trans0 hf6'
      refine hK.out _ _ (Key5.out _ hf6) (fun hHeld3 => ?_)
      clear hK K
      refine wpAnyH_take (i := 8) (v := ?_) rfl (by kernel_rfl) (by kernel_rfl) (by kernel_rfl) (fun _ _ _ h => h) (Or.inl ⟨by rfl, ?_⟩) (by assumption) ?_
      rotate_left
      · intro w hSw; (try dsimp only at hSw); go_simp; try with_reducible rfl
      try simp only [List.getElem_toArray, List.getElem_cons_zero, List.getElem_cons_succ, Act.put, List.setIfInBounds_toArray, List.set_cons_zero, List.set_cons_succ]
      refine wpAnyH_take (i := 9) (v := ?_) rfl (by kernel_rfl) (by kernel_rfl) (by kernel_rfl) (fun _ _ _ h => h) (Or.inl ⟨by rfl, ?_⟩) (by assumption) ?_
      rotate_left
      · intro w hSw; (try dsimp only at hSw); go_simp; try with_reducible rfl
      try simp only [List.getElem_toArray, List.getElem_cons_zero, List.getElem_cons_succ, Act.put, List.setIfInBounds_toArray, List.set_cons_zero, List.set_cons_succ]
      refine wpAnyH_take (i := 10) (v := ?_) rfl (by kernel_rfl) (by kernel_rfl) (by kernel_rfl) (fun _ _ _ h => h) (Or.inl ⟨by rfl, ?_⟩) (by assumption) ?_
      rotate_left
      · intro w hSw; (try dsimp only at hSw); go_simp; try with_reducible rfl
      try simp only [List.getElem_toArray, List.getElem_cons_zero, List.getElem_cons_succ, Act.put, List.setIfInBounds_toArray, List.set_cons_zero, List.set_cons_succ]
      refine wpAnyH_ready (rs := [11]) (by kernel_rfl) (by simp) ?_
      refine AllReadyH.cons rfl (fun K hK => ?_) AllReadyH.nil
      try simp only [List.getElem_toArray, List.getElem_cons_zero, List.getElem_cons_succ]
      go_simp
      refine hK.out _ _ (Key5.out _ (hf6.alloc _)) (fun hHeld4 => ?_)
      clear hK K
      refine wpAnyH_ready (rs := [12]) (by kernel_rfl) (by simp) ?_
      refine AllReadyH.cons rfl (fun K hK => ?_) AllReadyH.nil
      refine step_store_row _ rfl 138 (.tmp 12) (.tmp 80) rfl w6.heap.size (outA o1 o2 o3 o4 o5) _ 138 rfl rfl (heap_alloc_new w6 _) rfl (info_out12 o1 o2 o3 o4 o5) (outA_one o1 o2 o3 o4 o5) fun w8 hb8 hf8 => ?_
      have hf58 : Fr Nob w5 w8 := (hf6.alloc _).trans hf8 (fun k hk e => by have := hf6.size; omega)
      refine hK.out _ _ (Key5.out _ hf58) (fun hHeldZ => ?_)
      clear hK K
      obtain ⟨ob, hob, hobz⟩ : ∃ ob, ob = w6.heap.size ∧ w5.heap.size ≤ ob := ⟨_, rfl, by have := hf6.size; omega⟩
      rw [← hob] at hb8
      try rw [← hob]
    rotate_left
    focus
      try simp only [List.getElem_toArray, List.getElem_cons_zero, List.getElem_cons_succ]
      go_simp
      refine hK.out _ _ (Key5.out _ ((Fr.refl Nob w5).drew.alloc _)) (fun hHeld3 => ?_)
      clear hK K
      refine wpAnyH_ready (rs := [7]) (by kernel_rfl) (by simp) ?_
      refine AllReadyH.cons rfl (fun K hK => ?_) AllReadyH.nil
      try simp only [List.getElem_toArray, List.getElem_cons_zero, List.getElem_cons_succ]
      go_simp
      refine (Hdo.out _ ((Fr.refl Nob w5).drew.alloc _)).mono ?_
      rintro e w6 ⟨rfl, hf6'⟩
      have hf6 : Fr Nob w5 w6 := ((Fr.refl Nob w5).drew.alloc _).trans0 hf6'
      refine hK.out _ _ (Key5.out _ hf6) (fun hHeld4 => ?_)
      clear hK K
      refine wpAnyH_take (i := 8) (v := ?_) rfl (by kernel_rfl) (by kernel_rfl) (by kernel_rfl) (fun _ _ _ h => h) (Or.inl ⟨by rfl, ?_⟩) (by assumption) ?_
      rotate_left
      · intro w hSw; (try dsimp only at hSw); go_simp; try with_reducible rfl
      try simp only [List.getElem_toArray, List.getElem_cons_zero, List.getElem_cons_succ, Act.put, List.setIfInBounds_toArray, List.set_cons_zero, List.set_cons_succ]
      refine wpAnyH_take (i := 9) (v := ?_) rfl (by kernel_rfl) (by kernel_rfl) (by kernel_rfl) (fun _ _ _ h => h) (Or.inl ⟨by rfl, ?_⟩) (by assumption) ?_
      rotate_left
      · intro w hSw; (try dsimp only at hSw); go_simp; try with_reducible rfl
      try simp only [List.getElem_toArray, List.getElem_cons_zero, List.getElem_cons_succ, Act.put, List.setIfInBounds_toArray, List.set_cons_zero, List.set_cons_succ]
      refine wpAnyH_take (i := 10) (v := ?_) rfl (by kernel_rfl) (by kernel_rfl) (by kernel_rfl) (fun _ _ _ h => h) (Or.inl ⟨by rfl, ?_⟩) (by assumption) ?_
      rotate_left
      · intro w hSw; (try dsimp only at hSw); go_simp; try with_reducible rfl
      try simp only [List.getElem_toArray, List.getElem_cons_zero, List.getElem_cons_succ, Act.put, List.setIfInBounds_toArray, List.set_cons_zero, List.set_cons_succ]
      refine wpAnyH_ready (rs := [12]) (by kernel_rfl) (by simp) ?_
      refine AllReadyH.cons rfl (fun K hK => ?_) AllReadyH.nil
      refine step_store_row _ rfl 138 (.tmp 12) (.tmp 80) rfl w5.heap.size (outA o1 o2 o3 o4 o5) _ 138 rfl rfl (hf6'.blk id (heap_alloc_new w5.drew _)) rfl (info_out12 o1 o2 o3 o4 o5) (outA_one o1 o2 o3 o4 o5) fun w8 hb8 hf8 => ?_
      have hf58 : Fr Nob w5 w8 := (hf6).trans hf8 (fun k hk e => by skip; omega)
      refine hK.out _ _ (Key5.out _ hf58) (fun hHeldZ => ?_)
      clear hK K
      obtain ⟨ob, hob, hobz⟩ : ∃ ob, ob = w5.heap.size ∧ w5.heap.size ≤ ob := ⟨_, rfl, by skip; omega⟩
      rw [← hob] at hb8
      try rw [← hob]
  rotate_left 2
  focus
    try simp only [List.getElem_toArray, List.getElem_cons_zero, List.getElem_cons_succ]
    go_simp
    refine hK.out _ _ (Key5.out _ ((Fr.refl Nob w5).drew.alloc _)) (fun hHeld2 => ?_)
    clear hK K
    refine wpAnyH_ready (rs := [6]) (by kernel_rfl) (by simp) ?_
    refine AllReadyH.cons rfl (fun K hK => ?_) AllReadyH.nil
    try simp only [List.getElem_toArray, List.getElem_cons_zero, List.getElem_cons_succ]
    go_simp
    refine (Hnow.out _ ((Fr.refl Nob w5).drew.alloc _)).mono ?_
    rintro e _ ⟨rfl, rfl⟩
    refine hK.out _ _ (Key5.out _ ((Fr.refl Nob w5).drew.alloc _)) (fun hHeld3 => ?_)
    clear hK K
    refine wpAnyH_ready (rs := [7]) (by kernel_rfl) (by simp) ?_
    refine AllReadyH.cons rfl (fun K hK => ?_) AllReadyH.nil
    try simp only [List.getElem_toArray, List.getElem_cons_zero, List.getElem_cons_succ]
    go_simp
    refine (Hdo.out _ ((Fr.refl Nob w5).drew.alloc _)).mono ?_
    rintro e w6 ⟨rfl, hf6'⟩
    have hf6 : Fr Nob w5 w6 := ((Fr.refl Nob w5).drew.alloc _).trans0 hf6'
    refine hK.out _ _ (Key5.out _ hf6) (fun hHeld4 => ?_)
    clear hK K
    refine wpAnyH_take (i := 8) (v := ?_) rfl (by kernel_rfl) (by kernel_rfl) (by kernel_rfl) (fun _ _ _ h => h) (Or.inl ⟨by rfl, ?_⟩) (by assumption) ?_
    rotate_left
    · intro w hSw; (try dsimp only at hSw); go_simp; try with_reducible rfl
    try simp only [List.getElem_toArray, List.getElem_cons_zero, List.getElem_cons_succ, Act.put, List.setIfInBounds_toArray, List.set_cons_zero, List.set_cons_succ]
    refine wpAnyH_take (i := 9) (v := ?_) rfl (by kernel_rfl) (by kernel_rfl) (by kernel_rfl) (fun _ _ _ h => h) (Or.inl ⟨by rfl, ?_⟩) (by assumption) ?_
    rotate_left
    · intro w hSw; (try dsimp only at hSw); go_simp; try with_reducible rfl
    try simp only [List.getElem_toArray, List.getElem_cons_zero, List.getElem_cons_succ, Act.put, List.setIfInBounds_toArray, List.set_cons_zero, List.set_cons_succ]
    refine wpAnyH_take (i := 10) (v := ?_) rfl (by kernel_rfl) (by kernel_rfl) (by kernel_rfl) (fun _ _ _ h => h) (Or.inl ⟨by rfl, ?_⟩) (by assumption) ?_
    rotate_left
    · intro w hSw; (try dsimp only at hSw); go_simp; try with_reducible rfl
    try simp only [List.getElem_toArray, List.getElem_cons_zero, List.getElem_cons_succ, Act.put, List.setIfInBounds_toArray, List.set_cons_zero, List.set_cons_succ]
    refine wpAnyH_ready (rs := [12]) (by kernel_rfl) (by simp) ?_
    refine AllReadyH.cons rfl (fun K hK => ?_) AllReadyH.nil
    refine step_store_row _ rfl 138 (.tmp 12) (.tmp 80) rfl w5.heap.size (outA o1 o2 o3 o4 o5) _ 138 rfl rfl (hf6'.blk id (heap_alloc_new w5.drew _)) rfl (info_out12 o1 o2 o3 o4 o5) (outA_one o1 o2 o3 o4 o5) fun w8 hb8 hf8 => ?_
    have hf58 : Fr Nob w5 w8 := (hf6).trans hf8 (fun k hk e => by skip; omega)
    refine hK.out _ _ (Key5.out _ hf58) (fun hHeldZ => ?_)
    clear hK K
    obtain ⟨ob, hob, hobz⟩ : ∃ ob, ob = w5.heap.size ∧ w5.heap.size ≤ ob := ⟨_, rfl, by skip; omega⟩
    rw [← hob] at hb8
    try rw [← hob]
  all_goals
    refine wpAnyH_take (i := 13) (v := ?_) rfl (by kernel_rfl) (by kernel_rfl) (by kernel_rfl) (fun _ _ _ h => h) (Or.inl ⟨by rfl, ?_⟩) (by assumption) ?_
    rotate_left
    · intro w hSw; (try dsimp only at hSw); go_simp; try with_reducible rfl
    try simp only [List.getElem_toArray, List.getElem_cons_zero, List.getElem_cons_succ, Act.put, List.setIfInBounds_toArray, List.set_cons_zero, List.set_cons_succ]
    refine wpAnyH_done (by kernel_rfl) ?_ _
    try simp only [List.getElem_toArray, List.getElem_cons_zero, List.getElem_cons_succ, Act.put, List.setIfInBounds_toArray, List.set_cons_zero, List.set_cons_succ]
    have Hf58 := Lib.hid hf58; have Hb8 := Lib.hid hb8; have Hobz := Lib.hid hobz
    clear hf58 hb8 hobz hob
    clear hf8 hHeld hHeldZ
    rcases Hcase.out with ⟨o, ho, hal⟩ | ⟨ho, y, hy, hm, hrg, s1, oo, hact, hend⟩
    · have e0 := HO.out.symm.trans ho
      obtain ⟨rfl, rfl⟩ : (o1, o2, o3, o4, o5) = o ∧ er = 0 := ⟨congrArg Prod.fst e0, congrArg Prod.snd e0⟩
      have Hal := Lib.hid hal
      clear ho hal e0
      go_wp2_with (refine wpList_load_row rfl 138 (.tmp 12) rfl ob rfl 138 (outA o1 o2 o3 o4 o5) (0, 0) _ Hb8.out rfl rfl (info_out12 o1 o2 o3 o4 o5) ?_)
      refine (world_alone ((Ha4.out.fr0 HF5.out).fr0 Hf58.out) Hal.out).mono ?_
      rintro e w9 ⟨rfl, hn9⟩
      have Hn9 := Lib.hid hn9
      clear hn9
      go_wp2_with fail
      refine bodyPost_ret (results_none Tryz.results30 _ _ _) rfl ⟨rfl, P.2, ?_⟩
      exact (Nx.step Hf4.out Hs4.out (Nx.from0 (HF5.out.trans0 Hf58.out) Hn9.out)).mono (by omega) (by omega)
    · have e0 := HO.out.symm.trans ho
      have he : er = 7 := congrArg Prod.snd e0
      subst he
      have hkl : k < p.length := (List.getElem?_eq_some_iff.1 hy).1
      have hki : (k : Int) < p.length := by omega
      obtain ⟨g2, off2, cp2, hv2, hg2, hgl2, hgc3, hgc4, hgc5, hgz2⟩ := (Hsr.out.fr0 (HF5.out.trans0 Hf58.out)).form (by omega)
      injection hv2 with hA2 hn2' hc2'
      subst hA2; subst hc2'
      have hyo := Hins.out y (List.mem_of_getElem? hy)
      have q0 := hgc5 _ _ ((insGet p k 0 _ hy (by omega)).trans rfl)
      have q1 := hgc5 _ _ ((insGet p k 1 _ hy (by omega)).trans rfl)
      have q2 := hgc5 _ _ ((insGet p k 2 _ hy (by omega)).trans rfl)
      have q3 := hgc5 _ _ ((insGet p k 3 _ hy (by omega)).trans rfl)
      have q4 := hgc5 _ _ ((insGet p k 4 _ hy (by omega)).trans rfl)
      have q5 := hgc5 _ _ ((insGet p k 5 _ hy (by omega)).trans rfl)
      rw [Nat.add_zero] at q0
      rw [← Nat.add_assoc] at q1 q2 q3 q4 q5
      have hgood := good_of Hgp.out hy
      obtain ⟨⟨op, ia, ib, ic⟩, cv2, cs, df⟩ := y
      dsimp only at q0 q1 q2 q3 q4 q5 hyo
      have key10 : ∀ W, Fr Nob w8 W → W.cell? ⟨tb, 1, none⟩ = some (inV (k : Int)) ∧ W.cell? ⟨tb, 4, none⟩ = some (inV (t 4)) ∧ W.cell? ⟨tb, 5, none⟩ = some (inV (t 5)) ∧ W.cell? ⟨tb, 6, none⟩ = some (inV (t 6)) ∧ W.cell? ⟨tb, 7, none⟩ = some (inV (t 7)) ∧ W.cell? ⟨tb, 8, none⟩ = some (inV (t 8)) ∧ W.cell? ⟨tb, 9, none⟩ = some (inV (t 9)) ∧ W.cell? ⟨tb, 10, none⟩ = some (inV (t 10)) ∧ W.cell? ⟨tb, 11, none⟩ = some (inV (t 11)) ∧ W.cell? ⟨g2, off2 + k * 6, none⟩ = some (inV op) ∧ W.cell? ⟨g2, off2 + k * 6 + 1, none⟩ = some (inV ia) ∧ W.cell? ⟨g2, off2 + k * 6 + 2, none⟩ = some (inV ib) ∧ W.cell? ⟨g2, off2 + k * 6 + 3, none⟩ = some (inV ic) ∧ W.cell? ⟨g2, off2 + k * 6 + 4, none⟩ = some (cv2) ∧ W.cell? ⟨g2, off2 + k * 6 + 5, none⟩ = some (.bool df) := fun W hW => by
        have q := (Hf58.out.trans0 hW).blk (fun q => q) HB5.out
        exact ⟨by rw [← Ht1.out]; exact tkc1 q, tkc4 q, tkc5 q, tkc6 q, tkc7 q, tkc8 q, tkc9 q, tkc10 q, tkc11 q, hW.cell id q0, hW.cell id q1, hW.cell id q2, hW.cell id q3, hW.cell id q4, hW.cell id q5⟩
      have Key10 := Lib.hid key10
      have Hy := Lib.hid hy; have Hyo := Lib.hid hyo; have Hact := Lib.hid hact; have Hend := Lib.hid hend; have Hgood := Lib.hid hgood; have Hm := Lib.hid hm; have Hrg := Lib.hid hrg
      have hf0 : Fr Nob w8 w8 := Fr.refl _ _
      clear key10 q0 q1 q2 q3 q4 q5 ho e0 hy hyo hact hend hgood hm hrg hgc5 hgz2 hn2' hg2 hgl2 hgc3 hgc4
      go_wp2_with fail
      go_region_held3 (fun W => W.cell? ⟨tb, 1, none⟩ = some (inV (k : Int)) ∧ W.cell? ⟨tb, 4, none⟩ = some (inV (t 4)) ∧ W.cell? ⟨tb, 5, none⟩ = some (inV (t 5)) ∧ W.cell? ⟨tb, 6, none⟩ = some (inV (t 6)) ∧ W.cell? ⟨tb, 7, none⟩ = some (inV (t 7)) ∧ W.cell? ⟨tb, 8, none⟩ = some (inV (t 8)) ∧ W.cell? ⟨tb, 9, none⟩ = some (inV (t 9)) ∧ W.cell? ⟨tb, 10, none⟩ = some (inV (t 10)) ∧ W.cell? ⟨tb, 11, none⟩ = some (inV (t 11)) ∧ W.cell? ⟨g2, off2 + k * 6, none⟩ = some (inV op) ∧ W.cell? ⟨g2, off2 + k * 6 + 1, none⟩ = some (inV ia) ∧ W.cell? ⟨g2, off2 + k * 6 + 2, none⟩ = some (inV ib) ∧ W.cell? ⟨g2, off2 + k * 6 + 3, none⟩ = some (inV ic) ∧ W.cell? ⟨g2, off2 + k * 6 + 4, none⟩ = some (cv2) ∧ W.cell? ⟨g2, off2 + k * 6 + 5, none⟩ = some (.bool df))
        ((refine Key10.out _ ?_; repeat (first | with_reducible exact hf0 | with_reducible exact hf0.drew | with_reducible refine Fr.alloc ?_ _ | with_reducible refine Fr.drew ?_)))
        (fail)
      obtain ⟨w9, hw9⟩ : ∃ w9, w9 = (w8.alloc (.cells #[ptV c.wb, inV (i : Int), inV op, inV ia, inV ib, inV ic, cv2, .bool df, inV (t 4), inV (t 5), inV (t 6), inV (t 7), inV (t 8), inV (t 9), inV (t 10), inV (t 11), inV (t 4), inV (t 5), inV (t 6), inV (t 7), inV (t 8), inV (t 9), inV (t 10), inV (t 11), inV draw, inV 0, .bool false] 144)).drew := ⟨_, rfl⟩
      rw [← hw9]
      obtain ⟨ab, hab⟩ : ∃ ab, ab = w8.heap.size := ⟨_, rfl⟩
      try rw [← hab]
      have hf89 : Fr Nob w8 w9 := by rw [hw9]; exact ((Fr.refl Nob w8).alloc _).drew
      have hx9 : ActAt w9 ab ⟨c.wb, i, op, ia, ib, ic, cv2, df, regsOf t, draw⟩ (regsOf t) 0 false := by rw [hw9, hab]; exact heap_alloc_new w8 _
      have hf49 : Fr Nob w4 w9 := HF5.out.trans0 (Hf58.out.trans0 hf89)
      have ha9 := Ha4.out.fr0 hf49
      have hz49 : w4.heap.size ≤ w8.heap.size := by have := HF5.out.size; have := Hf58.out.size; omega
      have hab4 : ¬ S4 ab := fun q => by have := Ha4.out.lt _ q; omega
      have htb9 := (Hf58.out.trans0 hf89).blk (fun q => q) HB5.out
      have hdo := hD (x := ⟨c.wb, i, op, ia, ib, ic, cv2, df, regsOf t, draw⟩) ha9 hx9 hab4 (id := i) (y := ((op, ia, ib, ic), cv2, cs, df)) ⟨rfl, rfl, rfl, rfl, rfl, rfl, rfl⟩ Hrg.out hfew (by omega) hnm (Sl.rd (Hyo.out.1.fr0 hf49)) (len16 Hgood.out) (csAll Hgood.out) Hact.out (hKO p (List.mem_of_getElem? Hp.out) _ (List.mem_of_getElem? Hy.out) Hm.out)
      have Hf89 := Lib.hid hf89; have Hf49 := Lib.hid hf49; have Hab4 := Lib.hid hab4; have Htb9 := Lib.hid htb9; have Hdo9 := Lib.hid hdo; have Hab := Lib.hid hab; have Hz49 := Lib.hid hz49; have Hbz := Lib.hid (ActAt.lt hx9)
      clear hf89 hx9 hf49 ha9 hab4 htb9 hdo hw9 hab hz49 hf0 Key10
      go_wp2_with fail
      refine Hdo9.out.mono ?_
      rintro e w10 ⟨rfl, B', S10, hf10, ha10, hs10, hoo⟩
      have htlt := (lt_of_block HB5.out)
      have htb4 : ¬ S4 tb := fun q => by have := Ha4.out.lt _ q; have := Htbz.out; omega
      have hne : tb ≠ ab := by have := Hab.out; have := Hf58.out.size; omega
      have htb10 := hf10.blk (fun q => by rcases q with q | q; exact htb4 q; exact hne q) Htb9.out
      have hfr10 : Fr S4 w4 w10 := Hf49.out.none.trans hf10 fun k hk q => by rcases q with q | q; exact q; have := Hab.out; have := Hz49.out; omega
      have Hfr10 := Lib.hid hfr10; clear hfr10
      have hn10 : Nx w4 S4 c.wb (P.1, B') s1 (nd + 1 + 2000) (nm + 10) w10 := ⟨S10, Hf49.out.none.trans hf10 fun k hk q => by rcases q with q | q; exact q; have := Hab.out; have := Hz49.out; omega, ha10, fun k q => by rcases hs10 k q with q | q; exact .inl q; exact .inr (by have := Hf49.out.size; omega)⟩
      have htab : ∀ S', WAt w10 S' c.wb (P.1, B') s1 (nd + 1 + 2000) (nm + 10) → True := fun _ _ => trivial
      have hnt : ¬ S10 tb := fun q => by rcases hs10 _ q with q | q; exact htb4 q; have := Hf58.out.size; have := Hf89.out.size; omega
      have hna : ¬ S10 ab := fun q => by rcases hs10 _ q with q | q; exact Hab4.out q; have := Hbz.out; omega
      have Hnt := Lib.hid hnt; have Hna := Lib.hid hna
      have Htb10 := Lib.hid htb10; have Hn10 := Lib.hid hn10; have Ha10 := Lib.hid ha10; have Hoo := Lib.hid hoo; have Hs10 := Lib.hid hs10
      clear hnt hna htlt htb4 hne htb10 hn10 hf10 ha10 hs10 hoo htab
      cases oo with
      | some ro =>
        have hoo := Hoo.out
        dsimp only at hoo
        have hend := Hend.out
        dsimp only at hend
        obtain ⟨tb2, hc2, hput⟩ := Ha10.out.tput hend
        have Hput := Lib.hid hput; have Hc2 := Lib.hid hc2
        have k25 := xc25 hoo; have k26 := xc26 hoo
        have hw1 : IntKind.i64.wrap ((k : Int) + 1) = (k : Int) + 1 := by rw [IntWalk.i64_in _ (by have := len512 Hgp.out; omega)]
        have key12 : ∀ W, Fr S10 w10 W → W.cell? ⟨c.wb, 2, none⟩ = some (ptV tb2) → W.cell? ⟨c.wb, 2, none⟩ = some (ptV tb2) ∧ W.cell? ⟨tb, 1, none⟩ = some (inV (k : Int)) ∧ W.cell? ⟨ab, 16, none⟩ = some (inV (ro 0)) ∧ W.cell? ⟨ab, 17, none⟩ = some (inV (ro 1)) ∧ W.cell? ⟨ab, 18, none⟩ = some (inV (ro 2)) ∧ W.cell? ⟨ab, 19, none⟩ = some (inV (ro 3)) ∧ W.cell? ⟨ab, 20, none⟩ = some (inV (ro 4)) ∧ W.cell? ⟨ab, 21, none⟩ = some (inV (ro 5)) ∧ W.cell? ⟨ab, 22, none⟩ = some (inV (ro 6)) ∧ W.cell? ⟨ab, 23, none⟩ = some (inV (ro 7)) := fun W hW hc => by
          have q := hoo.fr hW Hna.out
          exact ⟨hc, by rw [← Ht1.out]; exact tkc1 (hW.blk Hnt.out Htb10.out), xc16 q, xc17 q, xc18 q, xc19 q, xc20 q, xc21 q, xc22 q, xc23 q⟩
        have Key12 := Lib.hid key12
        clear hoo hend hput hc2 key12
        go_wp2_with fail
        have hf0 : Fr Nob w10 w10 := Fr.refl _ _
        go_region_held3 (fun W => W.cell? ⟨c.wb, 2, none⟩ = some (ptV tb2) ∧ W.cell? ⟨tb, 1, none⟩ = some (inV (k : Int)) ∧ W.cell? ⟨ab, 16, none⟩ = some (inV (ro 0)) ∧ W.cell? ⟨ab, 17, none⟩ = some (inV (ro 1)) ∧ W.cell? ⟨ab, 18, none⟩ = some (inV (ro 2)) ∧ W.cell? ⟨ab, 19, none⟩ = some (inV (ro 3)) ∧ W.cell? ⟨ab, 20, none⟩ = some (inV (ro 4)) ∧ W.cell? ⟨ab, 21, none⟩ = some (inV (ro 5)) ∧ W.cell? ⟨ab, 22, none⟩ = some (inV (ro 6)) ∧ W.cell? ⟨ab, 23, none⟩ = some (inV (ro 7)))
          ((first | with_reducible exact k11.out | exact Key12.out _ (hf0.none) (Hc2.out _ hf0) | exact Key12.out _ (hf0.drew.none) (Hc2.out _ hf0.drew)))
          ((go_at_call 62; refine (Hput.out w10.drew ((Fr.refl Nob w10).drew)).mono ?_; rintro e w11 ⟨rfl, hn11, hc11⟩; have k11 := Lib.hid (Key12.out w11 (by obtain ⟨_, q, _⟩ := hn11; exact ((Fr.refl S10 w10).drew).trans0 q) hc11); have Hn11 := Lib.hid hn11; clear hn11 hc11))
        go_end0
        have hsub10 : ∀ q, S10 q → S4 q ∨ w4.heap.size ≤ q := fun q h => by rcases Hs10.out q h with h | h; exact .inl h; exact .inr (by have := Hf49.out.size; omega)
        exact ⟨rfl, B', (Nx.step Hf4.out Hs4.out (Nx.step Hfr10.out hsub10 (Nx.from0 ((Fr.refl Nob w10).drew) Hn11.out))).mono (by omega) (by omega)⟩
      | none =>
        obtain ⟨rr, hoo⟩ := Hoo.out
        have hend := Hend.out
        dsimp only at hend
        obtain ⟨hev, s0, rfl, hev0, tb2, hc2, hpark⟩ := Ha10.out.tpark hend Hp.out (List.mem_of_getElem? Hy.out)
        have Hpark := Lib.hid hpark; have Hc2 := Lib.hid hc2
        have k25 := xc25 hoo; have k26 := xc26 hoo
        have key17 : ∀ W, Fr S10 w10 W → W.cell? ⟨c.wb, 2, none⟩ = some (ptV tb2) → W.cell? ⟨c.wb, 2, none⟩ = some (ptV tb2) ∧ W.cell? ⟨ab, 2, none⟩ = some (inV op) ∧ W.cell? ⟨ab, 3, none⟩ = some (inV ia) ∧ W.cell? ⟨ab, 4, none⟩ = some (inV ib) ∧ W.cell? ⟨ab, 5, none⟩ = some (inV ic) ∧ W.cell? ⟨ab, 6, none⟩ = some (cv2) ∧ W.cell? ⟨ab, 7, none⟩ = some (.bool df) := fun W hW hc => by
          have q := hoo.fr hW Hna.out
          exact ⟨hc, xc2 q, xc3 q, xc4 q, xc5 q, xc6 q, xc7 q⟩
        have Key17 := Lib.hid key17
        clear hoo hend hpark hc2 key17
        go_wp2_with fail
        have hf0 : Fr Nob w10 w10 := Fr.refl _ _
        go_region_held3 (fun W => W.cell? ⟨c.wb, 2, none⟩ = some (ptV tb2) ∧ W.cell? ⟨ab, 2, none⟩ = some (inV op) ∧ W.cell? ⟨ab, 3, none⟩ = some (inV ia) ∧ W.cell? ⟨ab, 4, none⟩ = some (inV ib) ∧ W.cell? ⟨ab, 5, none⟩ = some (inV ic) ∧ W.cell? ⟨ab, 6, none⟩ = some (cv2) ∧ W.cell? ⟨ab, 7, none⟩ = some (.bool df))
          ((first | with_reducible exact k11.out | exact Key17.out _ (hf0.none) (Hc2.out _ hf0) | exact Key17.out _ (hf0.drew.none) (Hc2.out _ hf0.drew)))
          ((go_at_call 61; refine (Hpark.out w10.drew ((Fr.refl Nob w10).drew)).mono ?_; rintro e w11 ⟨rfl, hn11, hc11⟩; have k11 := Lib.hid (Key17.out w11 (by obtain ⟨_, q, _⟩ := hn11; exact ((Fr.refl S10 w10).drew).trans0 q) hc11); have Hn11 := Lib.hid hn11; clear hn11 hc11))
        have Ht := Lib.hid (Hn11.out.tell 2 (i : Int) 0 0 0 (by rw [hev0]; omega))
        go_wp2_with fail
        refine (Ht.out _ (Fr.refl _ _)).mono ?_
        rintro e w12 ⟨rfl, hn12⟩
        have Hn12 := Lib.hid hn12
        clear hn12
        go_wp2_with fail
        go_end0
        have hsub10 : ∀ q, S10 q → S4 q ∨ w4.heap.size ≤ q := fun q h => by rcases Hs10.out q h with h | h; exact .inl h; exact .inr (by have := Hf49.out.size; omega)
        exact ⟨rfl, B', (Nx.step Hf4.out Hs4.out (Nx.step Hfr10.out hsub10 (Nx.from0 ((Fr.refl Nob w10).drew) Hn12.out))).mono (by omega) (by omega)⟩
theorem TmAt.ids {w : World} {S : Nat → Prop} {b : Nat} {l : List Tr} {named : Nat} {hp : List Hi} {seq : Nat} {per : Int → Option Int} {nm : Nat} (h : TmAt w S b l named hp seq per nm) : ∀ x ∈ hp, 0 ≤ x.1 := by
  obtain ⟨eb, SL, SE, v, n, h⟩ := h
  obtain ⟨hb, pb, SH, e⟩ := h.exp
  obtain ⟨_, _, _, _, _, _, _, q, _⟩ := e.heap
  exact fun x hx => (q x hx).1
theorem fire_some {st s3 : WS} (h : st.fire = some (some s3)) : 0 ≤ st.now ∧ st.now ≤ maxT ∧ ∃ (x : Hi) (r : List Hi) (kind data : Int) (j : Nat) (gen : Int) (cc : ChS) (hp' : List Hi) (seq' : Nat) (per' : Int → Option Int),
    st.hp = x :: r ∧ x.2.1 ≤ st.now ∧ st.tm[x.1.toNat]? = some (kind, data, j, gen) ∧ kind ≠ 3 ∧ kind ≠ 4 ∧ st.ch j = some cc ∧ takeR st.hp st.seq st.per x st.now = some (hp', seq', per') ∧ st.ev.length < 1000 ∧ (cc.putR st.now).1.length < 1000 ∧
    ({ st with hp := hp', seq := seq', per := per', ch := Go.Proofs.YtcffplgimbbflaaGreat.upd st.ch j (some (cc.putS st.now)) }.tell 6 (-1) x.1 x.2.1 0).wake (cc.putR st.now).1 = some s3 := by
  unfold WS.fire at h
  split at h
  · cases h
  · next hg =>
    split at h
    · cases h
    · next x r hx =>
      split at h
      · cases h
      · next hw =>
        split at h
        · cases h
        · next kind data c gen ht =>
          split at h
          · cases h
          · next hk =>
            split at h
            · cases h
            · next cc hc =>
              split at h
              · cases h
              · next hp' seq' per' hr =>
                split at h
                · cases h
                · next hev =>
                  split at h
                  · cases h
                  · next s4 hs4 =>
                    simp only [Option.some.injEq] at h
                    subst h
                    obtain ⟨h1, h2⟩ := wakes_some hs4
                    exact ⟨by omega, by omega, x, r, kind, data, c, gen, cc, hp', seq', per', hx, by omega, ht, by omega, by omega, hc, by first | exact hr | (rw [hx]; exact hr), by omega, h1, h2⟩
theorem fire_none {st : WS} (h : st.fire = some none) : 0 ≤ st.now ∧ st.now ≤ maxT ∧ ∀ x r, st.hp = x :: r → st.now < x.2.1 := by
  unfold WS.fire at h
  split at h
  · cases h
  · next hg =>
    refine ⟨by omega, by omega, ?_⟩
    split at h
    · next e => intro x r q; rw [e] at q; cases q
    · next x r hx =>
      split at h
      · next hw => intro x' r' q; rw [hx] at q; cases q; exact hw
      · next hw =>
        exfalso
        repeat' (split at h)
        all_goals first | (simp at h; done) | cases h
/-- The state behind the next that is due, ahead of what it does. -/
structure Due (st s3 sF : WS) (i : Nat) (kind data : Int) (j : Nat) (gen when' : Int) (lw : List Wk) : Prop where
  tm : sF.tm[i]? = some (kind, data, j, gen)
  k3 : kind ≠ 3
  k4 : kind ≠ 4
  few : lw.length < 1000
  wake : (sF.tell 6 (-1) (i : Int) when' 0).wake lw = some s3
  ev : sF.ev.length < 1000
  now : sF.now = st.now
theorem WAt.tfire {w : World} {S : Nat → Prop} {wb : Nat} {P : Pg} {st s3 : WS} {nd nm : Nat} (h : WAt w S wb P st nd nm) (hf : st.fire = some (some s3)) (hnm : nm < 700000) :
    ∃ (mb : Nat) (i : Nat) (kind data : Int) (j : Nat) (gen when' : Int) (lw : List Wk) (n : Nat) (kept : Bool) (sF : WS), Due st s3 sF i kind data j gen when' lw ∧ lw.length = n ∧ (∀ W, Fr Nob w W → W.cell? ⟨wb, 5, none⟩ = some (ptV mb)) ∧
      ∀ W, Fr Nob w W → Calls Tryz.prog 51 #[ptV mb, inV st.now] W fun e w' => ∃ (A : Option Addr) (cp : Nat) (S' T : Nat → Prop), e = .returned (.tuple #[firedV (i : Int) kind when' st.now data (.slice A n cp) kept, .bool true]) ∧ Fr S W w' ∧ WAt w' S' wb P sF nd (nm + 9) ∧ (∀ k, S' k → S k ∨ W.heap.size ≤ k) ∧ Sl w' T 225 5 (.slice A n cp) n (wks lw) ∧ (∀ k, T k → W.heap.size ≤ k) ∧ (∀ k, S' k → T k → False) ∧ w'.cell? ⟨wb, 5, none⟩ = some (ptV mb) := by
  obtain ⟨h0, h1, x, r, kind, data, j, gen, cc, hp', seq', per', hx, hxn, htm, hk3, hk4, hch, hr, hev, hfw, hwk⟩ := fire_some hf
  obtain ⟨F, c, h, rfl, hS⟩ := h
  have hx0 : 0 ≤ x.1 := (h.tim id).ids x (by rw [hx]; simp)
  obtain ⟨i, hi⟩ : ∃ i : Nat, x.1 = (i : Int) := ⟨x.1.toNat, by omega⟩
  rw [hi] at hwk
  rw [show x.1.toNat = i by omega] at htm
  refine ⟨c.mb, i, kind, data, j, gen, x.2.1, (cc.putR st.now).1, (cc.putR st.now).1.length, (cc.putR st.now).2, { st with hp := hp', seq := seq', per := per', ch := Go.Proofs.YtcffplgimbbflaaGreat.upd st.ch j (some (cc.putS st.now)) }, ⟨htm, hk3, hk4, hfw, hwk, hev, rfl⟩, rfl, fun W hW => hW.cell id (blk_cell (h.blk id) 5 rfl), fun W hW => ?_⟩
  have hW' := h.fr0 hW
  have hd : ∀ k, F 4 k → F 11 k → False := fun k a b => absurd (h.dis _ _ _ a b) (by decide)
  refine (tim_fire (hW'.tim id) (hW'.pool id) (fun k q => hW'.lt _ _ q) hd x r hx st.now hxn h1 hnm hr i hi (kind, data, c.B j, gen) (TmOk.get h.tml htm) j rfl hch (cc.putR st.now).1 _ rfl (cc.putR st.now).2 rfl).mono ?_
  rintro e w' ⟨A, cp, S4, T, rfl, hf4, ht4, hp4, hs4, hsub4, hT4, hdT⟩
  have hn2 := chn_upd h.chn hch (cc.putS st.now)
  have h' := hW'.part2 4 11 hf4
  have h40 : ¬ F 4 c.wb := fun q => absurd (h.dis _ _ _ q h.own0) (by decide)
  have h110 : ¬ F 11 c.wb := fun q => absurd (h.dis _ _ _ q h.own0) (by decide)
  have hwp : WP H0 w' (Go.Proofs.YtcffplgimbbflaaGreat.upd F 4 S4) c P { st with hp := hp', seq := seq', per := per', ch := Go.Proofs.YtcffplgimbbflaaGreat.upd st.ch j (some (cc.putS st.now)) } nd (nm + 9) := ⟨fam_lt hW'.lt hf4.size ht4.lt, fam_dis hW'.lt hW'.dis hsub4, h'.own0, h'.own1, fun _ => h'.blk (by decide), fun _ => h'.clk (by decide), fun _ => h'.tab (by decide), fun _ => h'.chs (by decide), fun _ => ht4, fun _ => (h'.ctx (by decide)).mono (by omega), fun _ => h'.dls (by decide), fun _ => h'.lks (by decide), fun _ => h'.prg (by decide), fun _ => h'.evs (by decide), fun _ => h'.cas (by decide), fun _ => hp4, hn2, h'.tml, h'.cxl, h'.pad⟩
  have hU := fam_un (w := W) (F := F) (S := S) (fun p k q => (hS k).2 ⟨p, q⟩) hsub4
  rw [hi]
  refine ⟨A, cp, Un (Go.Proofs.YtcffplgimbbflaaGreat.upd F 4 S4), T, rfl, hf4.mono fun k _ q => ?_, ⟨_, c, hwp, rfl, fun k => Iff.rfl⟩, hU, hs4, hT4, fun k a b => ?_, hf4.cell (fun q => ?_) (hW.cell id (blk_cell (h.blk id) 5 rfl))⟩
  · rcases q with q | q
    · exact (hS k).2 ⟨4, q⟩
    · exact (hS k).2 ⟨11, q⟩
  · obtain ⟨p, a⟩ := a
    by_cases e : p = 4
    · subst e; rw [upd_same] at a; exact hdT k a b
    · rw [upd_ne _ _ e] at a
      have q1 := hW'.lt p k a; have q2 := hT4 k b; omega
  · rcases q with q | q
    · exact h40 q
    · exact h110 q
theorem WAt.tfire0 {w : World} {S : Nat → Prop} {wb : Nat} {P : Pg} {st : WS} {nd nm : Nat} (h : WAt w S wb P st nd nm) (hf : st.fire = some none) :
    ∃ mb : Nat, (∀ W, Fr Nob w W → W.cell? ⟨wb, 5, none⟩ = some (ptV mb)) ∧ ∀ W, Fr Nob w W → Calls Tryz.prog 51 #[ptV mb, inV st.now] W fun e w' => e = .returned (.tuple #[firedZ, .bool false]) ∧ Fr Nob W w' := by
  obtain ⟨h0, h1, hno⟩ := fire_none hf
  obtain ⟨F, c, h, rfl, hS⟩ := h
  exact ⟨c.mb, fun W hW => hW.cell id (blk_cell (h.blk id) 5 rfl), fun W hW => tim_fire_none ((h.fr0 hW).tim id) st.now h0 hno⟩
/-- The clock goes on, on the world. -/
theorem WAt.tclock {w : World} {S : Nat → Prop} {wb : Nat} {P : Pg} {st : WS} {nd nm : Nat} (h : WAt w S wb P st nd nm) (d : Int) (hd : 0 ≤ d) :
    ∃ cb : Nat, w.cell? ⟨wb, 1, none⟩ = some (ptV cb) ∧ Calls Tryz.prog 50 #[ptV cb, inV d] w fun e w' => e = .returned (inV 0) ∧ Nx w S wb P { st with now := addT st.now d } nd nm w' := by
  obtain ⟨F, c, h, rfl, hS⟩ := h
  refine ⟨c.cb, blk_cell (h.blk id) 1 rfl, (clock_advance (h.clk id) d hd).mono ?_⟩
  rintro e w' ⟨rfl, hf, hb⟩
  have hf1 : Fr (F 1) w w' := hf.mono fun k _ q => by rw [q]; exact h.own1
  have h' := h.part 1 hf1
  exact ⟨rfl, S, hf1.mono fun k _ q => (hS k).2 ⟨1, q⟩, ⟨F, c, ⟨h'.lt, h'.dis, h'.own0, h'.own1, fun _ => h'.blk (by decide), fun _ => hb, fun _ => h'.tab (by decide), fun _ => h'.chs (by decide), fun _ => h'.tim (by decide), fun _ => h'.ctx (by decide), fun _ => h'.dls (by decide), fun _ => h'.lks (by decide), fun _ => h'.prg (by decide), fun _ => h'.evs (by decide), fun _ => h'.cas (by decide), fun _ => h'.pool (by decide), h'.chn, h'.tml, h'.cxl, h'.pad⟩, rfl, hS⟩, fun k q => .inl q⟩
end Go.Proofs.YtcffplgimbbflaaGreat
