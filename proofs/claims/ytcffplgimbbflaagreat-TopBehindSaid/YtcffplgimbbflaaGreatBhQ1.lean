/- TopBehind answers true whatever its inputs are: no condition. -/
import Derived.Test.YtcffplgimbbflaaGreatBhQ0
set_option linter.unusedVariables false
set_option linter.unusedSimpArgs false
namespace Go.Proofs.YtcffplgimbbflaaGreat
open Go.RowKit
set_option maxRecDepth 100000
set_option maxHeartbeats 1000000 in
theorem tree_off (w : World) (S : Nat → Prop) (b : Nat) (ns : List Nd) (i p : Nat) (h : TreeAt w S b ns) (hx : ns[i]? = some ((p : Int), true)) :
    Calls Tryz.prog 164 #[.pointer (some ⟨b, 0, none⟩), .int .i64 (i : Int)] w fun e w' => e = .returned (.bool true) ∧ Fr S w w' ∧ TreeAt w' S b (ns.set i ((p : Int), false)) := by
  have hi := (List.getElem?_eq_some_iff.1 hx).1
  have hh := tree_has_yes w S b ns i _ rfl h hi
  have hmem := mem_kids ns i p hx
  have hkl : (kids ns p).length ≤ 1000 := by rw [kids_len]; exact Nat.le_trans (kidsN_le ns p) h.ok.2
  have hpi : p < i := by have := (h.ok.1 i _ hx).2.1; simp at this; omega
  obtain ⟨v, xs, M, K, h, rfl⟩ := h
  have hl2 : (nds xs).length = xs.length := by simp
  rw [hl2] at hi
  obtain ⟨x, hxx, hx1⟩ : ∃ y, xs[i]? = some y ∧ y.1 = ((p : Int), true) := by
    unfold nds at hx; rw [List.getElem?_map] at hx
    cases hq : xs[i]? with
    | none => simp [hq] at hx
    | some y => exact ⟨y, rfl, by simpa [hq] using hx⟩
  have hpl : p < xs.length := by omega
  have hyy : xs[p]? = some xs[p] := by simp [hpl]
  obtain ⟨g, off, cap, hv, hM, hg, hc1, hc2, q0, q1, q2, hfz⟩ := h.cells i x hxx
  obtain ⟨g', off', cap', hv', _, _, _, _, r0, r1, r2, _⟩ := h.cells p _ hyy
  rw [hv] at hv'
  cases hv'
  have hk := h.kid p _ hyy
  generalize xs[p] = y at *
  subst hv
  have hbM : ¬ M b := fun q => (h.inM _ q).2.1 rfl
  have hbK : ¬ K p b := fun q => (h.inK _ _ q).2.2.1 rfl
  have hgK : ¬ K p g := fun q => (h.inK _ _ q).2.2.2.1 hM
  have hbg : b ≠ g := fun e => hbM (by rw [e]; exact hM)
  have c0 := blk_cell h.blk 0 rfl
  have f1 := hfz (off + i * 3 + 1)
  have f2 := hfz (off + p * 3 + 2)
  rw [hx1] at q0 q1
  generalize hkk' : kids (nds xs) (p : Int) = kk at *
  obtain ⟨Ak, ck, hAk⟩ := hk.slice
  obtain ⟨m, hm⟩ : ∃ m, kk.length = m := ⟨_, rfl⟩
  rw [hm] at hk hAk hkl
  rw [hAk] at hk r2
  have hpos : 0 < m := by rw [← hm]; exact List.length_pos_of_mem hmem
  have hlt := List.idxOf_lt_length_of_mem hmem
  have hix : ixOf kk (i : Int) = ((kk.idxOf (i : Int) : Nat) : Int) := if_pos hmem
  have her : kk.erase (i : Int) = kk.eraseIdx (kk.idxOf (i : Int)) := by rw [List.erase_eq_eraseIdx_of_idxOf (i := kk.idxOf (i : Int)) rfl]
  rw [hm] at hlt
  have hidx := fun w' (hr : Rd w' 1 (.slice Ak m ck) kk.length (ints kk)) => index_ints w' (.slice Ak m ck) kk (i : Int) hr
  rw [hix, hm] at hidx
  have hdel := fun w' (hs : Sl w' (K p) 3 1 (.slice Ak m ck) m (ints kk)) => delete_ints w' (K p) (.slice Ak m ck) kk m _ hm hlt hs
  have hoff : ∀ w1 w2 kv, Fr (fun k => K p k ∨ M k) w w1 → Sl w1 (K p) 3 1 kv (m - 1) (ints (kk.eraseIdx (kk.idxOf (i : Int)))) → Sl w1 M 203 3 (.slice (some ⟨g, off, none⟩) xs.length cap) xs.length ((xs.set i (((p : Int), false), x.2)).flatMap ndEn) →
      w2 = w1.setCell ⟨g, off + p * 3 + 2, none⟩ kv → Fr S w w2 ∧ TreeAt w2 S b ((nds xs).set i ((p : Int), false)) := by
    intro w1 w2 kv hf1 hk1 hs1 hw2
    have hset : Fr (fun k => k = g) w1 w2 := by rw [hw2]; exact (Fr.refl (fun k => k = g) w1).setCell (p := ⟨g, off + p * 3 + 2, none⟩) (.inl rfl) kv
    have hfw : Fr (fun k => K p k ∨ M k) w w2 := hf1.trans0 (hset.mono fun k _ q => .inr (by rw [q]; exact hM))
    have hy2 : (xs.set i (((p : Int), false), x.2))[p]? = some y := by rw [List.getElem?_set, if_neg (by omega)]; exact hyy
    refine ⟨hfw.mono fun k _ q => by rcases q with q | q; exact (h.inK p k q).2.1; exact (h.inM k q).1, h.off hxx hx1 hyy hfw (kv := kv) ?_ ?_⟩
    · rw [hkk', hm, her]
      exact hk1.fr hset fun k q e => hgK (by rw [← e]; exact q)
    · have h1 := hs1.set (p * 3 + 2) (by omega) kv
      rw [flat_set ndEn (fun _ => rfl) _ p y (y.1, kv) 2 kv hy2 (by omega) rfl, ← Nat.add_assoc] at h1
      rw [hw2]; exact h1
  have hs0 : Sl (w.setCell ⟨g, off + i * 3 + 1, none⟩ (.bool false)) M 203 3 (.slice (some ⟨g, off, none⟩) xs.length cap) xs.length ((xs.set i (((p : Int), false), x.2)).flatMap ndEn) := by
    have h1 := h.main.set (i * 3 + 1) (by omega) (.bool false)
    rw [flat_set ndEn (fun _ => rfl) _ i x (((p : Int), false), x.2) 1 (.bool false) hxx (by omega) (by simp [hx1]), ← Nat.add_assoc] at h1
    exact h1
  have hMK : ∀ k, M k → K p k → False := fun k a c => (h.inK p k c).2.2.2.1 a
  have Hoff := Lib.hid hoff; have Hs0 := Lib.hid hs0; have Hidx := Lib.hid hidx; have Hdel := Lib.hid hdel; have Hh := Lib.hid hh; have Hk := Lib.hid hk; have HM := Lib.hid hM; have HgK := Lib.hid hgK; have HMK := Lib.hid hMK
  have c0' : w.cell? ⟨b, 0, none⟩ = some (.slice (some ⟨g, off, none⟩) xs.length cap) := c0
  have q0' : w.cell? ⟨g, off + i * 3, none⟩ = some (.int .i64 (p : Int)) := q0
  have q1' : w.cell? ⟨g, off + i * 3 + 1, none⟩ = some (.bool true) := q1
  have r2' : w.cell? ⟨g, off + p * 3 + 2, none⟩ = some (.slice Ak m ck) := r2
  generalize kk.eraseIdx (kk.idxOf (i : Int)) = kk' at *
  generalize kk.idxOf (i : Int) = at' at *
  clear hoff hs0 hidx hdel hh hk hM hgK hMK h hx hxx hx1 hyy hAk c0 q0 q1 r0 r1 r2 q2 hkk' hm hmem hix her hfz hl2
  generalize hnn : xs.length = n at *
  have Hnn := Lib.hid hnn
  clear hnn
  have hin : (i : Int) < n := by omega
  have hpn : (p : Int) < n := by omega
  unfold maxLen at hc2
  have hne : off + i * 3 + 1 ≠ off + p * 3 + 2 := by omega
  obtain ⟨wa, hwa⟩ : ∃ wa, wa = w.setCell ⟨g, off + i * 3 + 1, none⟩ (.bool false) := ⟨_, rfl⟩
  have hfa : Fr (fun k => k = g) w wa := by rw [hwa]; exact (Fr.refl (fun k => k = g) w).setCell (p := ⟨g, off + i * 3 + 1, none⟩) (.inl rfl) _
  have a0 : wa.cell? ⟨b, 0, none⟩ = some (.slice (some ⟨g, off, none⟩) n cap) := hfa.cell (p := ⟨b, 0, none⟩) hbg c0'
  have a1 : wa.cell? ⟨g, off + i * 3, none⟩ = some (.int .i64 (p : Int)) := by rw [hwa]; exact (World.cell?_setCell_other w ⟨g, off + i * 3 + 1, none⟩ ⟨g, off + i * 3, none⟩ (.bool false) (by simp)).trans q0'
  have a2 : wa.cell? ⟨g, off + p * 3 + 2, none⟩ = some (.slice Ak m ck) := by rw [hwa]; exact (World.cell?_setCell_other w ⟨g, off + i * 3 + 1, none⟩ ⟨g, off + p * 3 + 2, none⟩ (.bool false) (by intro e; injection e with _ e2; omega)).trans r2'
  have Hwa := Lib.hid hwa; have Hfa := Lib.hid hfa; have Ha0 := Lib.hid a0; have Ha1 := Lib.hid a1; have Ha2 := Lib.hid a2; have Hr2 := Lib.hid r2'; have Hf2 := Lib.hid f2
  have Hs1 : Hid (Sl wa M 203 3 (.slice (some ⟨g, off, none⟩) n cap) n ((xs.set i (((p : Int), false), x.2)).flatMap ndEn)) := by rw [hwa]; exact Hs0.out
  have hkw : Sl wa (K p) 3 1 (.slice Ak m ck) m (ints kk) := Hk.out.fr hfa fun k q e => HgK.out (by rw [← e]; exact q)
  have Hkw := Lib.hid hkw
  clear hwa hfa a0 a1 a2 r2' hkw
  go_enter Tryz.func164, Tryz.ntmps164
  go_wp2_with fail
  refine Hh.out.mono ?_
  rintro e w' ⟨rfl, rfl⟩
  go_wp2_with fail
  rw [← Hwa.out]
  clear c0' q0' q1' f1 f2
  have b0 := Ha0.out; have b1 := Ha1.out; have b2 := Ha2.out
  go_quiet (fail)
  go_wp2_with fail
  refine (Hidx.out _ (Hkw.out.drewN nq).rd).mono ?_
  rintro e w' ⟨rfl, rfl⟩
  go_wp2_with fail
  refine (Hdel.out _ (Hkw.out.drewN _)).mono ?_
  rintro e w3 ⟨v3, rfl, hf3, hs3⟩
  obtain ⟨A3, c3, rfl⟩ := hs3.slice
  have hfw : Fr (K p) wa w3 := ((Fr.refl (K p) wa).drewN nq).trans0 hf3
  have d2 := hfw.cell (p := ⟨g, off + p * 3 + 2, none⟩) HgK.out Ha2.out
  have hs4 := Hs1.out.fr hfw HMK.out
  obtain ⟨g4, o4, c4, hv4, _, _, _, _, _, hfz4⟩ := hs4.form (by omega)
  cases hv4
  have g2 := hfz4 (off + p * 3 + 2)
  have Hs3 := Lib.hid hs3; have Hs4 := Lib.hid hs4
  have Hfw : Hid (Fr (fun k => K p k ∨ M k) w w3) := (Hfa.out.mono fun k _ q => .inr (by rw [q]; exact HM.out)).trans0 (hfw.mono fun k _ q => .inl q)
  clear hf3 hs3 hfw hs4 hfz4 b0 b1 b2
  go_wp2_with fail
  go_ret
  exact ⟨rfl, Hoff.out _ _ _ Hfw.out Hs3.out Hs4.out rfl⟩
section
variable {w w' : World} {S : Nat → Prop} {b tmb trb mb : Nat} {ST SL : Nat → Prop} {v : Value} {l : List CxR} {n : Nat} {ns : List Nd} {nm : Nat}
theorem CxP.toTree (h : CxP w S b tmb trb mb ST SL v l n ns nm) (hf : Fr ST w w') {ns' : List Nd} (ht : TreeAt w' ST trb ns') : CxP w' S b tmb trb mb ST SL v l n ns' nm :=
  ⟨h.own, h.ownM, h.ne, fun k q => by have := h.lt k q; have := hf.size; omega, h.subT, h.subL, hf.blk (fun q => (h.subT _ q).2.1 rfl) h.blk, h.len, h.sl.fr hf fun k q q' => (h.subL k q).2.2.2 q', ht, by obtain ⟨f, hm⟩ := h.map; exact ⟨f, hm.fr hf fun q => (h.subT _ q).2.2 rfl⟩⟩
end
theorem eql_chan_none (w : World) (q : Nat) : (binOp .eql 48 (.pointer none) (ptV q)).run Tryz.prog w = .ok (.bool false) w := by
  have h1 : ∀ d, (Op.equalIn (d + 1) 48 (.pointer none) (ptV q)).run Tryz.prog w = .ok false w := fun d => by simp [Op.equalIn, run_underlying Tryz.underlying48]
  have h2 : (Op.equal 48 (.pointer none) (ptV q)).run Tryz.prog w = .ok false w := h1 9999
  simp [binOp, h2]
section
variable {w : World} {F : Nat → Nat → Prop} {c : Cfg} {P : Pg} {st : WS} {nd nm : Nat} (h : WP H0 w F c P st nd nm)
include h
theorem index_none : Calls Tryz.prog 119 #[c.vc, .pointer none] w fun e w' => e = .returned (inV (-1)) ∧ w = w' := by
  have hs := h.chs id
  obtain ⟨A, cp, hvc⟩ := hs.slice
  rw [hvc] at hs ⊢
  have hl := hs.len_le
  unfold maxLen at hl
  have Hc := Lib.hid (fun i (hi : i < st.nch) => chs_get c.B st.nch i hi)
  have Hs := Lib.hid hs
  generalize st.nch = n at *
  clear h hs hvc
  go_enter Tryz.func119, Tryz.ntmps119
  go_wp2_with fail
  go_loopw [8] (fun i wr => ∃ k : Nat, k ≤ n ∧ i = .int .i64 k ∧ wr = w) (fun i _ => n - (intOf i).toNat)
  case atStart => exact ⟨0, Nat.zero_le _, rfl, rfl⟩
  case round =>
    obtain ⟨k, hk, rfl, rfl⟩ := hrel
    by_cases hlt : k < n
    · obtain ⟨g, off, cp', hv', hg, hgl, hc1, hc2, hc, hfz⟩ := Hs.out.form (by omega)
      injection hv' with hA hn' hcp
      subst hA; subst hcp
      have q0 := hc k _ (Hc.out k hlt)
      have hint : (k : Int) < n := by omega
      have hq := eql_chan_none wr (c.B k)
      clear hc hfz
      go_wp2_with fail
      go_roundw
      case rel => exact ⟨k + 1, by omega, by simp, by first | rfl | trivial⟩
      case measure => simp [intOf]; omega
    · have hint : ¬ (k : Int) < n := by omega
      go_wp2_with fail
      go_ret
      exact ⟨rfl, rfl⟩
theorem world_handle_none : Calls Tryz.prog 78 #[ptV c.wb, .pointer none] w fun e w' => e = .returned (inV (-1)) ∧ w = w' := by
  have Hi := Lib.hid (index_none h)
  have hb := h.blk id
  have c3 := blk_cell hb 3 rfl
  obtain ⟨A, cp, hvc⟩ := (h.chs id).slice
  rw [hvc] at c3 Hi
  clear h hb hvc
  go_enter Tryz.func78, Tryz.ntmps78
  go_wp2_with fail
  refine Hi.out.mono ?_
  rintro e _ ⟨rfl, rfl⟩
  go_wp2_with fail
  go_ret
  exact ⟨rfl, rfl⟩
end
section
variable {w : World} {ab : Nat} {x : Ax} {r : Nat → Int} {how : Int} {pk : Bool} (h : ActAt w ab x r how pk)
include h
theorem act_c (A : Nat) (hA : A < 8) (e : x.c = (A : Int)) : Calls Tryz.prog 143 #[ptV ab] w fun e w' => e = .returned (inV (x.u A)) ∧ Fr Nob w w' := by
  have k0 := xc5 h
  rw [e] at k0
  have k1 := xcU h A hA
  have hAi : (A : Int) < 8 := by omega
  have H := Lib.hid h
  clear h
  go_enter Tryz.func143, Tryz.ntmps143
  go_wp2_with fail
  go_quiet (fail)
  go_wp2_with fail
  go_ret
  exact ⟨rfl, (Fr.refl _ _).drewN _⟩
end
section
variable {w : World} {S : Nat → Prop} {b tmb : Nat} {l : List CxR} {ns : List Nd} {nm : Nat} (h : CxAt w S b tmb l ns nm)
include h
theorem cx_has (k : Int) (r : Bool) (hr : (decide (0 ≤ k) && decide (k < l.length)) = r) : Calls Tryz.prog 116 #[.pointer (some ⟨b, 0, none⟩), .int .i64 k] w fun e w' => e = .returned (.bool r) ∧ w = w' := by
  obtain ⟨trb, mb, ST, SL, v, n, h⟩ := h
  rw [h.len] at hr
  obtain ⟨A, cp, rfl, _, _, c2, _⟩ := h.cells
  clear h
  by_cases h0 : 0 ≤ k
  · have a : decide ((0 : Int) ≤ k) = true := decide_eq_true h0
    by_cases h1 : k < n
    · have a2 : decide (k < (n : Int)) = true := decide_eq_true h1
      rw [a, a2] at hr; subst hr
      go_enter Tryz.func116, Tryz.ntmps116
      go_wp2_with fail
      go_ret
      exact ⟨rfl, rfl⟩
    · have a2 : decide (k < (n : Int)) = false := decide_eq_false h1
      rw [a, a2] at hr; subst hr
      go_enter Tryz.func116, Tryz.ntmps116
      go_wp2_with fail
      go_ret
      exact ⟨rfl, rfl⟩
  · have a : decide ((0 : Int) ≤ k) = false := decide_eq_false h0
    rw [a] at hr; subst hr
    go_enter Tryz.func116, Tryz.ntmps116
    go_wp2_with fail
    go_ret
    exact ⟨rfl, rfl⟩
theorem cx_room (i : Nat) (hi : i < l.length) (h64 : l.length < 64) : Calls Tryz.prog 184 #[.pointer (some ⟨b, 0, none⟩), .int .i64 (i : Int)] w fun e w' => e = .returned (.int .i64 0) ∧ w = w' := by
  have Hh := Lib.hid (cx_has h i true (by simp; omega))
  obtain ⟨trb, mb, ST, SL, v, n, h⟩ := h
  obtain ⟨A, cp, rfl, _, _, c2, _⟩ := h.cells
  have hn : ¬ (64 : Int) ≤ (n : Int) := by have := h.len; omega
  clear h
  go_enter Tryz.func184, Tryz.ntmps184
  go_wp2_with fail
  refine Hh.out.mono ?_
  rintro e _ ⟨rfl, rfl⟩
  go_wp2_with fail
  go_ret
  exact ⟨rfl, rfl⟩
theorem cx_err (i : Nat) (x : CxR) (hi : l[i]? = some x) : Calls Tryz.prog 148 #[.pointer (some ⟨b, 0, none⟩), .int .i64 (i : Int)] w fun e w' => e = .returned (.tuple #[.int .i64 x.err, .int .i64 0]) ∧ w = w' := by
  have hil := (List.getElem?_eq_some_iff.1 hi).1
  have Hh := Lib.hid (cx_has h i true (by simp; omega))
  obtain ⟨trb, mb, ST, SL, v, n, h⟩ := h
  obtain ⟨A, cp, hv, _, _, c2, _⟩ := h.cells
  obtain ⟨g, off, cp', hv', hg, hgl, hin, hc1, hc2, ⟨q0, q1, q2, q3, q4, q5, q6, q7, q8⟩, hfz⟩ := h.item i x hi
  rw [hv] at hv'
  injection hv' with hA hn' hcp
  subst hA; subst hcp
  have hint : (i : Int) < n := by omega
  clear h hi hn' hv hil
  skip
  go_enter Tryz.func148, Tryz.ntmps148
  go_wp2_with fail
  refine Hh.out.mono ?_
  rintro e _ ⟨rfl, rfl⟩
  go_wp2_with fail
  go_ret2
  exact ⟨rfl, rfl⟩
theorem cx_cause (i : Nat) (x : CxR) (hi : l[i]? = some x) : Calls Tryz.prog 149 #[.pointer (some ⟨b, 0, none⟩), .int .i64 (i : Int)] w fun e w' => e = .returned (.tuple #[.int .i64 x.cause, .int .i64 0]) ∧ w = w' := by
  have hil := (List.getElem?_eq_some_iff.1 hi).1
  have Hh := Lib.hid (cx_has h i true (by simp; omega))
  obtain ⟨trb, mb, ST, SL, v, n, h⟩ := h
  obtain ⟨A, cp, hv, _, _, c2, _⟩ := h.cells
  obtain ⟨g, off, cp', hv', hg, hgl, hin, hc1, hc2, ⟨q0, q1, q2, q3, q4, q5, q6, q7, q8⟩, hfz⟩ := h.item i x hi
  rw [hv] at hv'
  injection hv' with hA hn' hcp
  subst hA; subst hcp
  have hint : (i : Int) < n := by omega
  clear h hi hn' hv hil
  skip
  go_enter Tryz.func149, Tryz.ntmps149
  go_wp2_with fail
  refine Hh.out.mono ?_
  rintro e _ ⟨rfl, rfl⟩
  go_wp2_with fail
  go_ret2
  exact ⟨rfl, rfl⟩
theorem cx_done (i : Nat) (x : CxR) (hi : l[i]? = some x) : Calls Tryz.prog 147 #[.pointer (some ⟨b, 0, none⟩), .int .i64 (i : Int)] w fun e w' => e = .returned (.tuple #[.pointer (ptrO x.cb), .int .i64 0]) ∧ w = w' := by
  have hil := (List.getElem?_eq_some_iff.1 hi).1
  have Hh := Lib.hid (cx_has h i true (by simp; omega))
  obtain ⟨trb, mb, ST, SL, v, n, h⟩ := h
  obtain ⟨A, cp, hv, _, _, c2, _⟩ := h.cells
  obtain ⟨g, off, cp', hv', hg, hgl, hin, hc1, hc2, ⟨q0, q1, q2, q3, q4, q5, q6, q7, q8⟩, hfz⟩ := h.item i x hi
  rw [hv] at hv'
  injection hv' with hA hn' hcp
  subst hA; subst hcp
  have hint : (i : Int) < n := by omega
  clear h hi hn' hv hil
  generalize ptrO x.cb = pc at *
  go_enter Tryz.func147, Tryz.ntmps147
  go_wp2_with fail
  refine Hh.out.mono ?_
  rintro e _ ⟨rfl, rfl⟩
  go_wp2_with fail
  go_ret2
  exact ⟨rfl, rfl⟩
theorem cx_until (i : Nat) (x : CxR) (hi : l[i]? = some x) : Calls Tryz.prog 150 #[.pointer (some ⟨b, 0, none⟩), .int .i64 (i : Int)] w fun e w' => e = .returned (.tuple #[.int .i64 x.when', .bool x.has, .int .i64 0]) ∧ Fr Nob w w' := by
  have hil := (List.getElem?_eq_some_iff.1 hi).1
  have Hh := Lib.hid (cx_has h i true (by simp; omega))
  obtain ⟨trb, mb, ST, SL, v, n, h⟩ := h
  obtain ⟨A, cp, hv, _, _, c2, _⟩ := h.cells
  obtain ⟨g, off, cp', hv', hg, hgl, hin, hc1, hc2, ⟨q0, q1, q2, q3, q4, q5, q6, q7, q8⟩, hfz⟩ := h.item i x hi
  rw [hv] at hv'
  injection hv' with hA hn' hcp
  subst hA; subst hcp
  have hint : (i : Int) < n := by omega
  clear h hi hn' hv hil
  go_enter Tryz.func150, Tryz.ntmps150
  go_wp2_with fail
  refine Hh.out.mono ?_
  rintro e _ ⟨rfl, rfl⟩
  go_wp2_with fail
  go_quiet (fail)
  go_wp2_with fail
  go_ret3
  exact ⟨rfl, (Fr.refl Nob w).drewN _⟩
theorem cx_begin (i j : Nat) (x : CxR) (hi : l[i]? = some x) (he : x.err = 0) : Calls Tryz.prog 186 #[.pointer (some ⟨b, 0, none⟩), .int .i64 (j : Int), .int .i64 (i : Int)] w fun e w' => e = .returned (.slice none 0 0) ∧ Fr Nob w w' := by
  have hil := (List.getElem?_eq_some_iff.1 hi).1
  obtain ⟨trb, mb, ST, SL, v, n, h⟩ := h
  obtain ⟨A, cp, hv, _, _, c2, _⟩ := h.cells
  obtain ⟨g, off, cp', hv', hg, hgl, hin, hc1, hc2, ⟨q0, q1, q2, q3, q4, q5, q6, q7, q8⟩, hfz⟩ := h.item i x hi
  rw [hv] at hv'
  injection hv' with hA hn' hcp
  subst hA; subst hcp
  have hint : (i : Int) < n := by omega
  rw [he] at q3
  clear h hi hn' hv hil he
  generalize ptrO x.cb = pc at *
  go_enter Tryz.func186, Tryz.ntmps186
  go_wp2_with fail
  go_ret
  exact ⟨rfl, by first | exact (Fr.refl _ _).alloc _ | skip⟩
end
section
variable {w : World} {S : Nat → Prop} {b tmb : Nat} {l : List CxR} {ns : List Nd} {nm : Nat} (h : CxAt w S b tmb l ns nm)
include h
set_option maxHeartbeats 1000000 in
theorem cx_without (n : Nat) (hl : l.length = n) (hn : n < 64) (i : Nat) (x : CxR) (hi : l[i]? = some x) (hx : x.node < ns.length) (hns : ns.length < 900) (hnm : nm < 900000) :
    Calls Tryz.prog 146 #[.pointer (some ⟨b, 0, none⟩), .int .i64 (i : Int)] w fun e w' => ∃ S' : Nat → Prop, e = .returned (.tuple #[.int .i64 (n : Int), .int .i64 0]) ∧ Fr S w w' ∧ CxAt w' S' b tmb (l ++ [⟨ns.length, true, none, 0, 0, 0, false, false⟩]) (ns ++ [((x.node : Int), false)]) (nm + 1) ∧ ∀ k, S' k → S k ∨ w.heap.size ≤ k := by
  have hil := (List.getElem?_eq_some_iff.1 hi).1
  have Hr := Lib.hid (cx_room h i hil (by omega))
  have Hadd := Lib.hid (show Calls Tryz.prog 45 #[.pointer (some ⟨b, 0, none⟩), .agg #[.int .i64 0, .bool true, .pointer none, .int .i64 0, .int .i64 0, .int .i64 0, .bool false, .bool false, .int .i64 0], .int .i64 (x.node : Int)] w _ from
    cx_add h n hl (by omega) (by omega) hnm true none 0 0 0 false false (x.node : Int) false rfl (ns' := ns ++ [((x.node : Int), false)]) fun W ST trb ht => tree_add_lone W ST trb ns (x.node : Int) false ns.length rfl ht (by omega) (by omega) (by omega) (.inr rfl))
  obtain ⟨trb, mb, ST, SL, v, n', h⟩ := h
  obtain rfl : n' = n := by rw [← h.len, hl]
  obtain ⟨A, cp, hv, _, _, c2, _⟩ := h.cells
  obtain ⟨g, off, cp', hv', hg, hgl, hin, hc1, hc2, ⟨q0, q1, q2, q3, q4, q5, q6, q7, q8⟩, hfz⟩ := h.item i x hi
  rw [hv] at hv'
  injection hv' with hA hn' hcp
  subst hA; subst hcp
  have hint : (i : Int) < n' := by omega
  clear h hi hn' hv hil
  go_enter Tryz.func146, Tryz.ntmps146
  go_wp2_with fail
  refine Hr.out.mono ?_
  rintro e _ ⟨rfl, rfl⟩
  go_wp2_with fail
  refine Hadd.out.mono ?_
  rintro e w1 ⟨S', rfl, hf, hc, hs⟩
  have Hf := Lib.hid hf; have Hc := Lib.hid hc; have Hs := Lib.hid hs
  clear hf hc hs
  go_wp2_with fail
  go_ret2
  exact ⟨S', rfl, Hf.out, Hc.out, Hs.out⟩
end
/-- A context made that is not done. -/
def CxMade (w : World) (S : Nat → Prop) (b tmb : Nat) (l : List CxR) (ns : List Nd) (nm n : Nat) (x : CxR) (e : Ending) (w' : World) : Prop := ∃ (S' T : Nat → Prop) (cb : Nat), e = .returned (.tuple #[.int .i64 (n : Int), .slice none 0 0, .int .i64 0]) ∧ Fr S w w' ∧ CxAt w' S' b tmb (l ++ [⟨ns.length, false, some cb, 0, 0, x.when', x.has, false⟩]) (ns ++ [((x.node : Int), true)]) (nm + 1) ∧ ChanAt w' T cb chSignal ∧ (∀ k, T k → w.heap.size ≤ k) ∧ (∀ k, S' k → T k → False) ∧ ∀ k, S' k → S k ∨ w.heap.size ≤ k
set_option maxHeartbeats 2000000 in
theorem cx_cancels {w : World} {S : Nat → Prop} {b tmb : Nat} {l : List CxR} {ns : List Nd} {nm : Nat} (h : CxAt w S b tmb l ns nm) (n : Nat) (hl : l.length = n) (hn : n < 64) (i : Nat) (x : CxR) (hi : l[i]? = some x) (hx : x.node < ns.length) (he : x.err = 0) (hns : ns.length < 900) (hnm : nm < 900000) :
    Calls Tryz.prog 145 #[.pointer (some ⟨b, 0, none⟩), .int .i64 (i : Int)] w (CxMade w S b tmb l ns nm n x) := by
  have hil := (List.getElem?_eq_some_iff.1 hi).1
  have Hr := Lib.hid (cx_room h i hil (by omega))
  have Hadd := Lib.hid (fun W (hW : Fr Nob w W) (cb : Nat) => show Calls Tryz.prog 45 #[.pointer (some ⟨b, 0, none⟩), .agg #[.int .i64 0, .bool false, .pointer (some ⟨cb, 0, none⟩), .int .i64 0, .int .i64 0, .int .i64 x.when', .bool x.has, .bool false, .int .i64 0], .int .i64 (x.node : Int)] W _ from
    cx_add (h.fr0 hW) n hl (by omega) (by omega) hnm false (some cb) 0 0 x.when' x.has false (x.node : Int) true rfl (ns' := ns ++ [((x.node : Int), true)]) fun W ST trb ht => tree_add_hang W ST trb ns x.node ns.length rfl ht (by omega) (by omega))
  have H := Lib.hid h
  obtain ⟨trb, mb, ST, SL, v, n', h⟩ := h
  obtain rfl : n' = n := by rw [← h.len, hl]
  obtain ⟨A, cp, hv, _, _, c2, _⟩ := h.cells
  obtain ⟨g, off, cp', hv', hg, hgl, hin, hc1, hc2, ⟨q0, q1, q2, q3, q4, q5, q6, q7, q8⟩, hfz⟩ := h.item i x hi
  rw [hv] at hv'
  injection hv' with hA hn' hcp
  subst hA; subst hcp
  have hint : (i : Int) < n' := by omega
  have hbl := h.lt b h.own
  have Hi := Lib.hid hi; have He := Lib.hid he; have Hlt := Lib.hid h.lt; have Hl := Lib.hid hl
  clear h hi hn' hv hil he hl
  obtain ⟨pc, hpc⟩ : ∃ pc, pc = ptrO x.cb := ⟨_, rfl⟩
  rw [← hpc] at q2
  clear hpc
  go_enter Tryz.func145, Tryz.ntmps145
  go_wp2_with fail
  refine Hr.out.mono ?_
  rintro e _ ⟨rfl, rfl⟩
  go_wp2_with fail
  obtain ⟨w1, hw1⟩ : ∃ w1, w1 = w.alloc (.cells #[.int .i64 (x.node : Int), .bool x.free, .pointer pc, .int .i64 x.err, .int .i64 x.cause, .int .i64 x.when', .bool x.has, .bool x.own, .int .i64 (-1)] 120) := ⟨_, rfl⟩
  rw [← hw1]
  obtain ⟨ub, hub⟩ : ∃ ub, ub = w.heap.size := ⟨_, rfl⟩
  try rw [← hub]
  have hf1 : Fr Nob w w1 := by rw [hw1]; exact (Fr.refl Nob w).alloc _
  have hu1 : w1.heap[ub]? = some (.cells #[.int .i64 (x.node : Int), .bool x.free, .pointer pc, .int .i64 x.err, .int .i64 x.cause, .int .i64 x.when', .bool x.has, .bool x.own, .int .i64 (-1)] 120 (0, 0)) := by rw [hw1, hub]; exact heap_alloc_new _ _
  have hul := lt_of_block hu1
  have Hub := Lib.hid hub
  have key : ∀ W, Fr S w1 W → W.cell? ⟨ub, 0, none⟩ = some (.int .i64 (x.node : Int)) ∧ W.cell? ⟨ub, 5, none⟩ = some (.int .i64 x.when') ∧ W.cell? ⟨ub, 6, none⟩ = some (.bool x.has) := fun W hW => by
    have q := hW.blk (fun a => by have := Hlt.out _ a; have := Hub.out; omega) hu1
    exact ⟨blk_cell q 0 rfl, blk_cell q 5 rfl, blk_cell q 6 rfl⟩
  have Key := Lib.hid key; have Hf1 := Lib.hid hf1
  have HN := Lib.hid (fun W => chan_signal W)
  clear hw1 hub hf1 hu1 key q0 q1 q2 q3 q4 q5 q6 q7 q8 c2
  have hf0 : Fr Nob w1 w1 := Fr.refl _ _
  go_wp2_with fail
  go_region_held3 (fun W => W.cell? ⟨ub, 0, none⟩ = some (.int .i64 (x.node : Int)) ∧ W.cell? ⟨ub, 5, none⟩ = some (.int .i64 x.when') ∧ W.cell? ⟨ub, 6, none⟩ = some (.bool x.has))
    ((refine Key.out _ ?_; first | with_reducible exact hf3 | with_reducible exact hf2.none | with_reducible exact hf0.drew.none | exact hf0.drew.none))
    ((first
      | (go_at_call 185; refine (HN.out w1.drew).mono ?_; rintro e w2 ⟨cb, T, rfl, hf2', hc2, hT2⟩; have hf2 : Fr Nob w1 w2 := hf0.drew.trans0 hf2'; have Hc2 := Lib.hid hc2; have HT2 := Lib.hid hT2; clear hc2 hT2 hf2')
      | (go_at_call 45; refine (Hadd.out w2 (Hf1.out.trans0 hf2) cb).mono ?_; rintro e w3 ⟨S3, rfl, hf3', ha3, hs3⟩; have hf3 : Fr S w1 w3 := hf2.none.trans0 hf3'; have Ha3 := Lib.hid ha3; have Hs3 := Lib.hid hs3; have Hf3' := Lib.hid hf3'; clear ha3 hs3 hf3')))
  all_goals
    have Hf2 := Lib.hid hf2; have Hf3 := Lib.hid hf3
    have Hl3 := Lib.hid ((List.getElem?_append_left (List.getElem?_eq_some_iff.1 Hi.out).1).trans Hi.out : (l ++ [(⟨ns.length, false, some cb, 0, 0, x.when', x.has, false⟩ : CxR)])[i]? = some x)
    have Hb := Lib.hid (cx_begin Ha3.out i n' x Hl3.out He.out)
    clear hf2 hf3 hf0
    go_wp2_with fail
    refine Hb.out.mono ?_
    rintro e w4 ⟨rfl, hf4⟩
    have Hf4 := Lib.hid hf4
    clear hf4
    go_wp2_with fail
    go_ret3
    have z1 := Hf1.out.size; have z2 := Hf2.out.size; have z3 := Hf3.out.size
    have hTl := Hc2.out.lt
    have hap : ∀ k, T k → ¬ S k := fun k q a => by have := HT2.out k q; have := Hlt.out k a; have e : w1.drew.heap.size = w1.heap.size := rfl; omega
    refine ⟨S3, T, cb, rfl, Hf1.out.none.trans0 (Hf3.out.trans Hf4.out fun _ _ q => q.elim), Ha3.out.fr0 Hf4.out, (Hc2.out.fr Hf3'.out fun k q a => hap k q a).fr0 Hf4.out, fun k q => ?_, fun k a q => ?_, fun k a => ?_⟩
    · have := HT2.out k q; have e : w1.drew.heap.size = w1.heap.size := rfl; omega
    · rcases Hs3.out k a with r | r
      · exact hap k q r
      · have := hTl k q; omega
    · rcases Hs3.out k a with r | r
      · exact .inl r
      · exact .inr (by omega)
/-- A timer that is none is not stopped. -/
theorem tim_stop_none {w : World} {S : Nat → Prop} {b : Nat} {l : List Tr} {named : Nat} {hp : List Hi} {seq : Nat} {per : Int → Option Int} {nm : Nat} (h : TmAt w S b l named hp seq per nm) : Calls Tryz.prog 141 #[.pointer (some ⟨b, 0, none⟩), .int .i64 (-1)] w fun e w' => e = .returned (.tuple #[.bool false, .int .i64 4]) ∧ w = w' := by
  have Hh := Lib.hid (tim_has h (-1) false (by simp))
  clear h
  go_enter Tryz.func141, Tryz.ntmps141
  go_wp2_with fail
  refine Hh.out.mono ?_
  rintro e _ ⟨rfl, rfl⟩
  go_wp2_with fail
  go_ret2
  exact ⟨rfl, rfl⟩
theorem CxP.toRow {w w' : World} {S : Nat → Prop} {b tmb trb mb : Nat} {ST SL : Nat → Prop} {v : Value} {l l' : List CxR} {n : Nat} {ns : List Nd} {nm : Nat} (h : CxP w S b tmb trb mb ST SL v l n ns nm) (hf : Fr SL w w') (hl : l'.length = n) (hs : Sl w' SL 120 9 v n (cxs l')) : CxP w' S b tmb trb mb ST SL v l' n ns nm :=
  ⟨h.own, h.ownM, h.ne, fun k q => by have := h.lt k q; have := hf.size; omega, h.subT, h.subL, hf.blk (fun q => (h.subL _ q).2.1 rfl) h.blk, hl, hs, h.tree.fr hf fun k q q' => (h.subL k q').2.2.2 q, by obtain ⟨f, hm⟩ := h.map; exact ⟨f, hm.fr hf fun q => (h.subL _ q).2.2.1 rfl⟩⟩
/-- What cancel tells, and what is when it has. -/
def CnP (w : World) (S SP : Nat → Prop) (b tmb : Nat) (B : Nat → Nat) (l : List CxR) (ns : List Nd) (nm i : Nat) (err cause : Int) (nw : Nat) (lw : List Wk) (P : Nat → Option ChS) (tl : List Value) (e : Ending) (w' : World) : Prop := ∃ (ob : Nat) (A : Option Addr) (cp : Nat), e = .returned (.tuple (#[.slice (some ⟨ob, 0, none⟩) 1 1, .slice none 0 0] ++ tl.toArray)) ∧ Fr (Or' S SP) w w' ∧ CxAt w' S b tmb l ns nm ∧ Pool w' SP B P ∧ w'.heap[ob]? = some (.cells #[.int .i64 (i : Int), .int .i64 err, .int .i64 cause, .slice A nw cp] 217 (0, 0)) ∧ w.heap.size ≤ ob ∧ Sl w' (fun k => w.heap.size ≤ k ∧ k < ob) 225 5 (.slice A nw cp) nw (wks lw)
section
variable {w : World} {S S4 SP : Nat → Prop} {b tmb : Nat} {l : List CxR} {ns : List Nd} {nm : Nat} (h : CxAt w S b tmb l ns nm)
  {tl : List Tr} {named : Nat} {hp : List Hi} {seq : Nat} {per : Int → Option Int} {nt : Nat} (ht : TmAt w S4 tmb tl named hp seq per nt) {B : Nat → Nat} {P : Nat → Option ChS} (hpl : Pool w SP B P)
  (d1 : ∀ k, S k → S4 k → False) (d2 : ∀ k, S k → SP k → False) (d3 : ∀ k, S4 k → SP k → False)
include h ht hpl d1 d2 d3
set_option maxHeartbeats 4000000 in
theorem cx_cancel (i : Nat) (x : CxR) (hi : l[i]? = some x) (hfree : x.free = false) (herr : x.err = 0) (j : Nat) (hxc : x.cb = some (B j)) {c : ChS} (hj : P j = some c) (p : Nat) (hlink : ns[x.node]? = some ((p : Int), true)) (hkids : kids ns x.node = []) (err cause : Int) (lw : List Wk) (nw : Nat) (hlw : c.endR = lw) (hnw : lw.length = nw) :
    Calls Tryz.prog 117 #[.pointer (some ⟨b, 0, none⟩), .int .i64 (i : Int), .int .i64 err, .int .i64 cause] w
      (CnP w S SP b tmb B (l.set i { x with err := err, cause := cause }) (ns.set x.node ((p : Int), false)) nm i err cause nw lw (Go.Proofs.YtcffplgimbbflaaGreat.upd P j (some c.endS)) []) := by
  have hil := (List.getElem?_eq_some_iff.1 hi).1
  have hnl := (List.getElem?_eq_some_iff.1 hlink).1
  have hSlt := h.lt
  obtain ⟨trb, mb, ST, SL, v, n, h⟩ := h
  obtain ⟨A, cp, hv, c0, c1, c2, c3, c4, f2⟩ := h.cells
  obtain ⟨g, off, cp', hv', hg, hgl, hin, hc1, hc2, ⟨q0, q1, q2, q3, q4, q5, q6, q7, q8⟩, hfz⟩ := h.item i x hi
  rw [hv] at hv'
  injection hv' with hA hn' hcp
  subst hA; subst hcp; subst hv
  have hint : (i : Int) < n := by omega
  have f3 := hfz (off + i * 9 + 3)
  have f4 := hfz (off + i * 9 + 4)
  rw [hfree] at q1
  rw [herr] at q3
  have e2 : ptrO x.cb = some ⟨B j, 0, none⟩ := by rw [hxc]; rfl
  rw [e2] at q2
  have H := Lib.hid h; have Ht := Lib.hid ht; have Hpl := Lib.hid hpl; have D1 := Lib.hid d1; have D2 := Lib.hid d2; have D3 := Lib.hid d3
  have Hi := Lib.hid hi; have Hj := Lib.hid hj; have Hlink := Lib.hid hlink; have Hkids := Lib.hid hkids; have Hlw := Lib.hid hlw; have Hnw := Lib.hid hnw; have Hlt := Lib.hid hSlt
  have C0 := Lib.hid c0; have C1 := Lib.hid c1; have Q0 := Lib.hid q0; have Q8 := Lib.hid q8; have Q2 := Lib.hid q2; have Hil := Lib.hid hil; have Hnl := Lib.hid hnl; have Hfree := Lib.hid hfree
  have f4' : (w.setCell ⟨g, off + i * 9 + 3, none⟩ (.int .i64 err)).frozen? ⟨g, off + i * 9 + 4, none⟩ = false := by rw [World.frozen?_setCell]; exact f4
  have k4 : (w.setCell ⟨g, off + i * 9 + 3, none⟩ (.int .i64 err)).cell? ⟨g, off + i * 9 + 4, none⟩ = some (.int .i64 x.cause) := (World.cell?_setCell_other _ _ _ _ (by intro h; simp only [Addr.mk.injEq] at h; omega)).trans q4
  have k2 : ((w.setCell ⟨g, off + i * 9 + 3, none⟩ (.int .i64 err)).setCell ⟨g, off + i * 9 + 4, none⟩ (.int .i64 cause)).cell? ⟨g, off + i * 9 + 2, none⟩ = some (.pointer (some ⟨B j, 0, none⟩)) := (World.cell?_setCell_other _ _ _ _ (by intro h; simp only [Addr.mk.injEq] at h; omega)).trans ((World.cell?_setCell_other _ _ _ _ (by intro h; simp only [Addr.mk.injEq] at h; omega)).trans q2)
  have hgS : S g := (h.subL g hg).1
  have hgb : g ≠ b := (h.subL g hg).2.1
  clear h ht hpl d1 d2 d3 hi hj hlink hkids hlw hnw hSlt hn' e2 c0 c1 c3 c4 f2 q0 q5 q6 q7 q8 hil hnl hfree herr hxc
  go_enter Tryz.func117, Tryz.ntmps117
  go_wp2_with fail
  obtain ⟨w1, hw1⟩ : ∃ w1, w1 = (w.setCell ⟨g, off + i * 9 + 3, none⟩ (.int .i64 err)).setCell ⟨g, off + i * 9 + 4, none⟩ (.int .i64 cause) := ⟨_, rfl⟩
  rw [← hw1]
  have hfw1 : Fr SL w w1 := by rw [hw1]; exact ((Fr.refl SL w).setCell (p := ⟨g, off + i * 9 + 3, none⟩) (.inl hg) _).setCell (p := ⟨g, off + i * 9 + 4, none⟩) (.inl hg) _
  have hln := H.out.len
  have hsl1 : Sl w1 SL 120 9 (.slice (some ⟨g, off, none⟩) n cp) n (cxs (l.set i { x with err := err, cause := cause })) := by
    have h1 := (H.out.sl.set (i * 9 + 3) (by omega) (.int .i64 err)).set (i * 9 + 4) (by omega) (.int .i64 cause)
    rw [flat_set cxEn (fun _ => rfl) l i x { x with err := err } 3 _ Hi.out (by omega) rfl, flat_set cxEn (fun _ => rfl) (l.set i { x with err := err }) i { x with err := err } { x with err := err, cause := cause } 4 _ (by rw [List.getElem?_set_self Hil.out]) (by omega) rfl, List.set_set] at h1
    rw [hw1, Nat.add_assoc off, Nat.add_assoc off]
    exact h1
  have hz1 := hfw1.size
  have H1 := Lib.hid (H.out.toRow hfw1 (by rw [List.length_set]; exact hln) hsl1)
  have Hf1 := Lib.hid (hfw1.mono fun k _ q => (H.out.subL k q).1 : Fr S w w1)
  have P1 := Lib.hid (Hpl.out.fr Hf1.out fun k a b => D2.out k b a)
  clear hw1 hfw1 hsl1 hln q1 q2 q3 q4 c2 f3 f4 f4' k4 k2
  refine (pool_over P1.out j Hj.out lw nw Hlw.out rfl Hnw.out).mono ?_
  rintro e w2 ⟨A2, cp2, rfl, hf2, hp2, hsl2⟩
  have H2 := Lib.hid (H1.out.fr hf2 fun k a b => D2.out k a b)
  have hf02 : Fr (Or' S SP) w w2 := (Hf1.out.mono fun k _ q => .inl q).trans0 (hf2.mono fun k _ q => .inr q)
  have Hf02 := Lib.hid hf02; have Hp2 := Lib.hid hp2; have Hsl2 := Lib.hid (hsl2.mono (S' := fun k => w.heap.size ≤ k ∧ k < w2.heap.size) fun k hk q => ⟨by have : w1.heap.size ≤ k := q; omega, hk⟩)
  have hz2 := hf2.size
  clear hf2 hp2 hsl2 hf02
  go_wp2_with fail
  obtain ⟨w3, hw3⟩ : ∃ w3, w3 = w2.alloc (.cells #[.int .i64 (i : Int), .int .i64 err, .int .i64 cause, .slice A2 nw cp2] 217) := ⟨_, rfl⟩
  rw [← hw3]
  obtain ⟨ob, hob⟩ : ∃ ob, ob = w2.heap.size := ⟨_, rfl⟩
  try rw [← hob]
  have hf23 : Fr Nob w2 w3 := by rw [hw3]; exact (Fr.refl Nob w2).alloc _
  have hb3 : w3.heap[ob]? = some (.cells #[.int .i64 (i : Int), .int .i64 err, .int .i64 cause, .slice A2 nw cp2] 217 (0, 0)) := by rw [hw3, hob]; exact heap_alloc_new _ _
  have Hob := Lib.hid hob
  have H3 := Lib.hid (H2.out.fr0 hf23)
  have Hf03 := Lib.hid (Hf02.out.trans hf23 fun _ _ q => q.elim : Fr (Or' S SP) w w3)
  have Hb3 := Lib.hid hb3; have Hp3 := Lib.hid (Hp2.out.fr0 hf23); have Hsl3 := Lib.hid (Hsl2.out.fr hf23 fun _ _ q => q)
  have HT := Lib.hid (fun W (hW : Fr Nob w3 W) => tim_stop_none ((Ht.out.fr Hf03.out fun k a b => by rcases b with b | b; exact D1.out k b a; exact D3.out k a b).fr hW fun _ _ q => q))
  clear hw3 hob hf23 hb3
  have hxl : (l.set i { x with err := err, cause := cause })[i]? = some { x with err := err, cause := cause } := by rw [List.getElem?_set_self Hil.out]
  obtain ⟨g', off', cp', hv', _, _, _, _, _, ⟨r0, _, _, _, _, _, _, _, r8⟩, _⟩ := H3.out.item i _ hxl
  injection hv' with hA hn' hcp
  injection hA with hA
  injection hA with hA1 hA2 hA3
  subst hA1; subst hA2; subst hcp
  obtain ⟨A', cp', hv, c0, c1, c2, _⟩ := H3.out.cells
  have key : ∀ W, Fr Nob w3 W → W.cell? ⟨b, 0, none⟩ = some (.pointer (some ⟨tmb, 0, none⟩)) ∧ W.cell? ⟨b, 1, none⟩ = some (.pointer (some ⟨trb, 0, none⟩)) ∧ W.cell? ⟨g, off + i * 9, none⟩ = some (.int .i64 (x.node : Int)) ∧ W.cell? ⟨g, off + i * 9 + 8, none⟩ = some (.int .i64 (-1)) := fun W hW => ⟨hW.cell (fun q => q) c0, hW.cell (fun q => q) c1, hW.cell (fun q => q) r0, hW.cell (fun q => q) r8⟩
  have Key := Lib.hid key
  clear key c0 c1 c2 r0 r8 hv hn' hA3 hxl C0 C1 Q0 Q8 Q2
  have hf0 : Fr Nob w3 w3 := Fr.refl _ _
  go_wp2_with fail
  go_region_held3 (fun W => W.cell? ⟨b, 0, none⟩ = some (.pointer (some ⟨tmb, 0, none⟩)) ∧ W.cell? ⟨b, 1, none⟩ = some (.pointer (some ⟨trb, 0, none⟩)) ∧ W.cell? ⟨g, off + i * 9, none⟩ = some (.int .i64 (x.node : Int)) ∧ W.cell? ⟨g, off + i * 9 + 8, none⟩ = some (.int .i64 (-1)))
    ((refine Key.out _ ?_; first | with_reducible exact hf0.drew | exact hf0.drew))
    ((go_at_call 141; refine (HT.out w3.drew hf0.drew).mono ?_; rintro e _ ⟨rfl, rfl⟩))
  obtain ⟨w4, hw4⟩ : ∃ w4, w4 = w3.drew := ⟨_, rfl⟩
  try rw [← hw4]
  have hf4 : Fr Nob w3 w4 := by rw [hw4]; exact hf0.drew
  have HK := Lib.hid (fun W (hW : Fr Nob w4 W) => tree_kids W ST trb (ns) x.node Hnl.out ((H3.out.tree.fr0 hf4).fr0 hW))
  rw [Hkids.out] at HK
  have hf40 : Fr Nob w4 w4 := Fr.refl _ _
  clear hw4 hf0
  go_wp2_with fail
  go_region_held3 (fun W => W.cell? ⟨b, 0, none⟩ = some (.pointer (some ⟨tmb, 0, none⟩)) ∧ W.cell? ⟨b, 1, none⟩ = some (.pointer (some ⟨trb, 0, none⟩)) ∧ W.cell? ⟨g, off + i * 9, none⟩ = some (.int .i64 (x.node : Int)) ∧ W.cell? ⟨g, off + i * 9 + 8, none⟩ = some (.int .i64 (-1)))
    ((refine Key.out _ ?_; first | with_reducible exact hf4.trans0 hf5 | with_reducible exact hf4.trans0 hf40.drew | exact hf4.trans0 hf40.drew))
    ((go_at_call 162; refine (HK.out w4.drew hf40.drew).mono ?_; rintro e w5 ⟨v5, rfl, hf5', hs5⟩; obtain ⟨A5, cp5, rfl⟩ := hs5.slice; have hf5 : Fr Nob w4 w5 := hf40.drew.trans0 hf5'))
  obtain ⟨w6, hw6⟩ : ∃ w6, w6 = w5 := ⟨_, rfl⟩
  have Hf6 : Hid (Fr Nob w3 w6) := Lib.hid (by rw [hw6]; exact hf4.trans0 hf5)
  clear hs5 hf5 hf5' hf40 hf4 HK HT
  go_wp2_with fail
  subst hw6
  go_loopw [8, 9, 70] (fun o s i wr => o = .slice (some ⟨ob, 0, none⟩) 1 1 ∧ s = .slice none 0 0 ∧ i = .int .i64 0 ∧ wr = w6) (fun _ _ _ _ => 0)
  case atStart => exact ⟨rfl, rfl, rfl, rfl⟩
  case round =>
    obtain ⟨rfl, rfl, rfl, rfl⟩ := hrel
    go_wp2_with fail
    have H6 := Lib.hid (H3.out.fr0 Hf6.out)
    have HD := Lib.hid (fun W (hW : Fr Nob wr W) => tree_off W ST trb ns x.node p ((H6.out.fr0 hW).tree) Hlink.out)
    have hgST : ¬ ST g := fun q => (H3.out.subL g hg).2.2.2 q
    have hbST : ¬ ST b := fun q => (H3.out.subT b q).2.1 rfl
    have kc := Key.out wr Hf6.out
    have keyD : ∀ W, Fr ST wr W → W.cell? ⟨b, 0, none⟩ = some (.pointer (some ⟨tmb, 0, none⟩)) ∧ W.cell? ⟨b, 1, none⟩ = some (.pointer (some ⟨trb, 0, none⟩)) ∧ W.cell? ⟨g, off + i * 9, none⟩ = some (.int .i64 (x.node : Int)) ∧ W.cell? ⟨g, off + i * 9 + 8, none⟩ = some (.int .i64 (-1)) := fun W hW => ⟨hW.cell hbST kc.1, hW.cell hbST kc.2.1, hW.cell hgST kc.2.2.1, hW.cell hgST kc.2.2.2⟩
    have KeyD := Lib.hid keyD
    have hf0 : Fr ST wr wr := Fr.refl _ _
    clear kc keyD Key
    go_region_held3 (fun W => W.cell? ⟨b, 0, none⟩ = some (.pointer (some ⟨tmb, 0, none⟩)) ∧ W.cell? ⟨b, 1, none⟩ = some (.pointer (some ⟨trb, 0, none⟩)) ∧ W.cell? ⟨g, off + i * 9, none⟩ = some (.int .i64 (x.node : Int)) ∧ W.cell? ⟨g, off + i * 9 + 8, none⟩ = some (.int .i64 (-1)))
      ((refine KeyD.out _ ?_; first | with_reducible exact hf7 | with_reducible exact hf0.drew | exact hf0.drew))
      ((go_at_call 164; refine (HD.out wr.drew ((Fr.refl Nob wr).drew)).mono ?_; rintro e w7 ⟨rfl, hf7', ht7⟩; have hf7 : Fr ST wr w7 := hf0.drew.trans0 hf7'; have H7 := Lib.hid (H6.out.toTree hf7 ht7); clear ht7))
    go_wp2_with fail
    go_ret2
    have hSTS : ∀ k, ST k → S k := fun k q => (H.out.subT k q).1
    have hwob : w.heap.size ≤ ob := by have := Hob.out; omega
    have hobS : ¬ ST ob := fun q => by have := Hlt.out ob (hSTS _ q); omega
    have hf67 : Fr Nob w3 wr := Hf6.out
    refine ⟨ob, A2, cp2, rfl, (Hf03.out.trans Hf6.out fun _ _ q => q.elim).trans0 (hf7.mono fun k _ q => .inl (hSTS k q)), ⟨trb, mb, ST, SL, _, n, H7.out⟩, (Hp3.out.fr0 Hf6.out).fr hf7 (fun k a q => D2.out k (hSTS k q) a), hf7.blk hobS (Hf6.out.blk (fun q => q) Hb3.out), hwob, ?_⟩
    have e1 : (fun k => w.heap.size ≤ k ∧ k < w2.heap.size) = (fun k => w.heap.size ≤ k ∧ k < ob) := by rw [Hob.out]
    rw [← e1]
    exact (Hsl3.out.fr Hf6.out fun _ _ q => q).fr hf7 fun k a q => by have := Hlt.out k (hSTS k q); omega
/-- The same from without. -/
theorem cx_over (i : Nat) (x : CxR) (hi : l[i]? = some x) (hfree : x.free = false) (herr : x.err = 0) (j : Nat) (hxc : x.cb = some (B j)) {c : ChS} (hj : P j = some c) (p : Nat) (hlink : ns[x.node]? = some ((p : Int), true)) (hkids : kids ns x.node = []) (cause : Int) (hcause : 1 ≤ cause) (lw : List Wk) (nw : Nat) (hlw : c.endR = lw) (hnw : lw.length = nw) :
    Calls Tryz.prog 92 #[.pointer (some ⟨b, 0, none⟩), .int .i64 (i : Int), .int .i64 cause] w
      (CnP w S SP b tmb B (l.set i { x with err := 1, cause := cause }) (ns.set x.node ((p : Int), false)) nm i 1 cause nw lw (Go.Proofs.YtcffplgimbbflaaGreat.upd P j (some c.endS)) [.int .i64 0]) := by
  have hil := (List.getElem?_eq_some_iff.1 hi).1
  have Hh := Lib.hid (cx_has h i true (by simp; omega))
  have HC := Lib.hid (cx_cancel h ht hpl d1 d2 d3 i x hi hfree herr j hxc hj p hlink hkids 1 cause lw nw hlw hnw)
  obtain ⟨trb, mb, ST, SL, v, n, h⟩ := h
  obtain ⟨A, cp, hv, _, _, c2, _⟩ := h.cells
  obtain ⟨g, off, cp', hv', hg, hgl, hin, hc1, hc2, ⟨q0, q1, q2, q3, q4, q5, q6, q7, q8⟩, hfz⟩ := h.item i x hi
  rw [hv] at hv'
  injection hv' with hA hn' hcp
  subst hA; subst hcp
  have hint : (i : Int) < n := by omega
  rw [hfree] at q1
  have hc1' : ¬ cause < 1 := by omega
  clear h hi hn' hv hil ht hpl d1 d2 d3 hlink hkids hlw hnw hj herr hxc hfree q0 q2 q3 q4 q5 q6 q7 q8
  go_enter Tryz.func92, Tryz.ntmps92
  go_wp2_with fail
  refine Hh.out.mono ?_
  rintro e _ ⟨rfl, rfl⟩
  go_wp2_with fail
  refine HC.out.mono ?_
  rintro e w1 ⟨ob, A2, cp2, rfl, hq⟩
  have Hq := Lib.hid hq
  clear hq q1 c2
  go_wp2_with fail
  go_ret3
  exact ⟨ob, A2, cp2, rfl, Hq.out⟩
end
theorem world_lapse_nil (w : World) (wb : Nat) : Calls Tryz.prog 75 #[ptV wb, .slice none 0 0, .slice none 0 0] w fun e w' => e = .returned (.tuple #[]) ∧ w = w' := by
  go_enter Tryz.func75, Tryz.ntmps75
  go_wp2_with fail
  go_loopw [12] (fun i wr => i = .int .i64 0 ∧ wr = w) (fun _ _ => 0)
  case atStart => exact ⟨rfl, rfl⟩
  case round =>
    obtain ⟨rfl, rfl⟩ := hrel
    go_wp2_with fail
    go_loopw [31] (fun i wx => i = .int .i64 0 ∧ wx = wr) (fun _ _ => 0)
    case atStart => exact ⟨rfl, rfl⟩
    case round =>
      obtain ⟨rfl, rfl⟩ := hrel
      go_wp2_with fail
      go_end0
      exact ⟨rfl, rfl⟩
set_option maxHeartbeats 2000000 in
theorem world_lapse {w : World} {S : Nat → Prop} {wb : Nat} {P : Pg} {st : WS} {nd nm : Nat} (h : WAt w S wb P st nd nm) (hev : st.ev.length < 1000000) (id err cause : Int) (lw : List Wk) (nw : Nat) (hnw : lw.length = nw) {s : WS} (hs : (st.tell 7 (-1) id err cause).wake lw = some s) (ob : Nat) (A : Option Addr) (cp : Nat) (hb : w.heap[ob]? = some (.cells #[inV id, inV err, inV cause, .slice A nw cp] 217 (0, 0))) (hob : ¬ S ob)
    {T : Nat → Prop} (hsl : Sl w T 225 5 (.slice A nw cp) nw (wks lw)) (hd : ∀ k, S k → T k → False) (hT : ∀ k, T k → k < w.heap.size) (hnd : nd + nw ≤ 1000000000000) :
    Calls Tryz.prog 75 #[ptV wb, .slice (some ⟨ob, 0, none⟩) 1 1, .slice none 0 0] w fun e w' => e = .returned (.tuple #[]) ∧ Nx w S wb P s (nd + nw) nm w' := by
  have H := Lib.hid h; have Hsl := Lib.hid hsl; have Hs := Lib.hid hs; have Hd := Lib.hid hd; have HT := Lib.hid hT; have Hnw := Lib.hid hnw; have Hob := Lib.hid hob; have Hb := Lib.hid hb
  have q0 := blk_cell hb 0 rfl; have q1 := blk_cell hb 1 rfl; have q2 := blk_cell hb 2 rfl; have q3 := blk_cell hb 3 rfl
  have hz := lt_of_block hb
  have Q : Hid (w.cell? ⟨ob, 0, none⟩ = some (inV id) ∧ w.cell? ⟨ob, 1, none⟩ = some (inV err) ∧ w.cell? ⟨ob, 2, none⟩ = some (inV cause) ∧ w.cell? ⟨ob, 3, none⟩ = some (.slice A nw cp)) := ⟨q0, q1, q2, q3⟩
  clear h hsl hs hd hT hnw hob hb q0 q1 q2 q3
  go_enter Tryz.func75, Tryz.ntmps75
  go_wp2_with fail
  go_loopw [12] (fun i wr => (i = .int .i64 0 ∧ wr = w) ∨ (i = .int .i64 1 ∧ Hid (Nx w S wb P s (nd + nw) nm wr))) (fun i _ => 1 - (intOf i).toNat)
  case atStart => exact .inl ⟨rfl, rfl⟩
  case round =>
    rcases hrel with ⟨rfl, rfl⟩ | ⟨rfl, hn⟩
    · obtain ⟨q0, q1, q2, q3⟩ := Q.out
      go_wp2_with fail
      obtain ⟨w1, hw1⟩ : ∃ w1, w1 = wr.alloc (.cells #[inV id, inV err, inV cause, .slice A nw cp] 217) := ⟨_, rfl⟩
      rw [← hw1]
      obtain ⟨xb, hxb⟩ : ∃ xb, xb = wr.heap.size := ⟨_, rfl⟩
      try rw [← hxb]
      have hf1 : Fr Nob wr w1 := by rw [hw1]; exact (Fr.refl Nob wr).alloc _
      have hb1 : w1.heap[xb]? = some (.cells #[inV id, inV err, inV cause, .slice A nw cp] 217 (0, 0)) := by rw [hw1, hxb]; exact heap_alloc_new _ _
      have hxS : ∀ k, S k → k ≠ xb := fun k q e => by have := H.out.lt k q; omega
      have HxS := Lib.hid hxS; have Hb1 := Lib.hid hb1; have Hf1 := Lib.hid hf1
      have k0 := blk_cell hb1 0 rfl; have k1 := blk_cell hb1 1 rfl; have k2 := blk_cell hb1 2 rfl
      have Htl := Lib.hid ((Nx.refl (H.out.fr0 hf1)).tell 7 (-1) id err cause hev w1 (Fr.refl _ _))
      clear hw1 hxb hf1 hb1 hxS q0 q1 q2 q3
      refine Htl.out.mono ?_
      rintro e w2 ⟨rfl, hn2⟩
      have k3 := blk_cell (hn2.choose_spec.1.blk (fun q => HxS.out xb q rfl) Hb1.out) 3 rfl
      have Hn2 := Lib.hid hn2
      clear hn2 k0 k1 k2 Htl
      go_wp2_with fail
      refine (Hn2.out.wake lw nw Hnw.out Hs.out (Hsl.out.fr Hf1.out fun _ _ q => q) Hd.out (fun k q => by have := HT.out k q; have := Hf1.out.size; omega) hnd).mono ?_
      rintro e w3 ⟨rfl, hn3⟩
      have Hn3 := Lib.hid hn3
      clear hn3 k3
      go_wp2_with fail
      go_roundw
      case rel => exact .inr ⟨by first | rfl | go_num, Lib.hid (Nx.from0 Hf1.out Hn3.out)⟩
      case measure => simp [intOf]
    · go_wp2_with fail
      go_loopw [31] (fun i wx => i = .int .i64 0 ∧ wx = wr) (fun _ _ => 0)
      case atStart => exact ⟨rfl, rfl⟩
      case round =>
        obtain ⟨rfl, rfl⟩ := hrel
        go_wp2_with fail
        go_end0
        exact ⟨rfl, hn.out⟩
end Go.Proofs.YtcffplgimbbflaaGreat
