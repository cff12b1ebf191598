/- What Detach, Walk and Under of package tree do. -/
import Derived.Test.YtpjkjnejlmmapaaTreeFn
set_option linter.unusedVariables false
set_option linter.unusedSimpArgs false
namespace Go.Proofs.Ytpjkjnejlmmapaa
open Go.RowKit
set_option maxRecDepth 100000

theorem tree_off_no (w : World) (S : Nat → Prop) (b : Nat) (ns : List Nd) (id : Int) (h : TreeAt w S b ns) (hno : id < 0 ∨ (ns.length : Int) ≤ id ∨ ∃ p, ns[id.toNat]? = some (p, false)) :
    Calls Try.prog 39 #[.pointer (some ⟨b, 0, none⟩), .int .i64 id] w fun e w' => e = .returned (.bool false) ∧ Fr Nob w w' := by
  by_cases hout : id < 0 ∨ (ns.length : Int) ≤ id
  · have H := Lib.hid (tree_has_no w S b ns id _ rfl h hout)
    clear h hno hout
    go_enter Try.func39, Try.ntmps39
    go_wp2_with fail
    refine H.out.mono ?_
    rintro e w' ⟨rfl, rfl⟩
    go_wp2_with fail
    go_ret
    exact ⟨rfl, Fr.refl _ _⟩
  · obtain ⟨i, rfl⟩ := Int.eq_ofNat_of_zero_le (show 0 ≤ id by omega)
    obtain ⟨p, hp⟩ : ∃ p, ns[i]? = some (p, false) := by
      rcases hno with q | q | q
      · omega
      · omega
      · simpa using q
    have H := Lib.hid (tree_has_yes w S b ns i _ rfl h (by omega))
    have hi := (List.getElem?_eq_some_iff.1 hp).1
    obtain ⟨v, xs, M, K, h, rfl⟩ := h
    obtain ⟨y, hy, hyx⟩ : ∃ y, xs[i]? = some y ∧ y.1 = (p, false) := by
      unfold nds at hp; rw [List.getElem?_map] at hp
      cases hq : xs[i]? with
      | none => simp [hq] at hp
      | some y => exact ⟨y, rfl, by simpa [hq] using hp⟩
    obtain ⟨g, off, cap, hv, hM, hg, hc1, hc2, q0, q1, q2, hfz⟩ := h.cells i y hy
    have c0 := blk_cell h.blk 0 rfl
    rw [hyx] at q1
    have e1 : w.cell? ⟨g, off + i * 3 + 1, none⟩ = some (.bool false) := q1
    have hil : i < xs.length := by simpa using hi
    subst hv
    clear h hp hy hyx hi hfz q0 q1 q2 hno hout
    generalize xs.length = n at *
    have hin : (i : Int) < n := by omega
    unfold maxLen at hc2
    go_enter Try.func39, Try.ntmps39
    go_wp2_with fail
    refine H.out.mono ?_
    rintro e w' ⟨rfl, rfl⟩
    go_wp2_with fail
    go_ret
    exact ⟨rfl, Fr.refl _ _⟩

set_option maxHeartbeats 1000000 in
theorem tree_off (w : World) (S : Nat → Prop) (b : Nat) (ns : List Nd) (i p : Nat) (h : TreeAt w S b ns) (hx : ns[i]? = some ((p : Int), true)) :
    Calls Try.prog 39 #[.pointer (some ⟨b, 0, none⟩), .int .i64 (i : Int)] w fun e w' => e = .returned (.bool true) ∧ Fr S w w' ∧ TreeAt w' S b (ns.set i ((p : Int), false)) := by
  have hi := (List.getElem?_eq_some_iff.1 hx).1
  have hh := tree_has_yes w S b ns i _ rfl h hi
  have hmem := mem_kids ns i p hx
  have hkl : (kids ns p).length ≤ 1000 := by rw [kids_len]; exact Nat.le_trans (kidsN_le ns p) h.ok.2
  have hpi : p < i := by have := (h.ok.1 i _ hx).2.1; simp at this; omega
  obtain ⟨v, xs, M, K, h, rfl⟩ := h
  have hl2 : (nds xs).length = xs.length := by simp
  rw [hl2] at hi
  obtain ⟨x, hxx, hx1⟩ : ∃ y, xs[i]? = some y ∧ y.1 = ((p : Int), true) := by
    unfold nds at hx; rw [List.getElem?_map] at hx
    cases hq : xs[i]? with
    | none => simp [hq] at hx
    | some y => exact ⟨y, rfl, by simpa [hq] using hx⟩
  have hpl : p < xs.length := by omega
  have hyy : xs[p]? = some xs[p] := by simp [hpl]
  obtain ⟨g, off, cap, hv, hM, hg, hc1, hc2, q0, q1, q2, hfz⟩ := h.cells i x hxx
  obtain ⟨g', off', cap', hv', _, _, _, _, r0, r1, r2, _⟩ := h.cells p _ hyy
  rw [hv] at hv'
  cases hv'
  have hk := h.kid p _ hyy
  generalize xs[p] = y at *
  subst hv
  have hbM : ¬ M b := fun q => (h.inM _ q).2.1 rfl
  have hbK : ¬ K p b := fun q => (h.inK _ _ q).2.2.1 rfl
  have hgK : ¬ K p g := fun q => (h.inK _ _ q).2.2.2.1 hM
  have hbg : b ≠ g := fun e => hbM (by rw [e]; exact hM)
  have c0 := blk_cell h.blk 0 rfl
  have f1 := hfz (off + i * 3 + 1)
  have f2 := hfz (off + p * 3 + 2)
  rw [hx1] at q0 q1
  generalize hkk' : kids (nds xs) (p : Int) = kk at *
  obtain ⟨Ak, ck, hAk⟩ := hk.slice
  obtain ⟨m, hm⟩ : ∃ m, kk.length = m := ⟨_, rfl⟩
  rw [hm] at hk hAk hkl
  rw [hAk] at hk r2
  have hpos : 0 < m := by rw [← hm]; exact List.length_pos_of_mem hmem
  have hlt := List.idxOf_lt_length_of_mem hmem
  have hix : ixOf kk (i : Int) = ((kk.idxOf (i : Int) : Nat) : Int) := if_pos hmem
  have her : kk.erase (i : Int) = kk.eraseIdx (kk.idxOf (i : Int)) := by rw [List.erase_eq_eraseIdx_of_idxOf (i := kk.idxOf (i : Int)) rfl]
  rw [hm] at hlt
  have hidx := fun w' (hr : Rd w' 1 (.slice Ak m ck) kk.length (ints kk)) => index_ints w' (.slice Ak m ck) kk (i : Int) hr
  rw [hix, hm] at hidx
  have hdel := fun w' (hs : Sl w' (K p) 3 1 (.slice Ak m ck) m (ints kk)) => delete_ints w' (K p) (.slice Ak m ck) kk m _ hm hlt hs
  have hoff : ∀ w1 w2 kv, Fr (fun k => K p k ∨ M k) w w1 → Sl w1 (K p) 3 1 kv (m - 1) (ints (kk.eraseIdx (kk.idxOf (i : Int)))) → Sl w1 M 96 3 (.slice (some ⟨g, off, none⟩) xs.length cap) xs.length ((xs.set i (((p : Int), false), x.2)).flatMap ndEn) →
      w2 = w1.setCell ⟨g, off + p * 3 + 2, none⟩ kv → Fr S w w2 ∧ TreeAt w2 S b ((nds xs).set i ((p : Int), false)) := by
    intro w1 w2 kv hf1 hk1 hs1 hw2
    have hset : Fr (fun k => k = g) w1 w2 := by rw [hw2]; exact (Fr.refl (fun k => k = g) w1).setCell (p := ⟨g, off + p * 3 + 2, none⟩) (.inl rfl) kv
    have hfw : Fr (fun k => K p k ∨ M k) w w2 := hf1.trans0 (hset.mono fun k _ q => .inr (by rw [q]; exact hM))
    have hy2 : (xs.set i (((p : Int), false), x.2))[p]? = some y := by rw [List.getElem?_set, if_neg (by omega)]; exact hyy
    refine ⟨hfw.mono fun k _ q => by rcases q with q | q; exact (h.inK p k q).2.1; exact (h.inM k q).1, h.off hxx hx1 hyy hfw (kv := kv) ?_ ?_⟩
    · rw [hkk', hm, her]
      exact hk1.fr hset fun k q e => hgK (by rw [← e]; exact q)
    · have h1 := hs1.set (p * 3 + 2) (by omega) kv
      rw [flat_set ndEn (fun _ => rfl) _ p y (y.1, kv) 2 kv hy2 (by omega) rfl, ← Nat.add_assoc] at h1
      rw [hw2]; exact h1
  have hs0 : Sl (w.setCell ⟨g, off + i * 3 + 1, none⟩ (.bool false)) M 96 3 (.slice (some ⟨g, off, none⟩) xs.length cap) xs.length ((xs.set i (((p : Int), false), x.2)).flatMap ndEn) := by
    have h1 := h.main.set (i * 3 + 1) (by omega) (.bool false)
    rw [flat_set ndEn (fun _ => rfl) _ i x (((p : Int), false), x.2) 1 (.bool false) hxx (by omega) (by simp [hx1]), ← Nat.add_assoc] at h1
    exact h1
  have hMK : ∀ k, M k → K p k → False := fun k a c => (h.inK p k c).2.2.2.1 a
  have Hoff := Lib.hid hoff; have Hs0 := Lib.hid hs0; have Hidx := Lib.hid hidx; have Hdel := Lib.hid hdel; have Hh := Lib.hid hh; have Hk := Lib.hid hk; have HM := Lib.hid hM; have HgK := Lib.hid hgK; have HMK := Lib.hid hMK
  have c0' : w.cell? ⟨b, 0, none⟩ = some (.slice (some ⟨g, off, none⟩) xs.length cap) := c0
  have q0' : w.cell? ⟨g, off + i * 3, none⟩ = some (.int .i64 (p : Int)) := q0
  have q1' : w.cell? ⟨g, off + i * 3 + 1, none⟩ = some (.bool true) := q1
  have r2' : w.cell? ⟨g, off + p * 3 + 2, none⟩ = some (.slice Ak m ck) := r2
  generalize kk.eraseIdx (kk.idxOf (i : Int)) = kk' at *
  generalize kk.idxOf (i : Int) = at' at *
  clear hoff hs0 hidx hdel hh hk hM hgK hMK h hx hxx hx1 hyy hAk c0 q0 q1 r0 r1 r2 q2 hkk' hm hmem hix her hfz hl2
  generalize hnn : xs.length = n at *
  have Hnn := Lib.hid hnn
  clear hnn
  have hin : (i : Int) < n := by omega
  have hpn : (p : Int) < n := by omega
  unfold maxLen at hc2
  have hne : off + i * 3 + 1 ≠ off + p * 3 + 2 := by omega
  obtain ⟨wa, hwa⟩ : ∃ wa, wa = w.setCell ⟨g, off + i * 3 + 1, none⟩ (.bool false) := ⟨_, rfl⟩
  have hfa : Fr (fun k => k = g) w wa := by rw [hwa]; exact (Fr.refl (fun k => k = g) w).setCell (p := ⟨g, off + i * 3 + 1, none⟩) (.inl rfl) _
  have a0 : wa.cell? ⟨b, 0, none⟩ = some (.slice (some ⟨g, off, none⟩) n cap) := hfa.cell (p := ⟨b, 0, none⟩) hbg c0'
  have a1 : wa.cell? ⟨g, off + i * 3, none⟩ = some (.int .i64 (p : Int)) := by rw [hwa]; exact (World.cell?_setCell_other w ⟨g, off + i * 3 + 1, none⟩ ⟨g, off + i * 3, none⟩ (.bool false) (by simp)).trans q0'
  have a2 : wa.cell? ⟨g, off + p * 3 + 2, none⟩ = some (.slice Ak m ck) := by rw [hwa]; exact (World.cell?_setCell_other w ⟨g, off + i * 3 + 1, none⟩ ⟨g, off + p * 3 + 2, none⟩ (.bool false) (by intro e; injection e with _ e2; omega)).trans r2'
  have Hwa := Lib.hid hwa; have Hfa := Lib.hid hfa; have Ha0 := Lib.hid a0; have Ha1 := Lib.hid a1; have Ha2 := Lib.hid a2; have Hr2 := Lib.hid r2'; have Hf2 := Lib.hid f2
  have Hs1 : Hid (Sl wa M 96 3 (.slice (some ⟨g, off, none⟩) n cap) n ((xs.set i (((p : Int), false), x.2)).flatMap ndEn)) := by rw [hwa]; exact Hs0.out
  have hkw : Sl wa (K p) 3 1 (.slice Ak m ck) m (ints kk) := Hk.out.fr hfa fun k q e => HgK.out (by rw [← e]; exact q)
  have Hkw := Lib.hid hkw
  clear hwa hfa a0 a1 a2 r2' hkw
  go_enter Try.func39, Try.ntmps39
  go_wp2_with fail
  refine Hh.out.mono ?_
  rintro e w' ⟨rfl, rfl⟩
  go_wp2_with fail
  rw [← Hwa.out]
  clear c0' q0' q1' f1 f2
  have b0 := Ha0.out; have b1 := Ha1.out; have b2 := Ha2.out
  go_quiet (fail)
  go_wp2_with fail
  refine (Hidx.out _ (Hkw.out.drewN nq).rd).mono ?_
  rintro e w' ⟨rfl, rfl⟩
  go_wp2_with fail
  refine (Hdel.out _ (Hkw.out.drewN _)).mono ?_
  rintro e w3 ⟨v3, rfl, hf3, hs3⟩
  obtain ⟨A3, c3, rfl⟩ := hs3.slice
  have hfw : Fr (K p) wa w3 := ((Fr.refl (K p) wa).drewN nq).trans0 hf3
  have d2 := hfw.cell (p := ⟨g, off + p * 3 + 2, none⟩) HgK.out Ha2.out
  have hs4 := Hs1.out.fr hfw HMK.out
  obtain ⟨g4, o4, c4, hv4, _, _, _, _, _, hfz4⟩ := hs4.form (by omega)
  cases hv4
  have g2 := hfz4 (off + p * 3 + 2)
  have Hs3 := Lib.hid hs3; have Hs4 := Lib.hid hs4
  have Hfw : Hid (Fr (fun k => K p k ∨ M k) w w3) := (Hfa.out.mono fun k _ q => .inr (by rw [q]; exact HM.out)).trans0 (hfw.mono fun k _ q => .inl q)
  clear hf3 hs3 hfw hs4 hfz4 b0 b1 b2
  go_wp2_with fail
  go_ret
  exact ⟨rfl, Hoff.out _ _ _ Hfw.out Hs3.out Hs4.out rfl⟩

theorem tree_walk_no (w : World) (S : Nat → Prop) (b : Nat) (ns : List Nd) (id : Int) (n : Nat) (hn : ns.length = n) (h : TreeAt w S b ns) (hi : id < 0 ∨ (n : Int) ≤ id) :
    Calls Try.prog 46 #[.pointer (some ⟨b, 0, none⟩), .int .i64 id] w fun e w' => e = .returned (.slice none 0 0) ∧ Fr Nob w w' := by
  have H := Lib.hid (tree_has_no w S b ns id n hn h hi)
  clear h hn hi
  go_enter Try.func46, Try.ntmps46
  go_wp2_with fail
  refine H.out.mono ?_
  rintro e w' ⟨rfl, rfl⟩
  go_wp2_with fail
  go_ret
  exact ⟨rfl, Fr.refl _ _⟩
set_option maxHeartbeats 2000000 in
theorem tree_walk (b : Nat) (ns : List Nd) : ∀ (f : Nat) (id : Nat) (w : World) (S : Nat → Prop), ns.length ≤ id + f → id < ns.length → TreeAt w S b ns →
    Calls Try.prog 46 #[.pointer (some ⟨b, 0, none⟩), .int .i64 (id : Int)] w fun e w' => ∃ v, e = .returned v ∧ Fr Nob w w' ∧ Sl w' (From w.heap.size) 3 1 v (walk ns id).length (ints (walk ns id)) := by
  intro f
  induction f with
  | zero => intro id w S h1 h2; omega
  | succ f ih =>
    intro id w S h1 h2 h
    have IH := Lib.hid ih
    have H := Lib.hid (h.mono (S' := fun k => S k ∧ k < w.heap.size) fun k hk q => ⟨q, hk⟩)
    have hh := tree_has_yes w S b ns id _ rfl h h2
    have ho := h.ok.1
    have hfew := h.ok.2
    have hw0 := walkTo_zero ns id
    have hwa := walkTo_all ns ho id
    have hws := walkTo_succ ns id
    have hwl := fun j => walkTo_le ns ho id j h2
    have hkg : ∀ (j : Nat), j < (kids ns id).length → ∃ c, (kidsN ns id)[j]? = some c ∧ (ints (kids ns id))[j]? = some (.int .i64 (c : Int)) ∧ id < c ∧ c < ns.length ∧ (walk ns c).length ≤ ns.length := fun j hj => by
      rw [kids_len] at hj
      have hm := List.getElem_mem hj
      refine ⟨(kidsN ns id)[j], by simp [hj], by simp [kids, hj], kidsN_gt ns ho id _ hm, kidsN_lt ns id _ hm, walk_len ns ho _ (kidsN_lt ns id _ hm)⟩
    have hkl : (kids ns id).length ≤ ns.length := by rw [kids_len]; exact kidsN_le ns id
    have hkk : (kids ns id).length = (kidsN ns id).length := kids_len ns id
    rw [← hkk] at hwa
    rw [← hwa]
    obtain ⟨v, xs, M, K, h, hns⟩ := h
    have hl2 : xs.length = ns.length := by rw [← hns]; simp
    have hx : xs[id]? = some xs[id] := by simp
    obtain ⟨g, off, cap, hv, hM, hg, hc1, hc2, q0, q1, q2, hfz⟩ := h.cells id _ hx
    have hk := h.kid id _ hx
    rw [hns] at hk
    generalize xs[id] = x at *
    subst hv
    have hkS : ∀ k, K id k → k < w.heap.size := fun k q => (h.inK id k q).2.2.2.2
    have c0 := blk_cell h.blk 0 rfl
    obtain ⟨Ak, ck, hAk⟩ := hk.slice
    rw [hAk] at hk q2
    rw [hl2] at c0 hc1
    have Hw0 := Lib.hid hw0; have Hws := Lib.hid hws; have Hwl := Lib.hid hwl; have Hkg := Lib.hid hkg; have Hh := Lib.hid hh
    clear h hx hM q0 q1 hfz hAk ho hw0 hwa hws hwl hkg hkk ih hh hns hl2
    generalize hnn : ns.length = n at *
    clear hnn
    generalize hwt : walkTo ns id = wt at *
    clear hwt
    generalize hkk : kids ns id = kk at *
    clear hkk
    generalize hkm : kk.length = m at *
    clear hkm
    have Hk := Lib.hid hk
    have c0' : w.cell? ⟨b, 0, none⟩ = some (.slice (some ⟨g, off, none⟩) n cap) := c0
    have q2' : w.cell? ⟨g, off + id * 3 + 2, none⟩ = some (.slice Ak m ck) := q2
    clear hk c0 q2
    have n0 := ((Fr.refl Nob w).alloc (.cells #[.int .i64 (id : Int)] 3)).cell (p := ⟨b, 0, none⟩) (fun q => q) c0'
    have n2 := ((Fr.refl Nob w).alloc (.cells #[.int .i64 (id : Int)] 3)).cell (p := ⟨g, off + id * 3 + 2, none⟩) (fun q => q) q2'
    have h4 : (id : Int) < n := by omega
    unfold maxLen at hc2
    go_enter Try.func46, Try.ntmps46
    go_wp2_with fail
    refine Hh.out.mono ?_
    rintro e w' ⟨rfl, rfl⟩
    go_wp2_with fail
    have hl1 : Sl (w.alloc (.cells #[.int .i64 (id : Int)] 3)) (fun k => k = w.heap.size) 3 1 (.slice (some ⟨w.heap.size, 0, none⟩) 1 1) 1 (ints (wt 0)) := by
      rw [Hw0.out]; exact Sl.lit w 3 1 #[.int .i64 (id : Int)] 1 _ rfl (by simp [maxLen]) rfl
    have hf1 : Fr Nob w (w.alloc (.cells #[.int .i64 (id : Int)] 3)) := (Fr.refl _ _).alloc _
    have hz1 : (w.alloc (.cells #[.int .i64 (id : Int)] 3)).heap.size = w.heap.size + 1 := by simp
    have Hk1 := Lib.hid (Hk.out.fr hf1 fun _ _ q => q)
    have ht1 : Two w.heap.size (w.alloc (.cells #[.int .i64 (id : Int)] 3)) (fun k => k = w.heap.size) Nob := ⟨fun k q => by omega, fun k q => q.elim, fun k p q => q⟩
    have hw1 : (wt 0).length = 1 := by rw [Hw0.out]; rfl
    have Hw1 := Lib.hid hw1
    have Hl1 := Lib.hid hl1; have Hf1 := Lib.hid hf1; have Ht1 := Lib.hid ht1
    clear hl1 hf1 hz1 ht1 hw1 c0' q2' n0 n2
    go_loopw [4, 6, 22] (fun o k i wr => ∃ (j : Nat) (SL : Nat → Prop) (kz : Value), j ≤ m ∧ k = kz ∧ i = .int .i64 j ∧ Fr (From w.heap.size) w wr ∧ Two w.heap.size wr SL Nob ∧ Sl wr SL 3 1 o (wt j).length (ints (wt j)) ∧ Sl wr (K id) 3 1 (.slice Ak m ck) m (ints kk)) (fun _ _ i _ => m - (intOf i).toNat)
    case atStart => exact ⟨0, _, _, Nat.zero_le _, rfl, rfl, Hf1.out.none, Ht1.out, by rw [Hw1.out]; exact Hl1.out, Hk1.out⟩
    case round =>
      obtain ⟨k, SL, kz, hk, rfl, rfl, hfr, htw, hsl, hsk⟩ := hrel
      clear Hf1 Ht1 Hl1 Hk1
      obtain ⟨Al, cl, rfl⟩ := hsl.slice
      have Hfr := Lib.hid hfr; have Htw := Lib.hid htw; have Hsl := Lib.hid hsl; have Hsk := Lib.hid hsk
      clear hfr htw hsl hsk
      by_cases hlt : k < m
      · obtain ⟨c, hc1', hc2', hc3, hc4, hc5⟩ := Hkg.out k hlt
        obtain ⟨gk, offk, capk, hv, hSg, hgk, hcap, hmax, hcell, _⟩ := Hsk.out.form (by omega)
        cases hv
        have e1 := hcell _ _ hc2'
        have hsucc := Hws.out k c hc1'
        have hlen := Hwl.out k
        have Hsucc := Lib.hid hsucc
        have hrec := IH.out c wr _ (by omega) (by omega) (H.out.fr Hfr.out fun j q r => by unfold From at r; omega)
        have Hrec := Lib.hid hrec
        clear hcell hc1' hc2' hsucc hrec
        go_wp2_with fail
        refine Hrec.out.mono ?_
        rintro e w3 ⟨v3, rfl, hf3, hs3⟩
        obtain ⟨A3, c3, rfl⟩ := hs3.slice
        have Hf3 := Lib.hid hf3; have Hs3 := Lib.hid hs3
        have Hl3 := Lib.hid (Hsl.out.fr hf3 fun _ _ q => q)
        clear hf3 hs3
        go_wp2_with (at_builtin; refine wpList_append_rd _ rfl _ _ _ rfl SL 3 _ 1 8 Try.underlying26 info_intT rfl (by omega) (.slice Al (wt k).length cl) (wt k).length (ints (wt k)) rfl Hl3.out _ (walk ns c).length (ints (walk ns c)) rfl Hs3.out.rd (ints_one _) (by omega) (by omega) ?_; intro v4 w4 hs4 hf4)
        have hs5 : Sl w4 (And' SL w3 w4) 3 1 v4 (wt (k + 1)).length (ints (wt (k + 1))) := by
          rw [Hsucc.out, List.length_append]; simpa [ints] using hs4.mono (fun j hj q => there j hj q)
        obtain ⟨A4, c4, rfl⟩ := hs5.slice
        have hz4 := hf4.size
        have hz3 : w.heap.size ≤ w3.heap.size := Nat.le_trans Hfr.out.size Hf3.out.size
        have Hs5 := Lib.hid hs5
        have Ht5 := Lib.hid ((Htw.out.fr Hf3.out).growL hz4 hz3)
        have Hk5 := Lib.hid ((Hsk.out.fr Hf3.out fun _ _ q => q).fr hf4 fun j p q => by have := (Htw.out.l j q).1; have := hkS j p; omega)
        have Hf5 := Lib.hid ((Hfr.out.trans0 Hf3.out.none).trans0 (hf4.mono fun j _ q => (Htw.out.l j q).1))
        clear hs4 hf4 hs5 hz4 hz3
        go_wp2_with fail
        go_roundw
        case rel => exact ⟨k + 1, _, _, by omega, rfl, by go_num, Hf5.out, Ht5.out, Hs5.out, Hk5.out⟩
        case measure => simp [intOf]; omega
      · obtain rfl : k = m := by omega
        go_wp2_with fail
        go_ret
        exact ⟨_, rfl, Hfr.out.mono fun j hj q => by unfold From at q; omega, Hsl.out.mono fun j hj q => (Htw.out.l j q).1⟩
theorem tree_under (w : World) (S : Nat → Prop) (b : Nat) (ns : List Nd) (id : Int) (top : Nat) (h : TreeAt w S b ns) (hi : top < ns.length) :
    Calls Try.prog 47 #[.pointer (some ⟨b, 0, none⟩), .int .i64 id, .int .i64 (top : Int)] w fun e w' => e = .returned (.bool (decide (id ∈ walk ns top))) ∧ Fr Nob w w' := by
  have H := Lib.hid (tree_walk b ns ns.length top w S (by omega) hi h)
  clear h hi
  go_enter Try.func47, Try.ntmps47
  go_wp2_with fail
  refine H.out.mono ?_
  rintro e w1 ⟨v, rfl, hf1, hs1⟩
  obtain ⟨A, c, rfl⟩ := hs1.slice
  have Hf1 := Lib.hid hf1; have Hs1 := Lib.hid hs1.rd
  clear hf1 hs1
  go_wp2_with fail
  refine (contains_ints w1 _ _ id Hs1.out).mono ?_
  rintro e w2 ⟨rfl, rfl⟩
  go_wp2_with fail
  go_ret
  exact ⟨rfl, Hf1.out⟩
theorem tree_under_no (w : World) (S : Nat → Prop) (b : Nat) (ns : List Nd) (id top : Int) (h : TreeAt w S b ns) (hi : top < 0 ∨ (ns.length : Int) ≤ top) :
    Calls Try.prog 47 #[.pointer (some ⟨b, 0, none⟩), .int .i64 id, .int .i64 top] w fun e w' => e = .returned (.bool false) ∧ Fr Nob w w' := by
  have H := Lib.hid (tree_walk_no w S b ns top _ rfl h hi)
  clear h hi
  go_enter Try.func47, Try.ntmps47
  go_wp2_with fail
  refine H.out.mono ?_
  rintro e w1 ⟨rfl, hf1⟩
  have Hf1 := Lib.hid hf1
  clear hf1
  have hn : Rd w1 1 (.slice none 0 0) ([] : List Int).length (ints []) := (Sl.nil w1 Nob 3 1).rd
  have Hn := Lib.hid hn
  clear hn
  go_wp2_with fail
  refine (contains_ints w1 _ [] id Hn.out).mono ?_
  rintro e w2 ⟨rfl, rfl⟩
  go_wp2_with fail
  go_ret
  exact ⟨by simp, Hf1.out⟩
end Go.Proofs.Ytpjkjnejlmmapaa
