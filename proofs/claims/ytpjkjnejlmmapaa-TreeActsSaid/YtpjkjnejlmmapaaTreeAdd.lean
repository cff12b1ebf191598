/- What Add and Detach of package tree do where they do something. -/
import Derived.Test.YtpjkjnejlmmapaaTreeFn
import Derived.Deep.RegionHeld3
set_option linter.unusedVariables false
set_option linter.unusedSimpArgs false
namespace Go.Proofs.Ytpjkjnejlmmapaa
open Go.RowKit
set_option maxRecDepth 100000

set_option maxHeartbeats 1000000 in
theorem tree_add_lone (w : World) (S : Nat → Prop) (b : Nat) (ns : List Nd) (p : Int) (l : Bool) (n : Nat) (hnn : ns.length = n) (h : TreeAt w S b ns) (hp : -1 ≤ p) (hp2 : p < (n : Int)) (hf : n < 1000) (hl : p = -1 ∨ l = false) :
    Calls Try.prog 37 #[.pointer (some ⟨b, 0, none⟩), .int .i64 p, .bool l] w fun e w' => e = .returned (.tuple #[.int .i64 (n : Int), .int .i64 0]) ∧ Fr S w w' ∧ TreeAt w' (And' S w w') b (ns ++ [(p, false)]) := by
  have hh := fun (i : Nat) (hi : i < n) => tree_has_yes w S b ns i n hnn h hi
  obtain ⟨v, xs, M, K, h, rfl⟩ := h
  have hl2 : xs.length = n := by simpa using hnn
  have hs := h.main
  rw [hl2] at hs
  obtain ⟨A, c, hA⟩ := hs.slice
  have hbM : ¬ M b := fun q => (h.inM _ q).2.1 rfl
  subst hA
  have c0 := blk_cell h.blk 0 rfl
  have f0 := blk_froz h.blk 0
  have lb := lt_of_block h.blk
  have hfin : ∀ w1 v1, Sl w1 (fun k => M k ∨ w.heap.size ≤ k) 96 3 v1 (n + 1) (xs.flatMap ndEn ++ ndEn ((p, false), .slice none 0 0)) → Fr M w w1 → 
      Fr S w (w1.setCell ⟨b, 0, none⟩ v1) ∧ TreeAt (w1.setCell ⟨b, 0, none⟩ v1) (And' S w (w1.setCell ⟨b, 0, none⟩ v1)) b (nds xs ++ [(p, false)]) := by
    intro w1 v1 hs1 hf1
    have hb1 := hf1.blk hbM h.blk
    refine ⟨(hf1.mono fun k _ q => (h.inM k q).1).setCell (.inl h.own) _, h.lone hp (by omega) (by omega) ((hf1.mono fun k _ q => .inl q).setCell (.inl (.inr rfl)) _) (blk_set hb1 0 _) ?_⟩
    rw [hl2]
    have hs2 := hs1.fr ((Fr.refl (fun k => k = b) w1).setCell (p := ⟨b, 0, none⟩) (.inl rfl) v1) (fun k q e => by
      have e' : k = b := e
      subst e'
      rcases q with q | q; exact hbM q; omega)
    exact hs2.mono fun k hk q => by rcases q with q | q; exact .inl q; exact .inr ⟨q, hk⟩
  have Hfin := Lib.hid hfin; have Hs := Lib.hid hs; have Hb := Lib.hid h.blk; have HbM := Lib.hid hbM; have Hh := Lib.hid hh
  clear hfin hs h hl2 hnn hbM hh
  have h3 : ¬ (1000 : Int) ≤ n := by omega
  have key : ∀ (i : Nat), p = (i : Int) → l = false → Calls Try.prog 37 #[.pointer (some ⟨b, 0, none⟩), .int .i64 p, .bool l] w fun e w' => e = .returned (.tuple #[.int .i64 (n : Int), .int .i64 0]) ∧ Fr S w w' ∧ TreeAt w' (And' S w w') b (nds xs ++ [(p, false)]) := by
    rintro i rfl rfl
    have H := Lib.hid (Hh.out i (by omega))
    have hb : ((i : Int) != -1) = true := by simp
    clear hl Hh
    go_enter Try.func37, Try.ntmps37
    go_wp2_with fail
    refine H.out.mono ?_
    rintro e w' ⟨rfl, rfl⟩
    go_wp2_with (at_builtin; refine wpList_append1 _ rfl _ _ _ rfl M 96 _ 3 40 Try.underlying92 info_node rfl (by omega) (.slice A n c) n (xs.flatMap ndEn) [.int .i64 (i : Int), .bool false, .slice none 0 0] rfl Hs.out rfl rfl rfl (by omega) (by omega) ?_; intro v3 w3 hs3 hf3 hz3; obtain ⟨A3, c3, rfl⟩ := hs3.slice; have hb3 := hf3.blk HbM.out Hb.out; have d0 := blk_cell hb3 0 rfl; have g0 := blk_froz hb3 0; have Hs3 := Lib.hid hs3; have Hf3 := Lib.hid hf3; clear hb3 hs3 hf3)
    go_ret2
    exact ⟨rfl, Hfin.out _ _ Hs3.out Hf3.out⟩
  by_cases h0 : p = -1
  · subst h0
    clear hl Hh key
    cases l <;> (
    go_enter Try.func37, Try.ntmps37
    go_wp2_with (at_builtin; refine wpList_append1 _ rfl _ _ _ rfl M 96 _ 3 40 Try.underlying92 info_node rfl (by omega) (.slice A n c) n (xs.flatMap ndEn) [.int .i64 (-1), .bool false, .slice none 0 0] rfl Hs.out rfl rfl rfl (by omega) (by omega) ?_; intro v3 w3 hs3 hf3 hz3; obtain ⟨A3, c3, rfl⟩ := hs3.slice; have hb3 := hf3.blk HbM.out Hb.out; have d0 := blk_cell hb3 0 rfl; have g0 := blk_froz hb3 0; have Hs3 := Lib.hid hs3; have Hf3 := Lib.hid hf3; clear hb3 hs3 hf3)
    go_ret2
    exact ⟨rfl, Hfin.out _ _ Hs3.out Hf3.out⟩)
  · obtain ⟨i, hi⟩ := Int.eq_ofNat_of_zero_le (show 0 ≤ p by omega)
    exact key i hi (hl.resolve_left h0)

set_option maxHeartbeats 2000000 in
theorem tree_add_hang (w : World) (S : Nat → Prop) (b : Nat) (ns : List Nd) (p : Nat) (n : Nat) (hnn : ns.length = n) (h : TreeAt w S b ns) (hp2 : p < n) (hf : n < 1000) :
    Calls Try.prog 37 #[.pointer (some ⟨b, 0, none⟩), .int .i64 (p : Int), .bool true] w fun e w' => e = .returned (.tuple #[.int .i64 (n : Int), .int .i64 0]) ∧ Fr S w w' ∧ TreeAt w' (And' S w w') b (ns ++ [((p : Int), true)]) := by
  have hh := tree_has_yes w S b ns p n hnn h hp2
  have hkl : (kids ns p).length ≤ n := by rw [kids_len, ← hnn]; exact kidsN_le ns p
  obtain ⟨v, xs, M, K, h, rfl⟩ := h
  have hl2 : xs.length = n := by simpa using hnn
  have hx : xs[p]? = some xs[p] := by simp
  obtain ⟨g, off, cap, hv, hM, hg, hc1, hc2, q0, q1, q2, hfz⟩ := h.cells p _ hx
  have hk := h.kid p _ hx
  generalize xs[p] = x at *
  rw [hl2] at hv hc1
  subst hv
  have hs := h.main
  rw [hl2] at hs
  have hbM : ¬ M b := fun q => (h.inM _ q).2.1 rfl
  have hbK : ¬ K p b := fun q => (h.inK _ _ q).2.2.1 rfl
  have hgK : ¬ K p g := fun q => (h.inK _ _ q).2.2.2.1 hM
  have hbg : b ≠ g := fun e => hbM (by rw [e]; exact hM)
  have c0 := blk_cell h.blk 0 rfl
  have f0 := blk_froz h.blk 0
  have lb := lt_of_block h.blk
  have f2 := hfz (off + p * 3 + 2)
  generalize hkk' : kids (nds xs) (p : Int) = kk at *
  obtain ⟨Ak, ck, hAk⟩ := hk.slice
  obtain ⟨m, hm⟩ : ∃ m, kk.length = m := ⟨_, rfl⟩
  rw [hm] at hk hAk hkl
  rw [hAk] at hk q2
  have Hm := Lib.hid hm
  have hMS : ∀ k, M k → S k := fun k q => (h.inM k q).1
  have hKS : ∀ k, K p k → S k := fun k q => (h.inK p k q).2.1
  have hfin : ∀ w4 kv w5 v5, Fr (fun k => K p k ∨ k = g) w w4 → Sl w4 (fun k => K p k ∨ w.heap.size ≤ k) 3 1 kv (m + 1) (ints kk ++ [.int .i64 (n : Int)]) →
      Sl w5 (fun k => M k ∨ w4.heap.size ≤ k) 96 3 v5 (n + 1) ((xs.set p (x.1, kv)).flatMap ndEn ++ [.int .i64 (p : Int), .bool true, .slice none 0 0]) → Fr M w4 w5 →
      Fr S w (w5.setCell ⟨b, 0, none⟩ v5) ∧ TreeAt (w5.setCell ⟨b, 0, none⟩ v5) (And' S w (w5.setCell ⟨b, 0, none⟩ v5)) b (nds xs ++ [((p : Int), true)]) := by
    intro w4 kv w5 v5 hf4 hk4 hs5 hf5
    have hb5 := hf5.blk hbM (hf4.blk (fun q => by rcases q with q | q; exact hbK q; exact hbg q) h.blk)
    have hz4 := hf4.size
    have hz5 := hf5.size
    have hset : Fr (fun k => k = b) w5 (w5.setCell ⟨b, 0, none⟩ v5) := (Fr.refl (fun k => k = b) w5).setCell (p := ⟨b, 0, none⟩) (.inl rfl) v5
    have hfw5 : Fr (fun k => K p k ∨ M k ∨ k = b) w (w5.setCell ⟨b, 0, none⟩ v5) :=
      ((hf4.mono (T := fun k => K p k ∨ M k ∨ k = b) fun k _ q => by rcases q with q | q; exact .inl q; exact .inr (.inl (by rw [q]; exact hM))).trans0 (hf5.mono fun k _ q => .inr (.inl q))).trans0 (hset.mono fun k _ q => .inr (.inr q))
    refine ⟨hfw5.mono fun k _ q => by rcases q with q | q | q; exact hKS k q; exact hMS k q; exact q ▸ h.own, h.hang hx (by omega) hfw5 hz4 (by simpa using hz5) (blk_set hb5 0 _) (kv := kv) ?_ ?_⟩
    · rw [hkk', hm, hl2]
      have hk5 := ((hk4.mono (S' := fun k => K p k ∨ (w.heap.size ≤ k ∧ k < w4.heap.size)) fun k hk q => by rcases q with q | q; exact .inl q; exact .inr ⟨q, hk⟩).fr hf5 (fun k q r => by
        rcases q with q | q
        · exact (h.inK p k q).2.2.2.1 r
        · have := (h.inM k r).2.2; omega)).fr hset (fun k q r => by
        have r' : k = b := r
        subst r'
        rcases q with q | q
        · exact hbK q
        · omega)
      simpa [ints] using hk5
    · rw [hl2]
      exact (hs5.fr hset (fun k q r => by
        have r' : k = b := r
        subst r'
        rcases q with q | q
        · exact hbM q
        · omega)).mono fun k hk q => by rcases q with q | q; exact .inl q; exact .inr ⟨q, hk⟩
  have hset2 : ∀ w3 kv, Fr (K p) w w3 → Sl (w3.setCell ⟨g, off + p * 3 + 2, none⟩ kv) M 96 3 (.slice (some ⟨g, off, none⟩) n cap) n ((xs.set p (x.1, kv)).flatMap ndEn) := by
    intro w3 kv hf3
    have h1 := (hs.fr hf3 fun k q r => (h.inK p k r).2.2.2.1 q).set (p * 3 + 2) (by omega) kv
    rw [flat_set ndEn (fun _ => rfl) xs p x (x.1, kv) 2 kv hx (by omega) rfl, ← Nat.add_assoc] at h1
    exact h1
  have Hfin := Lib.hid hfin; have Hset2 := Lib.hid hset2
  have Hk := Lib.hid hk; have Hs := Lib.hid hs; have Hb := Lib.hid h.blk; have Hh := Lib.hid hh; have HM := Lib.hid hM; have HbM := Lib.hid hbM; have HbK := Lib.hid hbK; have HgK := Lib.hid hgK; have Hbg := Lib.hid hbg
  have c0' : w.cell? ⟨b, 0, none⟩ = some (.slice (some ⟨g, off, none⟩) n cap) := c0
  have q2' : w.cell? ⟨g, off + p * 3 + 2, none⟩ = some (.slice Ak m ck) := q2
  have C0 := Lib.hid c0'; have C2 := Lib.hid q2; have F2 := Lib.hid f2
  clear hk hs h hh hx hM hbM hbK hgK hAk hnn hl2 hm hfz q0 q1 c0 hfin hset2 hMS hKS hkk' hbg
  unfold maxLen at hc2
  have h3 : ¬ (1000 : Int) ≤ n := by omega
  have hpi : (p : Int) < n := by omega
  have hp0 : (0 : Int) ≤ p := by omega
  have hb1 : ((p : Int) != -1) = true := by simp
  go_enter Try.func37, Try.ntmps37
  go_wp2_with fail
  refine Hh.out.mono ?_
  rintro e w' ⟨rfl, rfl⟩
  go_wp2_with fail
  go_region_law ((refine step_append_sl _ (by rfl) _ _ _ (by rfl) (K p) 3 _ 1 8 Try.underlying26 info_intT rfl (by omega) (.slice Ak m ck) m (ints kk) (by rfl) ((Hk.out.alloc _).drew) ⟨w.heap.size, 0, none⟩ 1 1 [.int .i64 (n : Int)] (by rfl) (by rfl) (news_lit _ [.int .i64 (n : Int)] 3 (0, 0) _ (heap_alloc_new w _)) (by rfl) (by omega) (by omega) ?_; intro v3 w3 hs3 hf3; obtain ⟨A3, c3, rfl⟩ := hs3.slice; have hfw := ((((Fr.refl (K p) w).alloc (.cells #[.int .i64 (n : Int)] 3)).drew).trans0 hf3); have d0 := hfw.cell (p := ⟨b, 0, none⟩) HbK.out C0.out; have d2 := hfw.cell (p := ⟨g, off + p * 3 + 2, none⟩) HgK.out C2.out; have g2 := (hfw.frozen (p := ⟨g, off + p * 3 + 2, none⟩) HgK.out hg).trans F2.out; have Hs3 := Lib.hid hs3; have Hfw := Lib.hid hfw; clear hs3 hf3 hfw))
  all_goals
    have Hs4 := Lib.hid (Hset2.out w3 (.slice A3 (m + 1) c3) Hfw.out)
    have Hf4 : Hid (Fr (fun k => K p k ∨ k = g) w (w3.setCell ⟨g, off + p * 3 + 2, none⟩ (.slice A3 (m + 1) c3))) := (Hfw.out.mono fun k _ q => .inl q).setCell (.inl (.inr rfl)) _
    have Hk4 : Hid (Sl (w3.setCell ⟨g, off + p * 3 + 2, none⟩ (.slice A3 (m + 1) c3)) (fun k => K p k ∨ w.heap.size ≤ k) 3 1 (.slice A3 (m + 1) c3) (m + 1) (ints kk ++ [.int .i64 (n : Int)])) :=
      (Hs3.out.mono (S' := fun k => K p k ∨ w.heap.size ≤ k) fun k hk q => by rcases q with q | q; exact .inl q; (try simp at q); exact .inr (by omega)).fr ((Fr.refl (fun k => k = g) w3).setCell (p := ⟨g, off + p * 3 + 2, none⟩) (.inl rfl) _) fun k q r => by
        have r' : k = g := r
        subst r'
        rcases q with q | q
        · exact HgK.out q
        · omega
    have e0 := Hf4.out.cell (p := ⟨b, 0, none⟩) (fun q => by rcases q with q | q; exact HbK.out q; exact Hbg.out q) C0.out
    have Hb4 := Lib.hid (Hf4.out.blk (fun q => by rcases q with q | q; exact HbK.out q; exact Hbg.out q) Hb.out)
    clear d0 d2 g2 Hs3 Hfw
    generalize w3.setCell ⟨g, off + p * 3 + 2, none⟩ (.slice A3 (m + 1) c3) = w4 at *
    go_wp2_with (at_builtin; refine wpList_append1 _ rfl _ _ _ rfl M 96 _ 3 40 Try.underlying92 info_node rfl (by omega) (.slice (some ⟨g, off, none⟩) n cap) n _ [.int .i64 (p : Int), .bool true, .slice none 0 0] rfl Hs4.out rfl rfl rfl (by omega) (by omega) ?_; intro v5 w5 hs5 hf5 hz5; obtain ⟨A5, c5, rfl⟩ := hs5.slice; have hb5 := hf5.blk HbM.out Hb4.out; have d5 := blk_cell hb5 0 rfl; have g5 := blk_froz hb5 0; have Hs5 := Lib.hid hs5; have Hf5 := Lib.hid hf5; clear hb5 hs5 hf5)
    go_ret2
    exact ⟨rfl, Hfin.out _ _ _ _ Hf4.out Hk4.out Hs5.out Hf5.out⟩
end Go.Proofs.Ytpjkjnejlmmapaa
