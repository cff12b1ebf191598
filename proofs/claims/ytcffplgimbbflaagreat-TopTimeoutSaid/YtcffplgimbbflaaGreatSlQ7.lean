/- Who waits on a channel, from outside; what two laws need. -/
import Derived.Test.YtcffplgimbbflaaGreatSlQ6
set_option linter.unusedVariables false
set_option linter.unusedSimpArgs false
namespace Go.Proofs.YtcffplgimbbflaaGreat
open Go.RowKit
set_option maxRecDepth 100000
set_option maxHeartbeats 2000000 in
theorem arena_set (w : World) (S : Nat → Prop) (b most n : Nat) (cs : List Value) (i : Nat) (L : List Value) (hL : L.length = 18) (hone : ∀ v ∈ L, v.oneCell' = true) (h : ArenaAt 161 98 18 w S b most n cs) (hi : i < n) :
    Calls Tryz.prog 100 #[.pointer (some ⟨b, 0, none⟩), .int .i64 (i : Int), .agg L.toArray] w fun e w' => e = .returned (.bool true) ∧ Fr S w w' ∧ ArenaAt 161 98 18 w' S b most n (rowSet cs i L) := by
  have hl := fun w' (hf : Fr Nob w w') => arena_len w' S b most n cs (h.fr hf fun _ _ q => q)
  have Hl := Lib.hid hl
  obtain ⟨v, hS, hb, hs, hn, hm⟩ := h
  obtain ⟨g, off, c, rfl, hSg, hg, hc1, hc2, hc, hfz⟩ := hs.form (by omega)
  have hlen := hs.1
  unfold maxLen at hc2
  have h0 : ¬ (i : Int) < 0 := by omega
  have h1 : ¬ (n : Int) ≤ i := by omega
  have hbl := lt_of_block hb
  have Hb := Lib.hid hb; have Hs := Lib.hid hs
  have hthere : ∀ W, Fr Nob w W → W.there g (off + i * 18) 18 := fun W hW j hj => by
    have hjl : i * 18 + j < cs.length := by rw [hlen]; have : (i + 1) * 18 ≤ n * 18 := Nat.mul_le_mul_right _ hi; omega
    have := hc (i * 18 + j) _ (List.getElem?_eq_getElem hjl)
    rw [Nat.add_assoc]
    exact ⟨by rw [hW.cell (p := ⟨g, off + (i * 18 + j), none⟩) id this]; rfl, by rw [hW.frozen (p := ⟨g, off + (i * 18 + j), none⟩) id hg]; exact hfz _⟩
  have Hth := Lib.hid hthere
  clear hl hb hs hc hfz hthere
  go_enter Tryz.func100, Tryz.ntmps100
  go_wp2_with fail
  obtain ⟨w1, hw1⟩ : ∃ w1, w1 = w.alloc (.cells L.toArray 98) := ⟨_, rfl⟩
  rw [← hw1]
  obtain ⟨pb, hpb⟩ : ∃ pb, pb = w.heap.size := ⟨_, rfl⟩
  rw [← hpb]
  have hf1 : Fr Nob w w1 := by rw [hw1]; exact (Fr.refl Nob w).alloc _
  have hb1 : w1.heap[pb]? = some (.cells L.toArray 98 (0, 0)) := by rw [hw1, hpb]; exact heap_alloc_new _ _
  have Hz1 : Hid (w.heap.size = pb) := hpb.symm
  have hgp : g ≠ pb := by omega
  have hbp : b ≠ g := fun e => hSg.2 e.symm
  clear hw1 hpb
  refine (Hl.out _ hf1).mono ?_
  rintro e wx ⟨rfl, hwx⟩
  obtain rfl : w1 = wx := hwx
  have c0 := blk_cell (hf1.blk id Hb.out) 0 rfl
  have Hf1 := Lib.hid hf1; have Hb1 := Lib.hid hb1
  have hS0 : w1.rangeAt pb 0 L ∧ w1.there g (off + i * 18) 18 ∧ w1.cell? ⟨b, 0, none⟩ = some (.slice (some ⟨g, off, none⟩) n c) := ⟨rangeRow hb1, Hth.out w1 hf1, c0⟩
  have HS0 := Lib.hid hS0
  have hu44 := Tryz.underlying98
  have hi44 : (Tryz.prog.info? 98).map (·.size) = some L.length := by rw [info_task18, hL]
  have hkeep : ∀ W : World, (W.rangeAt pb 0 L ∧ W.there g (off + i * 18) 18 ∧ W.cell? ⟨b, 0, none⟩ = some (.slice (some ⟨g, off, none⟩) n c)) → ((W.setCells g (off + i * 18) L).rangeAt pb 0 L ∧ (W.setCells g (off + i * 18) L).there g (off + i * 18) 18 ∧ (W.setCells g (off + i * 18) L).cell? ⟨b, 0, none⟩ = some (.slice (some ⟨g, off, none⟩) n c)) := fun W ⟨a, bb, cc⟩ =>
    ⟨World.rangeAt_setCells_apart a _ _ _ (.inl (Ne.symm hgp)), World.there_setCells bb _ _ _, (setCells_fr g L (off + i * 18) W).cell (p := ⟨b, 0, none⟩) hbp cc⟩
  have Hkeep := Lib.hid hkeep
  clear hf1 hb1 hkeep hS0
  go_wp2_with fail
  refine wp_region_held_drew (S := fun W => W.rangeAt pb 0 L ∧ W.there g (off + i * 18) 18 ∧ W.cell? ⟨b, 0, none⟩ = some (.slice (some ⟨g, off, none⟩) n c)) (by kernel_rfl) (by simpa using HS0.out) (fun hHeld => ?_)
  refine wpAnyH_take (i := 0) (v := ?_) rfl (by kernel_rfl) (by kernel_rfl) (by kernel_rfl) (fun _ _ _ h => h) (Or.inl ⟨by rfl, ?_⟩) (by assumption) ?_
  rotate_left
  · intro w hSw; (try dsimp only at hSw); go_simp; try with_reducible rfl
  try simp only [List.getElem_toArray, List.getElem_cons_zero, List.getElem_cons_succ, Act.put, List.setIfInBounds_toArray, List.set_cons_zero, List.set_cons_succ]
  refine wpAnyH_take (i := 1) (v := ?_) rfl (by kernel_rfl) (by kernel_rfl) (by kernel_rfl) (fun _ _ _ h => h) (Or.inl ⟨by rfl, ?_⟩) (by assumption) ?_
  rotate_left
  · intro w hSw; (try dsimp only at hSw); go_simp; try with_reducible rfl
  try simp only [List.getElem_toArray, List.getElem_cons_zero, List.getElem_cons_succ, Act.put, List.setIfInBounds_toArray, List.set_cons_zero, List.set_cons_succ]
  refine wpAnyH_take (i := 2) (v := ?_) rfl (by kernel_rfl) (by kernel_rfl) (by kernel_rfl) (fun _ _ _ h => h) (Or.inl ⟨by rfl, ?_⟩) (by assumption) ?_
  rotate_left
  · intro w hSw; (try dsimp only at hSw); go_simp; try with_reducible rfl
  try simp only [List.getElem_toArray, List.getElem_cons_zero, List.getElem_cons_succ, Act.put, List.setIfInBounds_toArray, List.set_cons_zero, List.set_cons_succ]
  refine wpAnyH_take (i := 3) (v := ?_) rfl (by kernel_rfl) (by kernel_rfl) (by kernel_rfl) (fun _ _ _ h => h) (Or.inl ⟨by rfl, ?_⟩) (by assumption) ?_
  rotate_left
  · intro w hSw; (try dsimp only at hSw); go_simp; try with_reducible rfl
  try simp only [List.getElem_toArray, List.getElem_cons_zero, List.getElem_cons_succ, Act.put, List.setIfInBounds_toArray, List.set_cons_zero, List.set_cons_succ]
  refine wpAnyH_take (i := 4) (v := ?_) rfl (by kernel_rfl) (by kernel_rfl) (by kernel_rfl) (fun _ _ _ h => h) (Or.inl ⟨by rfl, ?_⟩) (by assumption) ?_
  rotate_left
  · intro w hSw; (try dsimp only at hSw); go_simp; try with_reducible rfl
  try simp only [List.getElem_toArray, List.getElem_cons_zero, List.getElem_cons_succ, Act.put, List.setIfInBounds_toArray, List.set_cons_zero, List.set_cons_succ]
  refine wpAnyH_take (i := 5) (v := _) rfl (by kernel_rfl) (by kernel_rfl) (by kernel_rfl) (fun _ _ _ h => h) (yieldsIf_load_mid (by rfl) _ _ rfl pb 0 rfl L _ (fun w hw => hw.1) hu44 rfl hi44) (by assumption) ?_
  try simp only [List.getElem_toArray, List.getElem_cons_zero, List.getElem_cons_succ, Act.put, List.setIfInBounds_toArray, List.set_cons_zero, List.set_cons_succ]
  refine wpAnyH_take (i := 6) (v := ?_) rfl (by kernel_rfl) (by kernel_rfl) (by kernel_rfl) (fun _ _ _ h => h) (Or.inl ⟨by rfl, ?_⟩) (by assumption) ?_
  rotate_left
  · intro w hSw; (try dsimp only at hSw); go_simp; try with_reducible rfl
  try simp only [List.getElem_toArray, List.getElem_cons_zero, List.getElem_cons_succ, Act.put, List.setIfInBounds_toArray, List.set_cons_zero, List.set_cons_succ]
  refine last_store 7 _ (by kernel_rfl) rfl rfl _ _ _ rfl g (off + i * 18) L.toArray rfl rfl (by rw [List.size_toArray, hL]; exact hHeld.2.1) (by rw [List.size_toArray]; exact hi44) (all_oneCell_toArray hone) (by simpa using Hkeep.out _ hHeld) (by kernel_rfl) ?_
  have hf2 : Fr (fun k => k = g) w1 (w1.drew.setCells g (off + i * 18) L) := ((Fr.refl (fun k => k = g) w1).drew).trans0 (setCells_fr g L (off + i * 18) w1.drew)
  have hs2 := (Hs.out.fr (Hf1.out.drew) fun _ _ q => q).setRows hi hL
  have hb2 := hf2.blk hbp (Hf1.out.blk id Hb.out)
  have Hf2 := Lib.hid hf2; have Hs2 := Lib.hid hs2; have Hb2 := Lib.hid hb2
  simp only [List.getElem_toArray, List.getElem_cons_zero, List.getElem_cons_succ, Act.put, List.setIfInBounds_toArray, List.set_cons_zero, List.set_cons_succ]
  clear hHeld hf2 hs2 hb2 c0
  go_wp2_with fail
  go_ret
  exact ⟨rfl, (Hf1.out.none.trans Hf2.out fun k _ e => by rw [e]; exact hSg.1), _, hS, Hb2.out, Hs2.out, hn, hm⟩
/-- The place of x in l; -1: nowhere. -/
def ixOf (l : List Int) (x : Int) : Int := if x ∈ l then ((l.idxOf x : Nat) : Int) else -1
theorem idxOf_at (l : List Int) (x : Int) (k : Nat) (hk : k < l.length) (hx : l.getD k 0 = x) (hn : x ∉ l.take k) : l.idxOf x = k := by
  have h1 : l[k] = x := by simpa [List.getD, hk] using hx
  have hm : x ∈ l := by rw [← h1]; exact List.getElem_mem hk
  have h2 := List.idxOf_lt_length_of_mem hm
  have h3 : l[l.idxOf x] = x := List.getElem_idxOf h2
  rcases Nat.lt_trichotomy (l.idxOf x) k with h | h | h
  · exfalso; apply hn
    rw [← h3]
    exact List.mem_take_iff_getElem.2 ⟨l.idxOf x, by omega, rfl⟩
  · exact h
  · exfalso
    have := List.not_of_lt_findIdx (p := fun y => y == x) (xs := l) (i := k) h
    simp [h1] at this
theorem ixOf_at (l : List Int) (x : Int) (k : Nat) (hk : k < l.length) (hx : l.getD k 0 = x) (hn : x ∉ l.take k) : ixOf l x = k := by
  have h1 : l[k] = x := by simpa [List.getD, hk] using hx
  have hm : x ∈ l := by rw [← h1]; exact List.getElem_mem hk
  rw [ixOf, if_pos hm, idxOf_at l x k hk hx hn]
theorem ixOf_no (l : List Int) (x : Int) (hn : x ∉ l) : ixOf l x = -1 := if_neg hn
theorem ixOf_ge (l : List Int) (x : Int) : decide (0 ≤ ixOf l x) = decide (x ∈ l) := by
  unfold ixOf; by_cases h : x ∈ l <;> simp [h]
set_option maxHeartbeats 400000 in
theorem index_ints (w : World) (v : Value) (l : List Int) (x : Int) (h : Rd w 1 v l.length (ints l)) :
    Calls Tryz.prog 108 #[v, .int .i64 x] w fun e w' => e = .returned (.int .i64 (ixOf l x)) ∧ w = w' := by
  obtain ⟨_, hl, A, c, rfl, hc1, hc2, hA⟩ := h
  unfold maxLen at hl
  have hat := ixOf_at l x
  have hno := ixOf_no l x
  have hd : ∀ i, i < l.length → (ints l)[i]? = some (.int .i64 (l.getD i 0)) := fun i hi => ints_get hi
  have hs : ∀ k, k < l.length → x ∉ l.take k → l.getD k 0 ≠ x → x ∉ l.take (k + 1) := fun k hk h1 h2 => by
    rw [List.take_add_one]; simp [h1]; intro h; apply h2; simpa [List.getD, hk] using h
  have ht : l.take l.length = l := List.take_length
  have HA := Lib.hid hA; have HAT := Lib.hid hat; have HNO := Lib.hid hno; have HD := Lib.hid hd; have HS := Lib.hid hs; have HT := Lib.hid ht
  generalize ixOf l x = r at *
  generalize l.length = n at *
  clear hA hat hno hd hs ht
  go_enter Tryz.func108, Tryz.ntmps108
  go_wp2
  go_loop [8] (fun i => ∃ k : Nat, k ≤ n ∧ i = .int .i64 k ∧ Hid (x ∉ l.take k)) (fun i => n - (intOf i).toNat)
  case atStart => exact ⟨0, Nat.zero_le _, rfl, show x ∉ l.take 0 by simp⟩
  case round =>
    obtain ⟨k, hk, rfl, hn⟩ := hrel
    by_cases hlt : k < n
    · obtain ⟨g, o, rfl, hg, hc⟩ := HA.out (by omega)
      have hx := hc k _ (HD.out k hlt)
      have hki : (k : Int) < n := by omega
      have h1 := HAT.out k hlt
      have h2 := HS.out k hlt hn.out
      clear hc
      generalize l.getD k 0 = y at *
      by_cases hy : y = x
      · have h3 := h1 hy hn.out
        have H3 := Lib.hid h3
        have hyx : (x == y) = true := by simp [hy]
        clear h1 h2 h3 hy
        go_wp2
        go_ret
        exact ⟨by rw [H3.out]; rfl, rfl⟩
      · have H2 : Hid (x ∉ l.take (k + 1)) := h2 hy
        have hyx : (x == y) = false := by simp; exact fun h => hy h.symm
        clear h1 h2 hy
        go_wp2
        go_round
        case rel => exact ⟨k + 1, by omega, by go_num, H2⟩
        case measure => simp [intOf]; omega
    · obtain rfl : k = n := by omega
      have hn2 : x ∉ l := by have := hn.out; rwa [HT.out] at this
      have H3 := Lib.hid (HNO.out hn2)
      clear hn2
      go_wp2
      go_ret
      exact ⟨by rw [H3.out]; rfl, rfl⟩
set_option maxHeartbeats 400000 in
theorem contains_ints (w : World) (v : Value) (l : List Int) (x : Int) (h : Rd w 1 v l.length (ints l)) :
    Calls Tryz.prog 69 #[v, .int .i64 x] w fun e w' => e = .returned (.bool (decide (x ∈ l))) ∧ w = w' := by
  have hix := index_ints w v l x h
  have hge := ixOf_ge l x
  have H := Lib.hid hix; have Hge := Lib.hid hge
  generalize ixOf l x = r at *
  clear hix h hge
  go_enter Tryz.func69, Tryz.ntmps69
  go_wp2_with fail
  refine H.out.mono ?_
  rintro e w' ⟨rfl, rfl⟩
  go_wp2_with fail
  go_ret
  exact ⟨by rw [← Hge.out]; rfl, rfl⟩
theorem rnd_eq (k n : Int) (h : 0 < n) : (k.tmod n + n).tmod n = k % n := by
  have h1 := Int.emod_nonneg k (show n ≠ 0 by omega)
  have h2 := Int.emod_lt_of_pos k h
  by_cases hk : 0 ≤ k
  · rw [Int.tmod_eq_emod_of_nonneg hk, Int.tmod_eq_emod_of_nonneg (by omega), Int.add_emod_right, Int.emod_emod]
  · have h3 := Int.tmod_lt_of_pos k h
    have h4 := Int.lt_tmod_of_pos k h
    rw [Int.tmod_eq_emod_of_nonneg (by omega), Int.add_emod_right]
    rw [Int.tmod_eq_emod]
    split
    · simp
    · rw [Int.natAbs_of_nonneg (by omega), Int.sub_emod_right, Int.emod_emod]
theorem Tryz.info_int' : (Tryz.prog.info? 3).map (fun i => (i.zero, i.size, i.bytes)) = some (some (.int .i64 0), 1, 8) := by kernel_rfl
theorem Tryz.zeroInt (w : World) : (zeroValue 3).run Tryz.prog w = .ok (.int .i64 0) w := by kernel_rfl
set_option maxHeartbeats 2000000 in
theorem delete_ints (w : World) (S : Nat → Prop) (v : Value) (l : List Int) (n i : Nat) (hn : l.length = n) (hi : i < n) (h : Sl w S 3 1 v n (ints l)) :
    Calls Tryz.prog 153 #[v, .int .i64 (i : Int), .int .i64 ((i : Int) + 1)] w fun e w' => ∃ v', e = .returned v' ∧ Fr S w w' ∧ Sl w' S 3 1 v' (n - 1) (ints (l.eraseIdx i)) := by
  obtain ⟨i0, hi0, hz0, hz1, hz2⟩ := info_parts Tryz.info_int'
  rcases h.2 with ⟨_, h0⟩ | ⟨g, off, cap, blk, rfl, hg, hb, hnc, hcm, hbs, hcell⟩
  · omega
  have hcell' : ∀ j, j < n → w.cell? ⟨g, off + j, none⟩ = some (.int .i64 (l.getD j 0)) := fun j hj => blk_cell hb _ (hcell j _ (ints_get (by omega)))
  have hfz : ∀ j, w.frozen? ⟨g, j, none⟩ = false := fun j => blk_froz hb j
  obtain ⟨news, hnews⟩ : ∃ news, news = (ints l).drop (i + 1) := ⟨_, rfl⟩
  have hlen : news.length = n - (i + 1) := by rw [hnews]; simp [hn]
  obtain ⟨A, hA, hsrc⟩ : ∃ A : Addr, (if cap = i + 1 then some (⟨g, off, none⟩ : Addr) else some ⟨g, off + (i + 1), none⟩) = some A ∧ Hid (∀ t u, news[t]? = some u → w.drew.cell? (A.add t) = some u) := by
    by_cases h : cap = i + 1
    · refine ⟨⟨g, off, none⟩, by simp [h], fun t u hu => ?_⟩
      have h0 : news.length = 0 := by rw [hlen]; omega
      rw [List.length_eq_zero_iff.1 h0] at hu
      simp at hu
    · refine ⟨⟨g, off + (i + 1), none⟩, by simp [h], fun t u hu => ?_⟩
      rw [hnews, List.getElem?_drop] at hu
      rw [Addr.add_lit, Nat.add_assoc]
      exact blk_cell hb _ (hcell _ u hu)
  have s1 : Hid (news.length = (n - (i + 1)) * 1) := by rw [Nat.mul_one]; exact hlen
  have s2 : Hid (∀ u ∈ news, u.oneCell' = true) := by
    intro u hu
    rw [hnews] at hu
    obtain ⟨x, _, rfl⟩ := List.mem_map.1 (List.mem_of_mem_drop hu)
    rfl
  have s3 : Hid (∀ t, t < news.length → (w.drew.cell? ⟨g, off + i * 1 + t, none⟩).isSome = true ∧ w.drew.frozen? ⟨g, off + i * 1 + t, none⟩ = false) := by
    intro t ht
    rw [hlen] at ht
    rw [Nat.mul_one, Nat.add_assoc]
    exact ⟨by show (w.cell? _).isSome = true; rw [hcell' _ (by omega)]; rfl, hfz _⟩
  obtain ⟨W1, hW1⟩ : ∃ W1, W1 = w.drew.setCells g (off + i * 1) news := ⟨_, rfl⟩
  obtain ⟨blk1, q1, q2, q3, q4⟩ := setCells_blk g 3 (0, 0) news (off + i * 1) w.drew blk hb (by omega)
  have hfr1 : Fr S w W1 := by rw [hW1]; exact (Fr.refl S w).drew.trans0 ((setCells_fr g news _ w.drew).mono fun k _ e => by rw [e]; exact hg)
  rw [← hW1] at q1
  have e1 : i + (n - (i + 1)) = n - 1 := by omega
  have e2 : n - (n - 1) = 1 := by omega
  have hcl : ∀ ty, (Builtin.clear_ #[39] ty #[.slice (some ⟨g, off + (i + (n - (i + 1))), none⟩) (n - (i + (n - (i + 1)))) (cap - (i + (n - (i + 1))))]).run Tryz.prog W1 = .ok (.tuple #[]) (W1.setCells g (off + (i + (n - (i + 1)))) (List.replicate (n - (i + (n - (i + 1)))) (.int .i64 0))) :=
    fun ty => Lib.run_clear_slice W1 _ _ ty _ Tryz.underlying39 Tryz.zeroInt rfl rfl g (off + (i + (n - (i + 1)))) _ _ (by omega) (fun t ht => by
      have hlt : off + (i + (n - (i + 1))) + t < blk1.size := by omega
      rw [blk_cell q1 _ (Array.getElem?_eq_getElem hlt)]; rfl) (fun t ht => blk_froz q1 _)
  have hW : Hid (W1 = w.drew.setCells g (off + i * 1) news) := hW1
  have hic : i ≤ cap := by omega
  have hjc : i + 1 ≤ cap := by omega
  unfold maxLen at hcm
  have Hb1 := Lib.hid q1; have Hfr1 := Lib.hid hfr1; have Hbs := Lib.hid hbs; have Q2 := Lib.hid q2; have Q3 := Lib.hid q3; have Q4 := Lib.hid q4; have Hcell := Lib.hid hcell; have Hnews := Lib.hid hnews; have HL := Lib.hid hlen; have E1 := Lib.hid e1; have E2 := Lib.hid e2; have Hn := Lib.hid hn
  clear hW1 hb hcell hcell' hfz hnews hlen h q1 q2 q3 q4 hfr1 hbs e1 e2 hn
  have hi1 : ((i : Int) == (i : Int) + 1) = false := by simp; omega
  have hi2 : (i : Int) + 1 ≤ (n : Int) := by omega
  have hi3 : (0 : Int) ≤ (i : Int) + 1 := by omega
  go_enter Tryz.func153, Tryz.ntmps153
  go_wp2_with fail
  go_region_law (refine step_append_room rfl (.tmp 22) (.tmp 25) 39 rfl 3 i0 1 Tryz.underlying39 hi0 hz1 g off i cap (by simp [Act.eval, Act.put]) A (n - (i + 1)) (cap - (i + 1)) news (by simp [Act.eval, Act.put]) s1.out hsrc.out s2.out (by omega) s3.out ?_; rw [← hW.out])
  go_wp2
  go_ret
  rw [E1.out, E2.out]
  obtain ⟨blk2, r1, r2, r3, _⟩ := setCells_blk g 3 (0, 0) (List.replicate 1 (.int .i64 0)) (off + (n - 1)) W1 blk1 Hb1.out (by have := Hbs.out; have := Q2.out; simp; omega)
  refine ⟨_, rfl, Hfr1.out.trans0 ((setCells_fr g _ _ W1).mono fun k _ e => by rw [e]; exact hg), ⟨by simp [List.length_eraseIdx, Hn.out, hi], .inr ⟨g, off, cap, blk2, ?_, hg, r1, by omega, by unfold maxLen; omega, by have := Hbs.out; have := Q2.out; omega, fun j u hj => ?_⟩⟩⟩
  · rfl
  · have hj1 := (List.getElem?_eq_some_iff.1 hj).1
    simp [List.length_eraseIdx, Hn.out, hi] at hj1
    rw [r3 _ (by omega)]
    rw [List.getElem?_map, List.getElem?_eraseIdx] at hj
    by_cases hji : j < i
    · rw [if_pos hji] at hj
      rw [Q3.out _ (by omega)]
      exact Hcell.out j u (by rw [List.getElem?_map]; exact hj)
    · rw [if_neg hji] at hj
      have := Q4.out (j - i) u (by rw [Hnews.out, List.getElem?_drop, show i + 1 + (j - i) = j + 1 by omega, List.getElem?_map]; exact hj)
      rwa [show off + i * 1 + (j - i) = off + j by omega] at this
set_option maxHeartbeats 800000 in
theorem clone_ints (w : World) (v : Value) (l : List Int) (n : Nat) (hn : l.length = n) (hb : n ≤ 1000000) (h : Rd w 1 v n (ints l)) :
    Calls Tryz.prog 126 #[v] w fun e w' => ∃ v', e = .returned v' ∧ Fr Nob w w' ∧ Sl w' (From w.heap.size) 3 1 v' n (ints l) := by
  obtain ⟨hl, _, A, c, rfl, hc1, hc2, hA⟩ := h
  have heq := fun w : World => Lib.run_eql_slice_nil (P := Tryz.prog) w 39 3
  cases A with
  | none =>
    obtain rfl : n = 0 := by
      rcases Nat.eq_zero_or_pos n with h | h
      · exact h
      · obtain ⟨g, o, h1, _⟩ := hA h; cases h1
    obtain rfl : l = [] := List.eq_nil_of_length_eq_zero hn
    have hk := fun w : World => Lib.run_eql_slice_nil (P := Tryz.prog) w 39 3 none 0 c 0 0 Tryz.underlying39
    clear heq hA
    go_enter Tryz.func126, Tryz.ntmps126
    go_wp2
    go_ret
    exact ⟨_, rfl, Fr.refl _ _, Sl.nil _ _ _ _⟩
  | some ad =>
    have hk := fun w : World => Lib.run_eql_slice_nil (P := Tryz.prog) w 39 3 (some ad) n c 0 0 Tryz.underlying39
    have hnews : ∀ j u, (ints l)[j]? = some u → (w.alloc (.cells #[] 3)).cell? (ad.add j) = some u := fun j u hj => by
      have hjl := (List.getElem?_eq_some_iff.1 hj).1
      obtain ⟨g, o, h1, h2, h3⟩ := hA (by simp at hjl; omega)
      cases h1
      rw [Addr.add_lit]
      exact ((Fr.refl Nob w).alloc _).cell (p := ⟨g, o + j, none⟩) id (h3 j u hj)
    have h0 : Sl (w.alloc (.cells #[] 3)) (From w.heap.size) 3 1 (.slice (some ⟨w.heap.size, 0, none⟩) 0 0) 0 [] :=
      Sl.lit w 3 1 #[] 0 (From w.heap.size) (by simp [From]) (by simp [maxLen]) rfl
    have Hnews := Lib.hid hnews; have H0 := Lib.hid h0; have Hl := Lib.hid hl
    clear heq hA hnews h0 hl
    go_enter Tryz.func126, Tryz.ntmps126
    go_wp2_with (at_builtin; refine wpList_append_sl _ rfl _ _ _ rfl (From w.heap.size) 3 _ 1 8 Tryz.underlying39 Tryz.info_int' rfl (by omega) (.slice (some ⟨w.heap.size, 0, none⟩) 0 0) 0 [] rfl H0.out ad n c (ints l) rfl Hl.out Hnews.out (ints_oneCell .i64 l) (by unfold maxLen; omega) (by omega) ?_; intro v1 w1 hs1 hf1)
    obtain ⟨A1, c1, rfl⟩ := hs1.slice
    go_ret
    have hz := hf1.size
    simp at hz
    refine ⟨_, rfl, (((Fr.refl Nob w).alloc (.cells #[] 3)).none.trans0 hf1).mono fun k hk q => by unfold From at q; omega, ?_⟩
    rw [Nat.zero_add] at hs1 ⊢
    exact hs1.mono fun k hk q => by rcases q with q | q; exact q; simp at q; unfold From; omega
/-- A number as a place among so many. -/
theorem script_pick (w : World) (k n : Int) (h : 0 < n) (hn : n ≤ 4611686018427387904) :
    Calls Tryz.prog 128 #[.int .i64 k, .int .i64 n] w fun e w' => e = .returned (.int .i64 (k % n)) ∧ w = w' := by
  have h3 := Int.tmod_lt_of_pos k h
  have h4 := Int.lt_tmod_of_pos k h
  have h1 : ¬ n < 1 := by omega
  by_cases hneg : k.tmod n < 0
  · have h7 : wrap64 (k.tmod n + n) = k.tmod n + n := by unfold wrap64; omega
    have e1 : k.tmod n + n = k % n := by
      have h5 := Int.tmod_eq_of_lt (a := k.tmod n + n) (b := n) (by omega) (by omega)
      rw [← rnd_eq k n h, h5]
    have H7 := Lib.hid (h7.trans e1); clear h7 e1
    go_enter Tryz.func128, Tryz.ntmps128
    go_wp2
    go_ret
    refine ⟨?_, rfl⟩
    first | (show Ending.returned (.int .i64 (wrap64 (k.tmod n + n))) = _; rw [H7.out]) | (show Ending.returned (.int .i64 (k.tmod n + n)) = _; rw [← H7.out]; congr 2; unfold wrap64; omega)
  · have e1 : k.tmod n = k % n := by
      have h5 := Int.tmod_eq_of_lt (a := k.tmod n) (b := n) (by omega) (by omega)
      rw [← rnd_eq k n h, Int.tmod_eq_emod_of_nonneg (a := k.tmod n + n) (by omega), Int.add_emod_right, ← Int.tmod_eq_emod_of_nonneg (by omega), h5]
    have H7 := Lib.hid e1; clear e1
    go_enter Tryz.func128, Tryz.ntmps128
    go_wp2
    go_ret
    refine ⟨?_, rfl⟩
    show Ending.returned (.int .i64 (k.tmod n)) = _
    rw [H7.out]
/-- A list of those that can run. -/
def ReadyAt (w : World) (S : Nat → Prop) (b : Nat) (l : List Int) : Prop :=
  ∃ v, S b ∧ w.heap[b]? = some (.cells #[v] 163 (0, 0)) ∧ Sl w (fun k => S k ∧ k ≠ b) 3 1 v l.length (ints l) ∧ l.length ≤ 100000
theorem ReadyAt.fr {w w' : World} {S F : Nat → Prop} {b : Nat} {l : List Int} (h : ReadyAt w S b l) (hf : Fr F w w') (hd : ∀ k, S k → F k → False) : ReadyAt w' S b l := by
  obtain ⟨v, hS, hb, hs, r⟩ := h
  exact ⟨v, hS, hf.blk (hd _ hS) hb, hs.fr hf (fun k q => hd k q.1), r⟩
theorem ReadyAt.fr0 {w w' : World} {S : Nat → Prop} {b : Nat} {l : List Int} (h : ReadyAt w S b l) (hf : Fr Nob w w') : ReadyAt w' S b l := h.fr hf fun _ _ q => q
theorem ReadyAt.mono {w : World} {S S' : Nat → Prop} {b : Nat} {l : List Int} (h : ReadyAt w S b l) (hs : ∀ k, k < w.heap.size → S k → S' k) : ReadyAt w S' b l := by
  obtain ⟨v, hS, hb, hsl, r⟩ := h
  exact ⟨v, hs _ (lt_of_block hb) hS, hb, hsl.mono (fun k hk q => ⟨hs k hk q.1, q.2⟩), r⟩
theorem ready_new (w : World) : Calls Tryz.prog 42 #[] w fun e w' => ∃ b, e = .returned (.pointer (some ⟨b, 0, none⟩)) ∧ Fr Nob w w' ∧ ReadyAt w' (fun k => w.heap.size ≤ k ∧ k < w'.heap.size) b [] := by
  go_enter Tryz.func42, Tryz.ntmps42
  go_wp2
  go_ret
  exact ⟨w.heap.size, rfl, (Fr.refl Nob w).alloc _, .slice none 0 0, by simp, blk_alloc_eq _ rfl, Sl.nil _ _ _ _, by simp⟩
theorem ready_len (w : World) (S : Nat → Prop) (b : Nat) (l : List Int) (n : Nat) (hn : l.length = n) (h : ReadyAt w S b l) :
    Calls Tryz.prog 127 #[.pointer (some ⟨b, 0, none⟩)] w fun e w' => e = .returned (.int .i64 (n : Int)) ∧ w = w' := by
  obtain ⟨v, hS, hb, hs, hm⟩ := h
  rw [hn] at hs
  obtain ⟨X, c, rfl⟩ := hs.slice
  have c0 := blk_cell hb 0 rfl
  clear hb hs hn
  go_enter Tryz.func127, Tryz.ntmps127
  go_wp2
  go_ret
  exact ⟨rfl, rfl⟩
theorem ready_all (w : World) (S : Nat → Prop) (b : Nat) (l : List Int) (n : Nat) (hn : l.length = n) (h : ReadyAt w S b l) :
    Calls Tryz.prog 81 #[.pointer (some ⟨b, 0, none⟩)] w fun e w' => ∃ v, e = .returned v ∧ Fr Nob w w' ∧ Sl w' (From w.heap.size) 3 1 v n (ints l) := by
  obtain ⟨v, hS, hb, hs, hm⟩ := h
  rw [hn] at hs
  have hc := clone_ints w v l n hn (by omega) hs.rd
  have Hc := Lib.hid hc
  obtain ⟨X, c, rfl⟩ := hs.slice
  have c0 := blk_cell hb 0 rfl
  clear hb hs hn hc
  go_enter Tryz.func81, Tryz.ntmps81
  go_wp2_with fail
  refine Hc.out.mono ?_
  rintro e w' ⟨v', rfl, hf, hs⟩
  obtain ⟨X', c', rfl⟩ := hs.slice
  have Hf := Lib.hid hf; have Hs := Lib.hid hs; clear hf hs
  go_wp2_with fail
  go_ret
  exact ⟨_, rfl, Hf.out, Hs.out⟩
set_option maxHeartbeats 800000 in
theorem ready_add (w : World) (S : Nat → Prop) (b : Nat) (l : List Int) (t : Int) (h : ReadyAt w S b l) (h0 : 0 ≤ t) (ht : t ∉ l) (hl : l.length < 100000) :
    Calls Tryz.prog 49 #[.pointer (some ⟨b, 0, none⟩), .int .i64 t] w fun e w' => e = .returned (.int .i64 0) ∧ Fr S w w' ∧ ReadyAt w' (And' S w w') b (l ++ [t]) := by
  obtain ⟨v, hS, hb, hs, hm⟩ := h
  have hc := contains_ints w v l t hs.rd
  have hin : decide (t ∈ l) = false := by simpa using ht
  rw [hin] at hc
  have Hc := Lib.hid hc
  generalize hnn : l.length = n at *
  have Hnn := Lib.hid hnn
  obtain ⟨X, c, rfl⟩ := hs.slice
  have c0 := blk_cell hb 0 rfl
  have f0 := blk_froz hb 0
  have lb := lt_of_block hb
  have Hb := Lib.hid hb; have Hs := Lib.hid hs
  have h0' : ¬ t < 0 := by omega
  clear hb hs hc ht hin hnn
  go_enter Tryz.func49, Tryz.ntmps49
  go_wp2_with fail
  refine Hc.out.mono ?_
  rintro e w' ⟨rfl, rfl⟩
  go_wp2_with (at_builtin; refine wpList_append1 _ rfl _ _ _ rfl (fun k => S k ∧ k ≠ b) 3 _ 1 8 Tryz.underlying39 Tryz.info_int' rfl (by omega) (.slice X n c) n (ints l) [.int .i64 t] rfl Hs.out rfl rfl rfl (by omega) (by omega) ?_; intro v3 w3 hs3 hf3 hz3; obtain ⟨X3, c3, rfl⟩ := hs3.slice; have hb3 := hf3.blk (fun q => q.2 rfl) Hb.out; have d0 := blk_cell hb3 0 rfl; have g0 := blk_froz hb3 0; have hsz := hf3.size; have Hb3 := Lib.hid hb3; have Hs3 := Lib.hid hs3; have Hf3 := Lib.hid hf3; clear hb3 hs3 hf3)
  go_ret
  have hl2 : (l ++ [t]).length = n + 1 := by simp [Hnn.out]
  refine ⟨rfl, (Hf3.out.mono fun k _ q => q.1).setCell (.inl hS) _, .slice X3 (n + 1) c3, .inl hS, ?_, ?_, by omega⟩
  · exact blk_set Hb3.out 0 _
  · rw [hl2]
    have hs4 : Sl (w3.setCell ⟨b, 0, none⟩ (.slice X3 (n + 1) c3)) (fun k => S k ∧ k ≠ b ∨ w.heap.size ≤ k) 3 1 (.slice X3 (n + 1) c3) (n + 1) (ints (l ++ [t])) := by
      have := Hs3.out.fr ((Fr.refl (fun k => k = b) w3).setCell (p := ⟨b, 0, none⟩) (.inl rfl) (.slice X3 (n + 1) c3)) ?_
      · simpa [ints] using this
      · intro k q e
        rcases q with q | q
        · exact q.2 e
        · subst e; omega
    refine hs4.mono ?_
    intro k hk q
    rcases q with q | q
    · exact ⟨.inl q.1, q.2⟩
    · exact ⟨.inr ⟨q, by simpa using hk⟩, by rintro rfl; omega⟩
theorem ready_remove_no (w : World) (S : Nat → Prop) (b : Nat) (l : List Int) (t : Int) (h : ReadyAt w S b l) (ht : t ∉ l) :
    Calls Tryz.prog 101 #[.pointer (some ⟨b, 0, none⟩), .int .i64 t] w fun e w' => e = .returned (.bool false) ∧ Fr Nob w w' := by
  have ha := ready_all w S b l _ rfl h
  have hi := fun w' v (hs : Rd w' 1 v l.length (ints l)) => index_ints w' v l t hs
  rw [ixOf_no l t ht] at hi
  have Ha := Lib.hid ha; have Hi := Lib.hid hi
  clear ha hi
  go_enter Tryz.func101, Tryz.ntmps101
  go_wp2_with fail
  refine Ha.out.mono ?_
  rintro e w1 ⟨v1, rfl, hf1, hs1⟩
  obtain ⟨X1, c1, rfl⟩ := hs1.slice
  have Hf1 := Lib.hid hf1; have Hs1 := Lib.hid hs1; clear hf1 hs1
  go_wp2_with fail
  refine (Hi.out _ _ Hs1.out.rd).mono ?_
  rintro e w2 ⟨rfl, rfl⟩
  go_wp2_with fail
  go_ret
  exact ⟨rfl, Hf1.out⟩
set_option maxHeartbeats 800000 in
theorem ready_remove (w : World) (S : Nat → Prop) (b : Nat) (l : List Int) (t : Int) (h : ReadyAt w S b l) (ht : t ∈ l) :
    Calls Tryz.prog 101 #[.pointer (some ⟨b, 0, none⟩), .int .i64 t] w fun e w' => e = .returned (.bool true) ∧ Fr S w w' ∧ ReadyAt w' S b (l.erase t) := by
  have ha := ready_all w S b l _ rfl h
  have hi := fun w' v (hs : Rd w' 1 v l.length (ints l)) => index_ints w' v l t hs
  have hlt := List.idxOf_lt_length_of_mem ht
  have hix : ixOf l t = ((l.idxOf t : Nat) : Int) := if_pos ht
  rw [hix] at hi
  have her : l.erase t = l.eraseIdx (l.idxOf t) := by rw [List.erase_eq_eraseIdx_of_idxOf (i := l.idxOf t) rfl]
  rw [her]
  have hlen : (l.eraseIdx (l.idxOf t)).length = l.length - 1 := by rw [List.length_eraseIdx, if_pos hlt]
  obtain ⟨v, hS, hb, hs, hm⟩ := h
  have hd := fun w' (hf : Fr Nob w w') => delete_ints w' (fun k => S k ∧ k ≠ b) v l _ _ rfl hlt (hs.fr hf fun _ _ q => q)
  have Ha := Lib.hid ha; have Hi := Lib.hid hi; have Hd := Lib.hid hd; have Hlen := Lib.hid hlen
  obtain ⟨X, c, rfl⟩ := hs.slice
  have c0 := blk_cell hb 0 rfl
  have f0 := blk_froz hb 0
  have lb := lt_of_block hb
  have Hb := Lib.hid hb
  clear ha hi hd hlen hix her hb hs
  generalize l.eraseIdx (l.idxOf t) = l' at *
  generalize l.idxOf t = i at *
  generalize l.length = n at *
  go_enter Tryz.func101, Tryz.ntmps101
  go_wp2_with fail
  refine Ha.out.mono ?_
  rintro e w1 ⟨v1, rfl, hf1, hs1⟩
  obtain ⟨X1, c1, rfl⟩ := hs1.slice
  have Hf1 := Lib.hid hf1; have Hs1 := Lib.hid hs1
  have d0 := hf1.cell id c0
  clear hf1 hs1
  go_wp2_with fail
  refine (Hi.out _ _ Hs1.out.rd).mono ?_
  rintro e w2 ⟨rfl, rfl⟩
  go_wp2_with fail
  refine (Hd.out _ Hf1.out).mono ?_
  rintro e w3 ⟨v3, rfl, hf3, hs3⟩
  obtain ⟨X3, c3, rfl⟩ := hs3.slice
  have hb3 := hf3.blk (fun q => q.2 rfl) (Hf1.out.blk id Hb.out)
  have e0 := blk_cell hb3 0 rfl
  have e1 := blk_froz hb3 0
  have Hf3 := Lib.hid hf3; have Hs3 := Lib.hid hs3; have Hb3 := Lib.hid hb3
  clear hf3 hs3 hb3
  go_wp2_with fail
  go_ret
  refine ⟨rfl, ((Hf1.out.none.trans0 (Hf3.out.mono fun k _ q => q.1))).setCell (.inl hS) _, .slice X3 (n - 1) c3, hS, blk_set Hb3.out 0 _, ?_, by rw [Hlen.out]; omega⟩
  rw [Hlen.out]
  exact Hs3.out.fr ((Fr.refl (fun k => k = b) w3).setCell (p := ⟨b, 0, none⟩) (.inl rfl) _) fun k q e => q.2 e
theorem ready_pick_none (w : World) (S : Nat → Prop) (b : Nat) (k : Int) (h : ReadyAt w S b []) :
    Calls Tryz.prog 82 #[.pointer (some ⟨b, 0, none⟩), .int .i64 k] w fun e w' => e = .returned (.tuple #[.int .i64 0, .bool false]) ∧ Fr Nob w w' := by
  have hl := ready_len w S b [] 0 rfl h
  have Hl := Lib.hid hl; clear hl h
  go_enter Tryz.func82, Tryz.ntmps82
  go_wp2_with fail
  refine Hl.out.mono ?_
  rintro e w1 ⟨rfl, rfl⟩
  go_wp2_with fail
  go_ret2
  exact ⟨rfl, Fr.refl _ _⟩
set_option maxHeartbeats 800000 in
theorem ready_pick (w : World) (S : Nat → Prop) (b : Nat) (l : List Int) (k : Int) (n : Nat) (hn : l.length = n) (h : ReadyAt w S b l) (h0 : 0 < n) :
    Calls Tryz.prog 82 #[.pointer (some ⟨b, 0, none⟩), .int .i64 k] w fun e w' => e = .returned (.tuple #[.int .i64 (l.getD (k % n).toNat 0), .bool true]) ∧ Fr Nob w w' := by
  have hl := ready_len w S b l n hn h
  obtain ⟨v, hS, hb, hs, hm⟩ := h
  rw [hn] at hs hm
  have hk1 := Int.emod_nonneg k (show (n : Int) ≠ 0 by omega)
  have hk2 := Int.emod_lt_of_pos k (show 0 < (n : Int) by omega)
  have hp := fun w' => script_pick w' k n (by omega) (by omega)
  obtain ⟨p, hpp⟩ := Int.eq_ofNat_of_zero_le hk1
  rw [hpp] at hp hk2
  rw [hpp, Int.toNat_natCast]
  have hpn : p < n := by omega
  obtain ⟨g, off, c, rfl, _, hg, hc1, hc2, hc, _⟩ := hs.form h0
  have c0 := blk_cell hb 0 rfl
  have hx := hc p _ (ints_get (by rw [hn]; exact hpn))
  have hp := fun w' => (hp w').mono fun e w2 h => (⟨h.1, h.2.symm⟩ : e = _ ∧ w2 = w')
  have Hl := Lib.hid hl; have Hp := Lib.hid hp
  generalize l.getD p 0 = x at *
  unfold maxLen at hc2
  clear hl hp hb hs hc hn hpp hk1
  have hn0 : ((n : Int) == 0) = false := by simp; omega
  go_enter Tryz.func82, Tryz.ntmps82
  go_wp2_with fail
  refine Hl.out.mono ?_
  rintro e w1 ⟨rfl, rfl⟩
  go_wp2_with fail
  go_quiet ((go_at_call 128; exact Calls.quiet_of_same (Hp.out _)))
  go_wp2
  go_ret2
  exact ⟨rfl, (Fr.refl _ _).drewN _⟩
/-- A task: its 16 numbers, its instruction's default. -/
abbrev Tk := (Nat → Int) × Bool × Value
def tkC (c : Value) (t : Nat → Int) (d : Bool) : List Value := [.int .i64 (t 0), .int .i64 (t 1), .int .i64 (t 2), .int .i64 (t 3), .int .i64 (t 4), .int .i64 (t 5), .int .i64 (t 6), .int .i64 (t 7), .int .i64 (t 8), .int .i64 (t 9), .int .i64 (t 10), .int .i64 (t 11), .int .i64 (t 12), .int .i64 (t 13), .int .i64 (t 14), .int .i64 (t 15), c, .bool d]
theorem tkC_nil (t : Nat → Int) (d : Bool) : tkC (.slice none 0 0) t d = tkD t d := rfl
theorem tkC_len (c : Value) (t : Nat → Int) (d : Bool) : (tkC c t d).length = 18 := rfl
abbrev tkE (x : Tk) : List Value := tkC x.2.2 x.1 x.2.1
abbrev rowsT (ts : List Tk) : List Value := ts.flatMap tkE
abbrev ArT (w : World) (S : Nat → Prop) (b n : Nat) (cs : List Value) : Prop := ArenaAt 161 98 18 w S b 64 n cs
def tabObj (ab lb : Nat) : Obj := .cells #[.pointer (some ⟨ab, 0, none⟩), .pointer (some ⟨lb, 0, none⟩)] 102 (0, 0)
structure TabAt (w : World) (S : Nat → Prop) (b ab lb : Nat) (SA SL : Nat → Prop) (ts : List Tk) (line : List Int) : Prop where
  own : S b
  lt : ∀ k, S k → k < w.heap.size
  subA : ∀ k, SA k → S k ∧ k ≠ b
  subL : ∀ k, SL k → S k ∧ k ≠ b ∧ ¬ SA k
  blk : w.heap[b]? = some (tabObj ab lb)
  arena : ArT w SA ab ts.length (rowsT ts)
  ready : ReadyAt w SL lb line
def TableAt (w : World) (S : Nat → Prop) (b : Nat) (ts : List Tk) (line : List Int) : Prop := ∃ (ab lb : Nat) (SA SL : Nat → Prop), TabAt w S b ab lb SA SL ts line
theorem rowsT_get (ts : List Tk) (i : Nat) (x : Tk) (h : ts[i]? = some x) (j : Nat) (hj : j < 18) : (rowsT ts)[i * 18 + j]? = (tkE x)[j]? := by
  induction ts generalizing i with
  | nil => simp at h
  | cons y ts ih =>
    cases i with
    | zero => simp at h; subst h; simp only [rowsT, List.flatMap_cons, Nat.zero_mul, Nat.zero_add]; rw [List.getElem?_append_left (by rw [tkC_len]; exact hj)]
    | succ i =>
      simp only [rowsT, List.flatMap_cons]
      rw [List.getElem?_append_right (by rw [tkC_len]; omega), tkC_len, show (i + 1) * 18 + j - 18 = i * 18 + j by omega]
      exact ih i (by simpa using h)
theorem rowsT_set (ts : List Tk) (i : Nat) (x : Tk) (hi : i < ts.length) : rowSet (rowsT ts) i (tkE x) = rowsT (ts.set i x) := by
  induction ts generalizing i with
  | nil => simp at hi
  | cons y ts ih =>
    cases i with
    | zero =>
      simp only [rowSet, rowsT, List.flatMap_cons, Nat.zero_mul, Nat.zero_add, List.set_cons_zero, List.take_zero, List.nil_append]
      rw [List.drop_append, tkC_len, List.drop_of_length_le (by rw [tkC_len]; omega)]
      simp
    | succ i =>
      have := ih i (by simpa using hi)
      simp only [rowSet, rowsT, List.flatMap_cons, List.set_cons_succ] at this ⊢
      rw [← this, List.take_append, List.drop_append, tkC_len, List.take_of_length_le (by rw [tkC_len]; omega), List.drop_of_length_le (by rw [tkC_len]; omega), show (i + 1) * 18 - 18 = i * 18 by omega, show (i + 1) * 18 + 18 - 18 = i * 18 + 18 by omega]
      simp
section
variable {w w' : World} {S : Nat → Prop} {b ab lb : Nat} {SA SL : Nat → Prop} {ts : List Tk} {line : List Int}
theorem TabAt.fr (h : TabAt w S b ab lb SA SL ts line) {F : Nat → Prop} (hf : Fr F w w') (hd : ∀ k, S k → F k → False) : TabAt w' S b ab lb SA SL ts line :=
  ⟨h.own, fun k q => by have := h.lt k q; have := hf.size; omega, h.subA, h.subL, hf.blk (hd _ h.own) h.blk, h.arena.fr hf fun k q => hd k (h.subA k q).1, h.ready.fr hf fun k q => hd k (h.subL k q).1⟩
theorem TabAt.fr0 (h : TabAt w S b ab lb SA SL ts line) (hf : Fr Nob w w') : TabAt w' S b ab lb SA SL ts line := h.fr hf fun _ _ q => q
theorem TabAt.setA (h : TabAt w S b ab lb SA SL ts line) (hf : Fr SA w w') {ts' : List Tk} (ha : ArT w' SA ab ts'.length (rowsT ts')) : TabAt w' S b ab lb SA SL ts' line :=
  ⟨h.own, fun k q => by have := h.lt k q; have := hf.size; omega, h.subA, h.subL, hf.blk (fun q => (h.subA _ q).2 rfl) h.blk, ha, h.ready.fr hf fun k q q' => (h.subL k q).2.2 q'⟩
theorem TabAt.growA (h : TabAt w S b ab lb SA SL ts line) (hf : Fr SA w w') {ts' : List Tk} (ha : ArT w' (And' SA w w') ab ts'.length (rowsT ts')) : TabAt w' (And' S w w') b ab lb (And' SA w w') SL ts' line := by
  refine ⟨.inl h.own, fun k q => ?_, fun k q => ?_, fun k q => ⟨.inl (h.subL k q).1, (h.subL k q).2.1, fun q' => ?_⟩, hf.blk (fun q => (h.subA _ q).2 rfl) h.blk, ha, h.ready.fr hf fun k q q' => (h.subL k q).2.2 q'⟩
  · rcases q with q | q
    · have := h.lt k q; have := hf.size; omega
    · exact q.2
  · rcases q with q | q
    · exact ⟨.inl (h.subA k q).1, (h.subA k q).2⟩
    · exact ⟨.inr q, fun e => by have := h.lt b h.own; omega⟩
  · rcases q' with q' | q'
    · exact (h.subL k q).2.2 q'
    · have := h.lt k (h.subL k q).1; omega
theorem TabAt.setL (h : TabAt w S b ab lb SA SL ts line) (hf : Fr SL w w') {line' : List Int} (hr : ReadyAt w' SL lb line') : TabAt w' S b ab lb SA SL ts line' :=
  ⟨h.own, fun k q => by have := h.lt k q; have := hf.size; omega, h.subA, h.subL, hf.blk (fun q => (h.subL _ q).2.1 rfl) h.blk, h.arena.fr hf fun k q q' => (h.subL k q').2.2 q, hr⟩
theorem TabAt.growL (h : TabAt w S b ab lb SA SL ts line) (hf : Fr SL w w') {line' : List Int} (hr : ReadyAt w' (And' SL w w') lb line') : TabAt w' (And' S w w') b ab lb SA (And' SL w w') ts line' := by
  refine ⟨.inl h.own, fun k q => ?_, fun k q => ⟨.inl (h.subA k q).1, (h.subA k q).2⟩, fun k q => ?_, hf.blk (fun q => (h.subL _ q).2.1 rfl) h.blk, h.arena.fr hf fun k q q' => (h.subL k q').2.2 q, hr⟩
  · rcases q with q | q
    · have := h.lt k q; have := hf.size; omega
    · exact q.2
  · rcases q with q | q
    · exact ⟨.inl (h.subL k q).1, (h.subL k q).2⟩
    · exact ⟨.inr q, fun e => by have := h.lt b h.own; omega, fun e => by have := h.lt k (h.subA k e).1; omega⟩
end
theorem task_new (w : World) : Calls Tryz.prog 21 #[] w fun e w' => ∃ (b : Nat) (S : Nat → Prop), e = .returned (.pointer (some ⟨b, 0, none⟩)) ∧ Fr Nob w w' ∧ TableAt w' S b [] [] ∧ ∀ k, S k → w.heap.size ≤ k := by
  have Ha := Lib.hid (arena_new 64 w (by omega) (by omega))
  have Hr := Lib.hid (fun W => ready_new W)
  go_enter Tryz.func21, Tryz.ntmps21
  go_wp2_with fail
  refine Ha.out.mono ?_
  rintro e w1 ⟨ab, rfl, hf1, ha1⟩
  have Hf1 := Lib.hid hf1; have Ha1 := Lib.hid ha1
  clear hf1 ha1
  go_wp2_with fail
  refine (Hr.out w1).mono ?_
  rintro e w2 ⟨lb, rfl, hf2, hr2⟩
  have Hf2 := Lib.hid hf2; have Hr2 := Lib.hid hr2
  clear hf2 hr2
  go_wp2_with fail
  go_ret
  have hz1 := Hf1.out.size; have hz2 := Hf2.out.size
  refine ⟨w2.heap.size, fun k => w.heap.size ≤ k ∧ k < w2.heap.size + 1, rfl, (Hf1.out.trans0 Hf2.out).alloc _, ⟨ab, lb, fun k => w.heap.size ≤ k ∧ k < w1.heap.size, fun k => w1.heap.size ≤ k ∧ k < w2.heap.size, ⟨by omega, by omega⟩, fun k q => by simp; omega, fun k q => by omega, fun k q => by omega, heap_alloc_new _ _, ?_, ?_⟩, fun k q => q.1⟩
  · exact (Ha1.out.fr Hf2.out fun _ _ q => q).fr ((Fr.refl Nob w2).alloc _) fun _ _ q => q
  · exact Hr2.out.fr ((Fr.refl Nob w2).alloc _) fun _ _ q => q
section
variable {w : World} {S : Nat → Prop} {b : Nat} {ts : List Tk} {line : List Int} (h : TableAt w S b ts line)
include h
theorem task_ready (n : Nat) (hn : line.length = n) : Calls Tryz.prog 54 #[.pointer (some ⟨b, 0, none⟩)] w fun e w' => ∃ (A : Option Addr) (cp : Nat), e = .returned (.slice A n cp) ∧ Fr Nob w w' ∧ Sl w' (From w.heap.size) 3 1 (.slice A n cp) n (ints line) := by
  obtain ⟨ab, lb, SA, SL, h⟩ := h
  have c1 := blk_cell h.blk 1 rfl
  have ha := ready_all w SL lb line n hn h.ready
  have Ha := Lib.hid ha
  clear h ha hn
  go_enter Tryz.func54, Tryz.ntmps54
  go_wp2_with fail
  refine Ha.out.mono ?_
  rintro e w1 ⟨v, rfl, hf, hs⟩
  obtain ⟨A, cp, rfl⟩ := hs.slice
  have Hf := Lib.hid hf; have Hs := Lib.hid hs
  clear hf hs
  go_wp2_with fail
  go_ret
  exact ⟨A, cp, rfl, Hf.out, Hs.out⟩
end
abbrev regR (r : Nat → Int) : Array Value := #[.int .i64 (r 0), .int .i64 (r 1), .int .i64 (r 2), .int .i64 (r 3), .int .i64 (r 4), .int .i64 (r 5), .int .i64 (r 6), .int .i64 (r 7)]
/-- A task that begins. -/
def newT (prog : Int) (r : Nat → Int) : Nat → Int := fun j => if j = 0 then prog else if 4 ≤ j ∧ j < 12 then r (j - 4) else 0
theorem tkD_new (prog : Int) (r : Nat → Int) : (tkD (newT prog r) false).toArray = #[.int .i64 prog, .int .i64 0, .int .i64 0, .int .i64 0, .int .i64 (r 0), .int .i64 (r 1), .int .i64 (r 2), .int .i64 (r 3), .int .i64 (r 4), .int .i64 (r 5), .int .i64 (r 6), .int .i64 (r 7), .int .i64 0, .int .i64 0, .int .i64 0, .int .i64 0, .slice none 0 0, .bool false] := rfl
set_option maxHeartbeats 2000000 in
theorem task_start {w : World} {S : Nat → Prop} {b : Nat} {ts : List Tk} {line : List Int} (h : TableAt w S b ts line) (prog : Int) (hp : 0 ≤ prog) (r : Nat → Int) (n : Nat) (hn : ts.length = n) (hlt : n < 64) (hline : (n : Int) ∉ line) (hll : line.length < 100000) :
    Calls Tryz.prog 26 #[.pointer (some ⟨b, 0, none⟩), .int .i64 prog, .agg (regR r)] w fun e w' => ∃ S' : Nat → Prop, e = .returned (.tuple #[.int .i64 (n : Int), .int .i64 0]) ∧ Fr S w w' ∧ TableAt w' S' b (ts ++ [(newT prog r, false, .slice none 0 0)]) (line ++ [(n : Int)]) ∧ ∀ k, S' k → S k ∨ w.heap.size ≤ k := by
  obtain ⟨ab, lb, SA, SL, h⟩ := h
  have hadd : ∀ W, Fr Nob w W → Calls Tryz.prog 48 #[.pointer (some ⟨ab, 0, none⟩), .agg #[.int .i64 prog, .int .i64 0, .int .i64 0, .int .i64 0, .int .i64 (r 0), .int .i64 (r 1), .int .i64 (r 2), .int .i64 (r 3), .int .i64 (r 4), .int .i64 (r 5), .int .i64 (r 6), .int .i64 (r 7), .int .i64 0, .int .i64 0, .int .i64 0, .int .i64 0, .slice none 0 0, .bool false]] W fun e w' => e = .returned (.tuple #[.int .i64 (n : Int), .int .i64 0]) ∧ Fr SA W w' ∧ TabAt w' (And' S W w') b ab lb (And' SA W w') SL (ts ++ [(newT prog r, false, .slice none 0 0)]) line := fun W hW => by
    have hh := h.fr0 hW
    have := arena_addD W SA ab 64 ts.length (rowsT ts) (newT prog r) false hh.arena (by omega)
    rw [tkD_new, hn] at this
    refine this.mono ?_
    rintro e w' ⟨he, hf, ha⟩
    refine ⟨he, hf, hh.growA hf ?_⟩
    rw [show rowsT (ts ++ [(newT prog r, false, .slice none 0 0)]) = rowsT ts ++ tkD (newT prog r) false by simp [rowsT, tkE, tkC_nil], List.length_append, hn]
    exact ha
  have hrd : ∀ W SL' , ReadyAt W SL' lb line → Calls Tryz.prog 49 #[.pointer (some ⟨lb, 0, none⟩), .int .i64 (n : Int)] W fun e w' => e = .returned (.int .i64 0) ∧ Fr SL' W w' ∧ ReadyAt w' (And' SL' W w') lb (line ++ [(n : Int)]) := fun W SL' hr => ready_add W SL' lb line (n : Int) hr (by omega) hline hll
  have c0 := blk_cell h.blk 0 rfl
  have hb := h.blk
  have hbl := lt_of_block hb
  have h0 : ¬ prog < 0 := by omega
  have Hadd := Lib.hid hadd; have Hrd := Lib.hid hrd; have H := Lib.hid h
  clear hadd hrd h hp hn hline hll
  go_enter Tryz.func26, Tryz.ntmps26
  go_wp2_with fail
  obtain ⟨w1, hw1⟩ : ∃ w1, w1 = w.alloc (.cells (regR r) 74) := ⟨_, rfl⟩
  rw [← hw1]
  obtain ⟨pb, hpb⟩ : ∃ pb, pb = w.heap.size := ⟨_, rfl⟩
  rw [← hpb]
  have hf1 : Fr Nob w w1 := by rw [hw1]; exact (Fr.refl Nob w).alloc _
  have hp1 : w1.heap[pb]? = some (.cells (regR r) 74 (0, 0)) := by rw [hw1, hpb]; exact heap_alloc_new _ _
  have hpz : pb < w1.heap.size := lt_of_block hp1
  have Hpb := Lib.hid hpb
  have key : ∀ W, Fr SA w1 W → W.cell? ⟨b, 0, none⟩ = some (.pointer (some ⟨ab, 0, none⟩)) ∧ W.cell? ⟨pb, 0, none⟩ = some (.int .i64 (r 0)) ∧ W.cell? ⟨pb, 1, none⟩ = some (.int .i64 (r 1)) ∧ W.cell? ⟨pb, 2, none⟩ = some (.int .i64 (r 2)) ∧ W.cell? ⟨pb, 3, none⟩ = some (.int .i64 (r 3)) ∧ W.cell? ⟨pb, 4, none⟩ = some (.int .i64 (r 4)) ∧ W.cell? ⟨pb, 5, none⟩ = some (.int .i64 (r 5)) ∧ W.cell? ⟨pb, 6, none⟩ = some (.int .i64 (r 6)) ∧ W.cell? ⟨pb, 7, none⟩ = some (.int .i64 (r 7)) := fun W hW => by
    have q := hW.blk (fun q => (H.out.subA _ q).2 rfl) (hf1.blk id hb)
    have p := hW.blk (k := pb) (fun q => by have := H.out.lt _ (H.out.subA _ q).1; have := Hpb.out; omega) hp1
    exact ⟨blk_cell q 0 rfl, blk_cell p 0 rfl, blk_cell p 1 rfl, blk_cell p 2 rfl, blk_cell p 3 rfl, blk_cell p 4 rfl, blk_cell p 5 rfl, blk_cell p 6 rfl, blk_cell p 7 rfl⟩
  have Key := Lib.hid key
  have Hf1 := Lib.hid hf1
  clear hw1 key hb hpb hp1 c0
  have hf0 : Fr SA w1 w1 := Fr.refl _ _
  go_wp2_with fail
  go_region_held3 (fun W => W.cell? ⟨b, 0, none⟩ = some (.pointer (some ⟨ab, 0, none⟩)) ∧ W.cell? ⟨pb, 0, none⟩ = some (.int .i64 (r 0)) ∧ W.cell? ⟨pb, 1, none⟩ = some (.int .i64 (r 1)) ∧ W.cell? ⟨pb, 2, none⟩ = some (.int .i64 (r 2)) ∧ W.cell? ⟨pb, 3, none⟩ = some (.int .i64 (r 3)) ∧ W.cell? ⟨pb, 4, none⟩ = some (.int .i64 (r 4)) ∧ W.cell? ⟨pb, 5, none⟩ = some (.int .i64 (r 5)) ∧ W.cell? ⟨pb, 6, none⟩ = some (.int .i64 (r 6)) ∧ W.cell? ⟨pb, 7, none⟩ = some (.int .i64 (r 7)))
    ((refine Key.out _ ?_; first | with_reducible exact hf2 | with_reducible exact hf0 | exact hf0.drew))
    ((go_at_call 48; refine (Hadd.out w1.drew Hf1.out.drew).mono ?_; rintro e w2 ⟨rfl, hf2', ht2⟩; have hf2 : Fr SA w1 w2 := (hf0.drew).trans0 hf2'; have Ht2 := Lib.hid ht2; clear ht2))
  have Hf2 := Lib.hid hf2
  obtain ⟨q1, hq1⟩ : ∃ q1, q1 = w2.cell? ⟨b, 1, none⟩ := ⟨_, rfl⟩
  have c1 := blk_cell Ht2.out.blk 1 rfl
  clear hf2 hf2' hf0 hq1 q1
  go_wp2_with fail
  refine (Hrd.out w2 SL Ht2.out.ready).mono ?_
  rintro e w3 ⟨rfl, hf3, hr3⟩
  have Hf3 := Lib.hid hf3
  have Ht3 := Lib.hid (Ht2.out.growL hf3 hr3)
  clear hf3 hr3 c1
  go_wp2_with fail
  go_ret2
  refine ⟨_, rfl, ?_, ⟨ab, lb, _, _, Ht3.out⟩, fun k q => ?_⟩
  · have e1 : Fr S w w2 := Hf1.out.none.trans Hf2.out fun k hk q => (H.out.subA k q).1
    exact e1.trans Hf3.out fun k hk q => (H.out.subL k q).1
  · have z1 := Hf1.out.size; have z2 := Hf2.out.size
    rcases q with (q | q) | q
    · exact .inl q
    · exact .inr (by have := q.1; simp at this; omega)
    · exact .inr (by omega)
theorem clone_nil (w : World) : Calls Tryz.prog 47 #[.slice none 0 0] w fun e w' => e = .returned (.slice none 0 0) ∧ w = w' := by
  have hk := fun w : World => Lib.run_eql_slice_nil (P := Tryz.prog) w 23 27 none 0 0 0 0 Tryz.underlying23
  go_enter Tryz.func47, Tryz.ntmps47
  go_wp2_with fail
  go_ret
  exact ⟨rfl, rfl⟩
theorem tkD_size (t : Nat → Int) (d : Bool) : (tkD t d).toArray.size = 18 := rfl
theorem info18 (t : Nat → Int) (d : Bool) : (Tryz.prog.info? 98).map (fun i => i.size) = some (tkD t d).toArray.size := by rw [tkD_size]; exact info_task18
set_option maxHeartbeats 2000000 in
theorem task_get {w : World} {S : Nat → Prop} {b : Nat} {ts : List Tk} {line : List Int} (h : TableAt w S b ts line) (i : Nat) (t : Nat → Int) (d : Bool) (hi : ts[i]? = some (t, d, .slice none 0 0)) :
    Calls Tryz.prog 56 #[.pointer (some ⟨b, 0, none⟩), .int .i64 (i : Int)] w fun e w' => e = .returned (.tuple #[.agg (tkD t d).toArray, .bool true]) ∧ Fr Nob w w' := by
  obtain ⟨ab, lb, SA, SL, h⟩ := h
  have hg := fun W (hW : Fr Nob w W) => arena_get W SA ab 64 ts.length (rowsT ts) i t d (h.fr0 hW).arena (List.getElem?_eq_some_iff.1 hi).1 (fun j hj => rowsT_get ts i (t, d, .slice none 0 0) hi j hj)
  have hb := h.blk
  have Hg := Lib.hid hg; have Hb := Lib.hid hb; have Hcl := Lib.hid (fun W => clone_nil W)
  clear hg h hb hi
  go_enter Tryz.func56, Tryz.ntmps56
  have c00 := ((Fr.refl Nob w).alloc (.cells tkZ.toArray 98)).cell id (blk_cell Hb.out 0 rfl)
  unfold tkZ at c00
  dsimp only [tkL] at c00
  go_wp2_with fail
  obtain ⟨w1, hw1⟩ : ∃ w1, w1 = w.alloc (.cells tkZ.toArray 98) := ⟨_, rfl⟩
  have hw1' := hw1
  unfold tkZ at hw1'
  dsimp only [tkL] at hw1'
  rw [← hw1']
  clear hw1' c00
  obtain ⟨rb, hrb⟩ : ∃ rb, rb = w.heap.size := ⟨_, rfl⟩
  rw [← hrb]
  have hf1 : Fr Nob w w1 := by rw [hw1]; exact (Fr.refl Nob w).alloc _
  have hb1 : w1.heap[rb]? = some (.cells tkZ.toArray 98 (0, 0)) := by rw [hw1, hrb]; exact heap_alloc_new _ _
  have Hz1 : Hid (w.heap.size = rb ∧ rb < w1.heap.size) := ⟨hrb.symm, lt_of_block hb1⟩
  have Hf1 := Lib.hid hf1; have Hb1 := Lib.hid hb1
  clear hw1 hrb hf1 hb1
  refine (Hg.out w1 Hf1.out).mono ?_
  rintro e w2 ⟨rfl, hf2⟩
  have Hb2 := Lib.hid (hf2.blk id Hb1.out); have Hf2 := Lib.hid (Hf1.out.trans0 hf2); have Hz2 := Lib.hid hf2.size
  clear hf2
  have hzn : (w2.alloc (.cells tkZ.toArray 98)).heap[w2.heap.size]? = some (.cells tkZ.toArray 98 (0, 0)) := heap_alloc_new _ _
  unfold tkZ at hzn
  dsimp only [tkL] at hzn
  go_wp2_with (refine wpList_store_row _ rfl 98 (.tmp 6) (.tmp 18) rfl w2.heap.size (tkD t d).toArray _ 98 rfl rfl hzn rfl (info18 t d) (tkD_all t d) ?_; intro w3 hb3 hf3; have c16 : w3.cell? ⟨w2.heap.size, 16, none⟩ = some (.slice none 0 0) := blk_cell hb3 16 rfl; have f16 := blk_froz hb3 16; have Hb3 := Lib.hid hb3; have Hf3 := Lib.hid hf3; clear hb3 hf3)
  obtain ⟨tb, htb⟩ : ∃ tb, tb = w2.heap.size := ⟨_, rfl⟩
  rw [← htb] at Hb3 Hf3 c16 f16 ⊢
  have Htb : Hid (w2.heap.size = tb) := htb.symm
  refine (Hcl.out w3).mono ?_
  rintro e _ ⟨rfl, rfl⟩
  have hf23 : Fr Nob w2 w3 := ((Fr.refl Nob w2).alloc _).trans Hf3.out fun k hk e => by have := Htb.out; omega
  have hrt : rb ≠ tb := by have := Htb.out; have := Hz1.out; have := Hz2.out; omega
  have hb4 : (w3.setCell ⟨tb, 16, none⟩ (.slice none 0 0)).heap[tb]? = some (.cells (tkD t d).toArray 98 (0, 0)) := blk_set Hb3.out 16 _
  have hr4 : (w3.setCell ⟨tb, 16, none⟩ (.slice none 0 0)).heap[rb]? = some (.cells tkZ.toArray 98 (0, 0)) := (blk_set_ne 16 _ hrt).trans (hf23.blk id Hb2.out)
  have Hb4 := Lib.hid hb4; have Hr4 := Lib.hid hr4; have Hf23 := Lib.hid hf23; have Hrt := Lib.hid hrt
  clear hb4 hr4 hf23 hrt htb
  go_wp2_with (first | (refine wpList_load_row rfl 98 (.tmp 6) rfl tb rfl 98 (tkD t d).toArray (0, 0) _ Hb4.out Tryz.underlying98 rfl (info18 t d) ?_) | (refine wpList_store_row _ rfl 98 (.tmp 4) (.tmp 26) rfl rb (tkD t d).toArray _ 98 rfl rfl Hr4.out rfl (info18 t d) (tkD_all t d) ?_; intro w5 hb5 hf5; have Hb5 := Lib.hid hb5; have Hf5 := Lib.hid hf5; clear hb5 hf5))
  refine bodyPost_ret (res_row2 Tryz.results56 _ _ rb 98 (tkD t d).toArray (0, 0) _ (.bool true) rfl rfl Hb5.out Tryz.underlying98 rfl (info18 t d)) rfl ⟨rfl, ?_⟩
  have e1 : Fr Nob w2 (w3.setCell ⟨tb, 16, none⟩ (.slice none 0 0)) := Hf23.out.trans (((Fr.refl (fun k => k = tb) w3)).setT 16 _) fun k hk e => by have := Htb.out; omega
  exact (Hf2.out.trans0 e1).trans Hf5.out fun k hk e => by have := Hz1.out; omega
set_option maxHeartbeats 2000000 in
theorem is_runs {w : World} {S : Nat → Prop} {b : Nat} {ts : List Tk} {line : List Int} (h : TableAt w S b ts line) (i : Nat) (t : Nat → Int) (d : Bool) (hi : ts[i]? = some (t, d, .slice none 0 0)) (p : Bool) (hF : ∀ W, Calls Tryz.prog 102 #[.int .i64 (t 2)] W fun e w' => e = .returned (.bool p) ∧ W = w') (er : Int) (her : er = if p then 0 else 8) :
    Calls Tryz.prog 98 #[.pointer (some ⟨b, 0, none⟩), .int .i64 (i : Int), .func (.func 102) #[] #[]] w fun e w' => e = .returned (.tuple #[.agg (tkD t d).toArray, .int .i64 er]) ∧ Fr Nob w w' := by
  have hg := fun W (hW : Fr Nob w W) => task_get (w := W) (S := S) (b := b) (ts := ts) (line := line) (by obtain ⟨ab, lb, SA, SL, h⟩ := h; exact ⟨ab, lb, SA, SL, h.fr0 hW⟩) i t d hi
  have Hg := Lib.hid hg; have HF := Lib.hid hF
  clear hg h hi hF
  go_enter Tryz.func98, Tryz.ntmps98
  go_wp2_with fail
  obtain ⟨w1, hw1⟩ : ∃ w1, w1 = w.alloc (.cells tkZ.toArray 98) := ⟨_, rfl⟩
  have hw1' := hw1
  unfold tkZ at hw1'
  dsimp only [tkL] at hw1'
  rw [← hw1']
  clear hw1'
  obtain ⟨rb, hrb⟩ : ∃ rb, rb = w.heap.size := ⟨_, rfl⟩
  rw [← hrb]
  have hf1 : Fr Nob w w1 := by rw [hw1]; exact (Fr.refl Nob w).alloc _
  have hb1 : w1.heap[rb]? = some (.cells tkZ.toArray 98 (0, 0)) := by rw [hw1, hrb]; exact heap_alloc_new _ _
  have Hz1 : Hid (w.heap.size = rb ∧ rb < w1.heap.size) := ⟨hrb.symm, lt_of_block hb1⟩
  have Hf1 := Lib.hid hf1; have Hb1 := Lib.hid hb1
  clear hw1 hrb hf1 hb1
  refine (Hg.out w1 Hf1.out).mono ?_
  rintro e w2 ⟨rfl, hf2⟩
  have Hb2 := Lib.hid (hf2.blk id Hb1.out); have Hf2 := Lib.hid (Hf1.out.trans0 hf2); have Hz2 := Lib.hid hf2.size
  clear hf2
  have hzn : (w2.alloc (.cells tkZ.toArray 98)).heap[w2.heap.size]? = some (.cells tkZ.toArray 98 (0, 0)) := heap_alloc_new _ _
  unfold tkZ at hzn
  dsimp only [tkL] at hzn
  go_wp2_with (refine wpList_store_row _ rfl 98 (.tmp 8) (.tmp 14) rfl w2.heap.size (tkD t d).toArray _ 98 rfl rfl hzn rfl (info18 t d) (tkD_all t d) ?_; intro w3 hb3 hf3; have c2 : w3.cell? ⟨w2.heap.size, 2, none⟩ = some (.int .i64 (t 2)) := blk_cell hb3 2 rfl; have Hb3 := Lib.hid hb3; have Hf3 := Lib.hid hf3; clear hb3 hf3)
  clear hzn
  obtain ⟨tb, htb⟩ : ∃ tb, tb = w2.heap.size := ⟨_, rfl⟩
  rw [← htb] at Hb3 Hf3 c2 ⊢
  have Htb : Hid (w2.heap.size = tb) := htb.symm
  have hf23 : Fr Nob w2 w3 := ((Fr.refl Nob w2).alloc _).trans Hf3.out fun k hk e => by have := Htb.out; omega
  have Hr3 := Lib.hid (hf23.blk id Hb2.out)
  have Hf23 := Lib.hid hf23
  clear hf23 htb
  refine (HF.out w3).mono ?_
  rintro e _ ⟨rfl, rfl⟩
  clear c2
  cases p with
  | true =>
    obtain rfl : er = 0 := by rw [her]; rfl
    clear her
    go_wp2_with (first | (refine wpList_load_row rfl 98 (.tmp 8) rfl tb rfl 98 (tkD t d).toArray (0, 0) _ Hb3.out Tryz.underlying98 rfl (info18 t d) ?_) | (refine wpList_store_row _ rfl 98 (.tmp 6) (.tmp 27) rfl rb (tkD t d).toArray _ 98 rfl rfl Hr3.out rfl (info18 t d) (tkD_all t d) ?_; intro w5 hb5 hf5; have Hb5 := Lib.hid hb5; have Hf5 := Lib.hid hf5; clear hb5 hf5))
    refine bodyPost_ret (res_row2 Tryz.results98 _ _ rb 98 (tkD t d).toArray (0, 0) _ (.int .i64 0) rfl rfl Hb5.out Tryz.underlying98 rfl (info18 t d)) rfl ⟨rfl, ?_⟩
    exact (Hf2.out.trans0 Hf23.out).trans Hf5.out fun k hk e => by have := Hz1.out; omega
  | false =>
    obtain rfl : er = 8 := by rw [her]; rfl
    clear her
    go_wp2_with (first | (refine wpList_load_row rfl 98 (.tmp 8) rfl tb rfl 98 (tkD t d).toArray (0, 0) _ Hb3.out Tryz.underlying98 rfl (info18 t d) ?_) | (refine wpList_store_row _ rfl 98 (.tmp 6) (.tmp 26) rfl rb (tkD t d).toArray _ 98 rfl rfl Hr3.out rfl (info18 t d) (tkD_all t d) ?_; intro w5 hb5 hf5; have Hb5 := Lib.hid hb5; have Hf5 := Lib.hid hf5; clear hb5 hf5))
    refine bodyPost_ret (res_row2 Tryz.results98 _ _ rb 98 (tkD t d).toArray (0, 0) _ (.int .i64 8) rfl rfl Hb5.out Tryz.underlying98 rfl (info18 t d)) rfl ⟨rfl, ?_⟩
    exact (Hf2.out.trans0 Hf23.out).trans Hf5.out fun k hk e => by have := Hz1.out; omega
set_option maxHeartbeats 2000000 in
theorem is_ends {w : World} {S : Nat → Prop} {b : Nat} {ts : List Tk} {line : List Int} (h : TableAt w S b ts line) (i : Nat) (t : Nat → Int) (d : Bool) (hi : ts[i]? = some (t, d, .slice none 0 0)) (p : Bool) (hF : ∀ W, Calls Tryz.prog 99 #[.int .i64 (t 2)] W fun e w' => e = .returned (.bool p) ∧ W = w') (er : Int) (her : er = if p then 0 else 8) :
    Calls Tryz.prog 98 #[.pointer (some ⟨b, 0, none⟩), .int .i64 (i : Int), .func (.func 99) #[] #[]] w fun e w' => e = .returned (.tuple #[.agg (tkD t d).toArray, .int .i64 er]) ∧ Fr Nob w w' := by
  have hg := fun W (hW : Fr Nob w W) => task_get (w := W) (S := S) (b := b) (ts := ts) (line := line) (by obtain ⟨ab, lb, SA, SL, h⟩ := h; exact ⟨ab, lb, SA, SL, h.fr0 hW⟩) i t d hi
  have Hg := Lib.hid hg; have HF := Lib.hid hF
  clear hg h hi hF
  go_enter Tryz.func98, Tryz.ntmps98
  go_wp2_with fail
  obtain ⟨w1, hw1⟩ : ∃ w1, w1 = w.alloc (.cells tkZ.toArray 98) := ⟨_, rfl⟩
  have hw1' := hw1
  unfold tkZ at hw1'
  dsimp only [tkL] at hw1'
  rw [← hw1']
  clear hw1'
  obtain ⟨rb, hrb⟩ : ∃ rb, rb = w.heap.size := ⟨_, rfl⟩
  rw [← hrb]
  have hf1 : Fr Nob w w1 := by rw [hw1]; exact (Fr.refl Nob w).alloc _
  have hb1 : w1.heap[rb]? = some (.cells tkZ.toArray 98 (0, 0)) := by rw [hw1, hrb]; exact heap_alloc_new _ _
  have Hz1 : Hid (w.heap.size = rb ∧ rb < w1.heap.size) := ⟨hrb.symm, lt_of_block hb1⟩
  have Hf1 := Lib.hid hf1; have Hb1 := Lib.hid hb1
  clear hw1 hrb hf1 hb1
  refine (Hg.out w1 Hf1.out).mono ?_
  rintro e w2 ⟨rfl, hf2⟩
  have Hb2 := Lib.hid (hf2.blk id Hb1.out); have Hf2 := Lib.hid (Hf1.out.trans0 hf2); have Hz2 := Lib.hid hf2.size
  clear hf2
  have hzn : (w2.alloc (.cells tkZ.toArray 98)).heap[w2.heap.size]? = some (.cells tkZ.toArray 98 (0, 0)) := heap_alloc_new _ _
  unfold tkZ at hzn
  dsimp only [tkL] at hzn
  go_wp2_with (refine wpList_store_row _ rfl 98 (.tmp 8) (.tmp 14) rfl w2.heap.size (tkD t d).toArray _ 98 rfl rfl hzn rfl (info18 t d) (tkD_all t d) ?_; intro w3 hb3 hf3; have c2 : w3.cell? ⟨w2.heap.size, 2, none⟩ = some (.int .i64 (t 2)) := blk_cell hb3 2 rfl; have Hb3 := Lib.hid hb3; have Hf3 := Lib.hid hf3; clear hb3 hf3)
  clear hzn
  obtain ⟨tb, htb⟩ : ∃ tb, tb = w2.heap.size := ⟨_, rfl⟩
  rw [← htb] at Hb3 Hf3 c2 ⊢
  have Htb : Hid (w2.heap.size = tb) := htb.symm
  have hf23 : Fr Nob w2 w3 := ((Fr.refl Nob w2).alloc _).trans Hf3.out fun k hk e => by have := Htb.out; omega
  have Hr3 := Lib.hid (hf23.blk id Hb2.out)
  have Hf23 := Lib.hid hf23
  clear hf23 htb
  refine (HF.out w3).mono ?_
  rintro e _ ⟨rfl, rfl⟩
  clear c2
  cases p with
  | true =>
    obtain rfl : er = 0 := by rw [her]; rfl
    clear her
    go_wp2_with (first | (refine wpList_load_row rfl 98 (.tmp 8) rfl tb rfl 98 (tkD t d).toArray (0, 0) _ Hb3.out Tryz.underlying98 rfl (info18 t d) ?_) | (refine wpList_store_row _ rfl 98 (.tmp 6) (.tmp 27) rfl rb (tkD t d).toArray _ 98 rfl rfl Hr3.out rfl (info18 t d) (tkD_all t d) ?_; intro w5 hb5 hf5; have Hb5 := Lib.hid hb5; have Hf5 := Lib.hid hf5; clear hb5 hf5))
    refine bodyPost_ret (res_row2 Tryz.results98 _ _ rb 98 (tkD t d).toArray (0, 0) _ (.int .i64 0) rfl rfl Hb5.out Tryz.underlying98 rfl (info18 t d)) rfl ⟨rfl, ?_⟩
    exact (Hf2.out.trans0 Hf23.out).trans Hf5.out fun k hk e => by have := Hz1.out; omega
  | false =>
    obtain rfl : er = 8 := by rw [her]; rfl
    clear her
    go_wp2_with (first | (refine wpList_load_row rfl 98 (.tmp 8) rfl tb rfl 98 (tkD t d).toArray (0, 0) _ Hb3.out Tryz.underlying98 rfl (info18 t d) ?_) | (refine wpList_store_row _ rfl 98 (.tmp 6) (.tmp 26) rfl rb (tkD t d).toArray _ 98 rfl rfl Hr3.out rfl (info18 t d) (tkD_all t d) ?_; intro w5 hb5 hf5; have Hb5 := Lib.hid hb5; have Hf5 := Lib.hid hf5; clear hb5 hf5))
    refine bodyPost_ret (res_row2 Tryz.results98 _ _ rb 98 (tkD t d).toArray (0, 0) _ (.int .i64 8) rfl rfl Hb5.out Tryz.underlying98 rfl (info18 t d)) rfl ⟨rfl, ?_⟩
    exact (Hf2.out.trans0 Hf23.out).trans Hf5.out fun k hk e => by have := Hz1.out; omega
end Go.Proofs.YtcffplgimbbflaaGreat
