/- Tasks in an arena: Set. -/
import Derived.Test.YteabiaoklpfbdaaArenaR
set_option linter.unusedVariables false
set_option linter.unusedSimpArgs false
namespace Go.Proofs.Yteabiaoklpfbdaa
open Go.RowKit
set_option maxRecDepth 100000
set_option maxHeartbeats 2000000 in
theorem arena_set (w : World) (S : Nat → Prop) (b most n : Nat) (cs : List Value) (i : Nat) (L : List Value) (hL : L.length = 18) (hone : ∀ v ∈ L, v.oneCell' = true) (h : ArenaAt 76 44 18 w S b most n cs) (hi : i < n) :
    Calls Try.prog 30 #[.pointer (some ⟨b, 0, none⟩), .int .i64 (i : Int), .agg L.toArray] w fun e w' => e = .returned (.bool true) ∧ Fr S w w' ∧ ArenaAt 76 44 18 w' S b most n (rowSet cs i L) := by
  have hl := fun w' (hf : Fr Nob w w') => arena_len w' S b most n cs (h.fr hf fun _ _ q => q)
  have Hl := Lib.hid hl
  obtain ⟨v, hS, hb, hs, hn, hm⟩ := h
  obtain ⟨g, off, c, rfl, hSg, hg, hc1, hc2, hc, hfz⟩ := hs.form (by omega)
  have hlen := hs.1
  unfold maxLen at hc2
  have h0 : ¬ (i : Int) < 0 := by omega
  have h1 : ¬ (n : Int) ≤ i := by omega
  have hbl := lt_of_block hb
  have Hb := Lib.hid hb; have Hs := Lib.hid hs
  have hthere : ∀ W, Fr Nob w W → W.there g (off + i * 18) 18 := fun W hW j hj => by
    have hjl : i * 18 + j < cs.length := by rw [hlen]; have : (i + 1) * 18 ≤ n * 18 := Nat.mul_le_mul_right _ hi; omega
    have := hc (i * 18 + j) _ (List.getElem?_eq_getElem hjl)
    rw [Nat.add_assoc]
    exact ⟨by rw [hW.cell (p := ⟨g, off + (i * 18 + j), none⟩) id this]; rfl, by rw [hW.frozen (p := ⟨g, off + (i * 18 + j), none⟩) id hg]; exact hfz _⟩
  have Hth := Lib.hid hthere
  clear hl hb hs hc hfz hthere
  go_enter Try.func30, Try.ntmps30
  go_wp2_with fail
  obtain ⟨w1, hw1⟩ : ∃ w1, w1 = w.alloc (.cells L.toArray 44) := ⟨_, rfl⟩
  rw [← hw1]
  obtain ⟨pb, hpb⟩ : ∃ pb, pb = w.heap.size := ⟨_, rfl⟩
  rw [← hpb]
  have hf1 : Fr Nob w w1 := by rw [hw1]; exact (Fr.refl Nob w).alloc _
  have hb1 : w1.heap[pb]? = some (.cells L.toArray 44 (0, 0)) := by rw [hw1, hpb]; exact heap_alloc_new _ _
  have Hz1 : Hid (w.heap.size = pb) := hpb.symm
  have hgp : g ≠ pb := by omega
  have hbp : b ≠ g := fun e => hSg.2 e.symm
  clear hw1 hpb
  refine (Hl.out _ hf1).mono ?_
  rintro e wx ⟨rfl, hwx⟩
  obtain rfl : w1 = wx := hwx
  have c0 := blk_cell (hf1.blk id Hb.out) 0 rfl
  have Hf1 := Lib.hid hf1; have Hb1 := Lib.hid hb1
  have hS0 : w1.rangeAt pb 0 L ∧ w1.there g (off + i * 18) 18 ∧ w1.cell? ⟨b, 0, none⟩ = some (.slice (some ⟨g, off, none⟩) n c) := ⟨rangeRow hb1, Hth.out w1 hf1, c0⟩
  have HS0 := Lib.hid hS0
  have hu44 := Try.underlying44
  have hi44 : (Try.prog.info? 44).map (·.size) = some L.length := by rw [info_task18, hL]
  have hkeep : ∀ W : World, (W.rangeAt pb 0 L ∧ W.there g (off + i * 18) 18 ∧ W.cell? ⟨b, 0, none⟩ = some (.slice (some ⟨g, off, none⟩) n c)) → ((W.setCells g (off + i * 18) L).rangeAt pb 0 L ∧ (W.setCells g (off + i * 18) L).there g (off + i * 18) 18 ∧ (W.setCells g (off + i * 18) L).cell? ⟨b, 0, none⟩ = some (.slice (some ⟨g, off, none⟩) n c)) := fun W ⟨a, bb, cc⟩ =>
    ⟨World.rangeAt_setCells_apart a _ _ _ (.inl (Ne.symm hgp)), World.there_setCells bb _ _ _, (setCells_fr g L (off + i * 18) W).cell (p := ⟨b, 0, none⟩) hbp cc⟩
  have Hkeep := Lib.hid hkeep
  clear hf1 hb1 hkeep hS0
  go_wp2_with fail
  refine wp_region_held_drew (S := fun W => W.rangeAt pb 0 L ∧ W.there g (off + i * 18) 18 ∧ W.cell? ⟨b, 0, none⟩ = some (.slice (some ⟨g, off, none⟩) n c)) (by kernel_rfl) (by simpa using HS0.out) (fun hHeld => ?_)
  refine wpAnyH_take (i := 0) (v := ?_) rfl (by kernel_rfl) (by kernel_rfl) (by kernel_rfl) (fun _ _ _ h => h) (Or.inl ⟨by rfl, ?_⟩) (by assumption) ?_
  rotate_left
  · intro w hSw; (try dsimp only at hSw); go_simp; try with_reducible rfl
  try simp only [List.getElem_toArray, List.getElem_cons_zero, List.getElem_cons_succ, Act.put, List.setIfInBounds_toArray, List.set_cons_zero, List.set_cons_succ]
  refine wpAnyH_take (i := 1) (v := ?_) rfl (by kernel_rfl) (by kernel_rfl) (by kernel_rfl) (fun _ _ _ h => h) (Or.inl ⟨by rfl, ?_⟩) (by assumption) ?_
  rotate_left
  · intro w hSw; (try dsimp only at hSw); go_simp; try with_reducible rfl
  try simp only [List.getElem_toArray, List.getElem_cons_zero, List.getElem_cons_succ, Act.put, List.setIfInBounds_toArray, List.set_cons_zero, List.set_cons_succ]
  refine wpAnyH_take (i := 2) (v := ?_) rfl (by kernel_rfl) (by kernel_rfl) (by kernel_rfl) (fun _ _ _ h => h) (Or.inl ⟨by rfl, ?_⟩) (by assumption) ?_
  rotate_left
  · intro w hSw; (try dsimp only at hSw); go_simp; try with_reducible rfl
  try simp only [List.getElem_toArray, List.getElem_cons_zero, List.getElem_cons_succ, Act.put, List.setIfInBounds_toArray, List.set_cons_zero, List.set_cons_succ]
  refine wpAnyH_take (i := 3) (v := ?_) rfl (by kernel_rfl) (by kernel_rfl) (by kernel_rfl) (fun _ _ _ h => h) (Or.inl ⟨by rfl, ?_⟩) (by assumption) ?_
  rotate_left
  · intro w hSw; (try dsimp only at hSw); go_simp; try with_reducible rfl
  try simp only [List.getElem_toArray, List.getElem_cons_zero, List.getElem_cons_succ, Act.put, List.setIfInBounds_toArray, List.set_cons_zero, List.set_cons_succ]
  refine wpAnyH_take (i := 4) (v := ?_) rfl (by kernel_rfl) (by kernel_rfl) (by kernel_rfl) (fun _ _ _ h => h) (Or.inl ⟨by rfl, ?_⟩) (by assumption) ?_
  rotate_left
  · intro w hSw; (try dsimp only at hSw); go_simp; try with_reducible rfl
  try simp only [List.getElem_toArray, List.getElem_cons_zero, List.getElem_cons_succ, Act.put, List.setIfInBounds_toArray, List.set_cons_zero, List.set_cons_succ]
  refine wpAnyH_take (i := 5) (v := _) rfl (by kernel_rfl) (by kernel_rfl) (by kernel_rfl) (fun _ _ _ h => h) (yieldsIf_load_mid (by rfl) _ _ rfl pb 0 rfl L _ (fun w hw => hw.1) hu44 rfl hi44) (by assumption) ?_
  try simp only [List.getElem_toArray, List.getElem_cons_zero, List.getElem_cons_succ, Act.put, List.setIfInBounds_toArray, List.set_cons_zero, List.set_cons_succ]
  refine wpAnyH_take (i := 6) (v := ?_) rfl (by kernel_rfl) (by kernel_rfl) (by kernel_rfl) (fun _ _ _ h => h) (Or.inl ⟨by rfl, ?_⟩) (by assumption) ?_
  rotate_left
  · intro w hSw; (try dsimp only at hSw); go_simp; try with_reducible rfl
  try simp only [List.getElem_toArray, List.getElem_cons_zero, List.getElem_cons_succ, Act.put, List.setIfInBounds_toArray, List.set_cons_zero, List.set_cons_succ]
  refine last_store 7 _ (by kernel_rfl) rfl rfl _ _ _ rfl g (off + i * 18) L.toArray rfl rfl (by rw [List.size_toArray, hL]; exact hHeld.2.1) (by rw [List.size_toArray]; exact hi44) (all_oneCell_toArray hone) (by simpa using Hkeep.out _ hHeld) (by kernel_rfl) ?_
  have hf2 : Fr (fun k => k = g) w1 (w1.drew.setCells g (off + i * 18) L) := ((Fr.refl (fun k => k = g) w1).drew).trans0 (setCells_fr g L (off + i * 18) w1.drew)
  have hs2 := (Hs.out.fr (Hf1.out.drew) fun _ _ q => q).setRows hi hL
  have hb2 := hf2.blk hbp (Hf1.out.blk id Hb.out)
  have Hf2 := Lib.hid hf2; have Hs2 := Lib.hid hs2; have Hb2 := Lib.hid hb2
  simp only [List.getElem_toArray, List.getElem_cons_zero, List.getElem_cons_succ, Act.put, List.setIfInBounds_toArray, List.set_cons_zero, List.set_cons_succ]
  clear hHeld hf2 hs2 hb2 c0
  go_wp2_with fail
  go_ret
  exact ⟨rfl, (Hf1.out.none.trans Hf2.out fun k _ e => by rw [e]; exact hSg.1), _, hS, Hb2.out, Hs2.out, hn, hm⟩
end Go.Proofs.Yteabiaoklpfbdaa
