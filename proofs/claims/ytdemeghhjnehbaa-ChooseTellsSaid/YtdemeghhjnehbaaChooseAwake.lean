/- The closed part of the statements of chapter 10: awake answers true, in whatever memory. -/
import Derived.Test.YtdemeghhjnehbaaChooseAw
set_option linter.unusedVariables false
set_option linter.unusedSimpArgs false
namespace Go.Proofs.Ytdemeghhjnehbaa
open Go.RowKit
set_option maxRecDepth 100000
abbrev ch0 (q : List Int) (sd : List Wt) : ChS := ⟨1, q, [], sd, false, false, false⟩
set_option maxHeartbeats 8000000 in
theorem awake10 (w : World) : Calls Try.prog 9 #[] w fun e w' => e = .returned (.bool true) ∧ Fr Nob w w' := by
  have Hp : Hid (Pool w Nob (B3 0 0 0) (P3 none none none)) := Lib.hid (by have := Pool.start w Nob (B3 0 0 0); rwa [P3_none] at this)
  have HS : Hid (∀ k, Nob k → k < w.heap.size) := Lib.hid fun _ q => q.elim
  have HG : Hid (∀ k, Nob k → w.heap.size ≤ k) := Lib.hid fun _ q => q.elim
  have HF : Hid (Fr Nob w w) := Lib.hid (Fr.refl _ _)
  obtain ⟨S, hSe⟩ : ∃ S, S = Nob := ⟨_, rfl⟩
  rw [← hSe] at Hp HS HG
  clear hSe
  go_enter Try.func9, Try.ntmps9
  go_wp2_with fail
  refine (pool_new Hp.out 0 1 (by omega)).mono ?_
  rintro e v1 ⟨ba, rfl, hf, hp⟩
  rw [B3_0, P3_0] at hp
  replace HG := Lib.hid (fun k (q : And' S w v1 k) => (by rcases q with q | q; exact HG.out k q; exact Nat.le_trans HF.out.size q.1 : w.heap.size ≤ k))
  replace HF := Lib.hid (HF.out.trans0 hf)
  replace HS := Lib.hid (pool_lt HS.out hf.size)
  replace Hp := Lib.hid hp
  clear hf hp
  generalize And' S w v1 = S2 at Hp HS HG 
  clear S
  obtain ⟨S, hSe⟩ : ∃ S, S = S2 := ⟨_, rfl⟩
  subst hSe
  go_wp2_with fail
  refine (pool_new Hp.out 1 1 (by omega)).mono ?_
  rintro e v2 ⟨bb, rfl, hf, hp⟩
  rw [B3_1, P3_1] at hp
  replace HG := Lib.hid (fun k (q : And' S v1 v2 k) => (by rcases q with q | q; exact HG.out k q; exact Nat.le_trans HF.out.size q.1 : w.heap.size ≤ k))
  replace HF := Lib.hid (HF.out.trans0 hf)
  replace HS := Lib.hid (pool_lt HS.out hf.size)
  replace Hp := Lib.hid hp
  clear hf hp
  generalize And' S v1 v2 = S2 at Hp HS HG 
  clear S
  obtain ⟨S, hSe⟩ : ∃ S, S = S2 := ⟨_, rfl⟩
  subst hSe
  go_wp2_with fail
  refine (pool_send Hp.out 0 (c := chNew 1) (c' := ch0 [7] []) rfl 7 true [] 0 0 rfl rfl rfl).mono ?_
  rintro e v3 ⟨_, _, rfl, hf, hp, _⟩
  rw [P3_0] at hp
  replace hf : Fr S v2 v3 := hf
  replace hp : Pool v3 S _ _ := hp
  replace HF := Lib.hid (HF.out.trans hf fun k hk q => by have := HG.out k q; omega)
  replace HS := Lib.hid (fun k (q : S k) => Nat.lt_of_lt_of_le (HS.out k q) hf.size)
  replace Hp := Lib.hid hp
  clear hf hp
  go_wp2_with fail
  obtain ⟨v4, hv⟩ : ∃ v4, v4 = (v3.alloc (.cells #[.pointer (some ⟨ba, 0, none⟩), .bool false, .int .i64 0, .pointer (some ⟨bb, 0, none⟩), .bool true, .int .i64 3, .pointer none, .bool false, .int .i64 0] 29)) := ⟨_, rfl⟩
  rw [← hv]
  have hf : Fr Nob v3 v4 := by rw [hv]; exact ((Fr.refl Nob v3).alloc _)
  have Kl : Hid (Kp S v4 (v3.heap.size) (.cells #[.pointer (some ⟨ba, 0, none⟩), .bool false, .int .i64 0, .pointer (some ⟨bb, 0, none⟩), .bool true, .int .i64 3, .pointer none, .bool false, .int .i64 0] 29)) := by
    refine ⟨?_, fun q => by have := HS.out _ q; omega⟩
    rw [hv]
    exact (blk_alloc_eq _ (by simp))
  replace HF := Lib.hid (HF.out.trans0 hf)
  replace HS := Lib.hid (fun k (q : S k) => Nat.lt_of_lt_of_le (HS.out k q) hf.size)
  replace Hp := Lib.hid (Hp.out.fr0 hf)
  have Hlast := Lib.hid hf
  clear hf hv
  clear Hlast
  obtain ⟨lb, hlb⟩ : ∃ lb, lb = v3.heap.size := ⟨_, rfl⟩
  rw [← hlb] at Kl ⊢
  clear hlb
  refine (do_ready Hp.out HS.out _ ([(some 0, false, 0), (some 1, true, 3), (none, false, 0)] : List Cs) 3 rfl (rd_lit Kl.out.blk 3 3 rfl (by simp [maxLen])) (by intro x hx; simp at hx; rcases hx with rfl | rfl | rfl <;> intro i hi <;> cases hi <;> exact ⟨_, rfl⟩) (by intro x hx; simp at hx; rcases hx with rfl | rfl | rfl <;> rfl)
    (fun k => decide (k < 2)) (by intro k x hx; rcases k with _ | _ | _ | k <;> simp at hx <;> subst hx <;> rfl) (by omega) false 3 5 (by omega) 2 1 1 1 (some 1, true, 3) (c := chNew 1) (c' := ch0 [3] []) rfl (by omega) (by decide) (by omega) rfl (by omega) rfl rfl rfl 0 true false [] 0 rfl rfl rfl).mono ?_
  rintro e v5 ⟨_, _, rfl, hf, hp, _⟩
  rw [P3_1] at hp
  replace hf : Fr S v4 v5 := hf
  replace hp : Pool v5 S _ _ := hp
  replace Kl := Lib.hid (Kl.out.fr hf)
  replace HF := Lib.hid (HF.out.trans hf fun k hk q => by have := HG.out k q; omega)
  replace HS := Lib.hid (fun k (q : S k) => Nat.lt_of_lt_of_le (HS.out k q) hf.size)
  replace Hp := Lib.hid hp
  clear hf hp
  go_wp2_with fail
  obtain ⟨v6, hv⟩ : ∃ v6, v6 = ((v5.alloc (resO 1 0 true false false false)).alloc (.cells #[.pointer none, .bool false, .int .i64 0] 29)) := ⟨_, rfl⟩
  rw [← hv]
  have hf : Fr Nob v5 v6 := by rw [hv]; exact (((Fr.refl Nob v5).alloc _).alloc _)
  replace Kl := Lib.hid (Kl.out.fr0 hf)
  have Kr : Hid (Kp S v6 (v5.heap.size) (resO 1 0 true false false false)) := by
    refine ⟨?_, fun q => by have := HS.out _ q; omega⟩
    rw [hv]
    exact (((Fr.refl Nob _).alloc _).blk (k := v5.heap.size) id (blk_alloc_eq _ (by simp)))
  have Ke : Hid (Kp S v6 (v5.heap.size + 1) (.cells #[.pointer none, .bool false, .int .i64 0] 29)) := by
    refine ⟨?_, fun q => by have := HS.out _ q; omega⟩
    rw [hv]
    exact (blk_alloc_eq _ (by simp))
  replace HF := Lib.hid (HF.out.trans0 hf)
  replace HS := Lib.hid (fun k (q : S k) => Nat.lt_of_lt_of_le (HS.out k q) hf.size)
  replace Hp := Lib.hid (Hp.out.fr0 hf)
  have Hlast := Lib.hid hf
  clear hf hv
  clear Hlast
  obtain ⟨rb, hrb⟩ : ∃ rb, rb = v5.heap.size := ⟨_, rfl⟩
  obtain ⟨eb, heb⟩ : ∃ eb, eb = v5.heap.size + 1 := ⟨_, rfl⟩
  rw [← heb] at Ke ⊢
  rw [← hrb] at Kr ⊢
  clear hrb heb
  refine (do_default Hp.out HS.out _ ([(none, false, 0)] : List Cs) 1 rfl (rd_lit Ke.out.blk 1 3 rfl (by simp [maxLen])) (by intro x hx; simp at hx; subst hx <;> intro i hi <;> cases hi <;> exact ⟨_, rfl⟩) (by intro x hx; simp at hx; subst hx; rfl) (by intro x hx; simp at hx; subst hx; rfl) (by omega) 0 5 (by omega)).mono ?_
  rintro e v7 ⟨_, _, rfl, hf, hp, _⟩
  replace hf : Fr S v6 v7 := hf
  replace hp : Pool v7 S _ _ := hp
  replace Kl := Lib.hid (Kl.out.fr hf)
  replace Kr := Lib.hid (Kr.out.fr hf)
  replace Ke := Lib.hid (Ke.out.fr hf)
  replace HF := Lib.hid (HF.out.trans hf fun k hk q => by have := HG.out k q; omega)
  replace HS := Lib.hid (fun k (q : S k) => Nat.lt_of_lt_of_le (HS.out k q) hf.size)
  replace Hp := Lib.hid hp
  clear hf hp
  go_wp2_with fail
  obtain ⟨v8, hv⟩ : ∃ v8, v8 = ((v7.alloc (resO (-1) 0 false false false false)).alloc (.cells #[.pointer (some ⟨bb, 0, none⟩), .bool true, .int .i64 0, .pointer (some ⟨bb, 0, none⟩), .bool true, .int .i64 0] 29)) := ⟨_, rfl⟩
  rw [← hv]
  have hf : Fr Nob v7 v8 := by rw [hv]; exact (((Fr.refl Nob v7).alloc _).alloc _)
  replace Kl := Lib.hid (Kl.out.fr0 hf)
  replace Kr := Lib.hid (Kr.out.fr0 hf)
  replace Ke := Lib.hid (Ke.out.fr0 hf)
  have Ks : Hid (Kp S v8 (v7.heap.size) (resO (-1) 0 false false false false)) := by
    refine ⟨?_, fun q => by have := HS.out _ q; omega⟩
    rw [hv]
    exact (((Fr.refl Nob _).alloc _).blk (k := v7.heap.size) id (blk_alloc_eq _ (by simp)))
  have Kf : Hid (Kp S v8 (v7.heap.size + 1) (.cells #[.pointer (some ⟨bb, 0, none⟩), .bool true, .int .i64 0, .pointer (some ⟨bb, 0, none⟩), .bool true, .int .i64 0] 29)) := by
    refine ⟨?_, fun q => by have := HS.out _ q; omega⟩
    rw [hv]
    exact (blk_alloc_eq _ (by simp))
  replace HF := Lib.hid (HF.out.trans0 hf)
  replace HS := Lib.hid (fun k (q : S k) => Nat.lt_of_lt_of_le (HS.out k q) hf.size)
  replace Hp := Lib.hid (Hp.out.fr0 hf)
  have Hlast := Lib.hid hf
  clear hf hv
  clear Hlast
  obtain ⟨sb, hsb⟩ : ∃ sb, sb = v7.heap.size := ⟨_, rfl⟩
  obtain ⟨fb, hfb⟩ : ∃ fb, fb = v7.heap.size + 1 := ⟨_, rfl⟩
  rw [← hfb] at Kf ⊢
  rw [← hsb] at Ks ⊢
  clear hsb hfb
  have hpk : parkF 5 ([(some 1, true, 0), (some 1, true, 0)] : List Cs) 0 (P3 (some (ch0 [7] [])) (some (ch0 [3] [])) none) = P3 (some (ch0 [7] [])) (some (ch0 [3] [(5, 0, 0), (5, 1, 0)])) none := by
    have h1 : (ch0 [3] []).waitS (5, 0, 0) true = ch0 [3] [(5, 0, 0)] := rfl
    have h2 : (ch0 [3] [(5, 0, 0)]).waitS (5, 1, 0) true = ch0 [3] [(5, 0, 0), (5, 1, 0)] := rfl
    show stepF (stepF (P3 (some (ch0 [7] [])) (some (ch0 [3] [])) none) (fun c => c.waitS (5, 0, 0) true) (some 1)) (fun c => c.waitS (5, 1, 0) true) (some 1) = _
    have e1 : stepF (P3 (some (ch0 [7] [])) (some (ch0 [3] [])) none) (fun c => c.waitS (5, 0, 0) true) (some 1) = P3 (some (ch0 [7] [])) (some (ch0 [3] [(5, 0, 0)])) none := by
      show upd _ 1 _ = _; rw [P3_1]; rfl
    rw [e1]
    show upd _ 1 _ = _; rw [P3_1]; rfl
  have hfw : Few (P3 (some (ch0 [7] [])) (some (ch0 [3] [])) none) 1000 := by
    intro i c hi
    unfold P3 at hi
    split at hi
    · cases hi; exact ⟨by simp, by simp⟩
    · split at hi
      · cases hi; exact ⟨by simp, by simp⟩
      · split at hi <;> cases hi
  refine (do_park Hp.out HS.out _ ([(some 1, true, 0), (some 1, true, 0)] : List Cs) 2 rfl (fun k => k = fb) (sl_lit Kf.out.blk 2 3 rfl (by simp [maxLen])) (fun k q e => by subst e; exact Kf.out.off q) (fun k e => by subst e; exact lt_of_block Kf.out.blk) (by intro x hx; simp at hx; obtain rfl := hx; intro i hi <;> cases hi <;> exact ⟨_, rfl⟩) (by intro x hx; simp at hx; subst hx; rfl) (by intro x hx; simp at hx; subst hx; rfl) hfw (by omega) 0 5 (by omega)).mono ?_
  clear hfw
  rintro e v9 ⟨_, _, rfl, hf, hp, _⟩
  rw [hpk] at hp
  replace hf : Fr S v8 v9 := hf
  replace hp : Pool v9 (And' S v8 v9) _ _ := hp
  replace Kl := Lib.hid (Kl.out.grow hf)
  replace Kr := Lib.hid (Kr.out.grow hf)
  replace Ke := Lib.hid (Ke.out.grow hf)
  replace Ks := Lib.hid (Ks.out.grow hf)
  replace Kf := Lib.hid (Kf.out.grow hf)
  have HF' := Lib.hid (HF.out.trans hf fun k hk q => by have := HG.out k q; omega)
  replace HG := Lib.hid (fun k (q : And' S v8 v9 k) => (by rcases q with q | q; exact HG.out k q; exact Nat.le_trans HF.out.size q.1 : w.heap.size ≤ k))
  replace HF := HF'
  clear HF'
  replace HS := Lib.hid (pool_lt HS.out hf.size)
  replace Hp := Lib.hid hp
  clear hf hp
  generalize And' S v8 v9 = S2 at Hp HS HG Kl Kr Ke Ks Kf
  clear S
  obtain ⟨S, hSe⟩ : ∃ S, S = S2 := ⟨_, rfl⟩
  subst hSe
  clear hpk
  go_wp2_with fail
  obtain ⟨v10, hv⟩ : ∃ v10, v10 = (v9.alloc (resO (-1) 0 false false true false)) := ⟨_, rfl⟩
  rw [← hv]
  have hf : Fr Nob v9 v10 := by rw [hv]; exact ((Fr.refl Nob v9).alloc _)
  replace Kl := Lib.hid (Kl.out.fr0 hf)
  replace Kr := Lib.hid (Kr.out.fr0 hf)
  replace Ke := Lib.hid (Ke.out.fr0 hf)
  replace Ks := Lib.hid (Ks.out.fr0 hf)
  replace Kf := Lib.hid (Kf.out.fr0 hf)
  have Kt : Hid (Kp S v10 (v9.heap.size) (resO (-1) 0 false false true false)) := by
    refine ⟨?_, fun q => by have := HS.out _ q; omega⟩
    rw [hv]
    exact (blk_alloc_eq _ (by simp))
  replace HF := Lib.hid (HF.out.trans0 hf)
  replace HS := Lib.hid (fun k (q : S k) => Nat.lt_of_lt_of_le (HS.out k q) hf.size)
  replace Hp := Lib.hid (Hp.out.fr0 hf)
  have Hlast := Lib.hid hf
  clear hf hv
  clear Hlast
  obtain ⟨tb, htb⟩ : ∃ tb, tb = v9.heap.size := ⟨_, rfl⟩
  rw [← htb] at Kt ⊢
  clear htb
  refine (pool_timed Hp.out 2).mono ?_
  rintro e v11 ⟨bt, rfl, hf, hp⟩
  rw [B3_2, P3_2] at hp
  replace Kl := Lib.hid (Kl.out.grow (hf.none))
  replace Kr := Lib.hid (Kr.out.grow (hf.none))
  replace Ke := Lib.hid (Ke.out.grow (hf.none))
  replace Ks := Lib.hid (Ks.out.grow (hf.none))
  replace Kf := Lib.hid (Kf.out.grow (hf.none))
  replace Kt := Lib.hid (Kt.out.grow (hf.none))
  replace HG := Lib.hid (fun k (q : And' S v10 v11 k) => (by rcases q with q | q; exact HG.out k q; exact Nat.le_trans HF.out.size q.1 : w.heap.size ≤ k))
  replace HF := Lib.hid (HF.out.trans0 hf)
  replace HS := Lib.hid (pool_lt HS.out hf.size)
  replace Hp := Lib.hid hp
  clear hf hp
  generalize And' S v10 v11 = S2 at Hp HS HG Kl Kr Ke Ks Kf Kt
  clear S
  obtain ⟨S, hSe⟩ : ∃ S, S = S2 := ⟨_, rfl⟩
  subst hSe
  go_wp2_with fail
  obtain ⟨v12, hv⟩ : ∃ v12, v12 = (v11.alloc (.cells #[.pointer (some ⟨bt, 0, none⟩), .bool true, .int .i64 0] 29)) := ⟨_, rfl⟩
  rw [← hv]
  have hf : Fr Nob v11 v12 := by rw [hv]; exact ((Fr.refl Nob v11).alloc _)
  replace Kl := Lib.hid (Kl.out.fr0 hf)
  replace Kr := Lib.hid (Kr.out.fr0 hf)
  replace Ke := Lib.hid (Ke.out.fr0 hf)
  replace Ks := Lib.hid (Ks.out.fr0 hf)
  replace Kf := Lib.hid (Kf.out.fr0 hf)
  replace Kt := Lib.hid (Kt.out.fr0 hf)
  have Kg : Hid (Kp S v12 (v11.heap.size) (.cells #[.pointer (some ⟨bt, 0, none⟩), .bool true, .int .i64 0] 29)) := by
    refine ⟨?_, fun q => by have := HS.out _ q; omega⟩
    rw [hv]
    exact (blk_alloc_eq _ (by simp))
  replace HF := Lib.hid (HF.out.trans0 hf)
  replace HS := Lib.hid (fun k (q : S k) => Nat.lt_of_lt_of_le (HS.out k q) hf.size)
  replace Hp := Lib.hid (Hp.out.fr0 hf)
  have Hlast := Lib.hid hf
  clear hf hv
  clear Hlast
  obtain ⟨gb, hgb⟩ : ∃ gb, gb = v11.heap.size := ⟨_, rfl⟩
  rw [← hgb] at Kg ⊢
  clear hgb
  refine (do_mute Hp.out HS.out _ ([(some 2, true, 0)] : List Cs) 1 rfl (rd_lit Kg.out.blk 1 3 rfl (by simp [maxLen])) (by intro x hx; simp at hx; subst hx <;> intro i hi <;> cases hi <;> exact ⟨_, rfl⟩) (fun k => decide (k < 1)) (by intro k x hx; rcases k with _ | k <;> simp at hx <;> subst hx <;> rfl) (by omega) false 0 5 (by omega) 0 (by omega) rfl (fun j hj => by omega)).mono ?_
  rintro e v13 ⟨_, _, rfl, hf, hp, _⟩
  replace hf : Fr S v12 v13 := hf
  replace hp : Pool v13 S _ _ := hp
  replace Kl := Lib.hid (Kl.out.fr hf)
  replace Kr := Lib.hid (Kr.out.fr hf)
  replace Ke := Lib.hid (Ke.out.fr hf)
  replace Ks := Lib.hid (Ks.out.fr hf)
  replace Kf := Lib.hid (Kf.out.fr hf)
  replace Kt := Lib.hid (Kt.out.fr hf)
  replace Kg := Lib.hid (Kg.out.fr hf)
  replace HF := Lib.hid (HF.out.trans hf fun k hk q => by have := HG.out k q; omega)
  replace HS := Lib.hid (fun k (q : S k) => Nat.lt_of_lt_of_le (HS.out k q) hf.size)
  replace Hp := Lib.hid hp
  clear hf hp
  go_wp2_with fail
  obtain ⟨v14, hv⟩ : ∃ v14, v14 = (v13.alloc (resO 0 0 false false false true)) := ⟨_, rfl⟩
  rw [← hv]
  have hf : Fr Nob v13 v14 := by rw [hv]; exact ((Fr.refl Nob v13).alloc _)
  replace Kl := Lib.hid (Kl.out.fr0 hf)
  replace Kr := Lib.hid (Kr.out.fr0 hf)
  replace Ke := Lib.hid (Ke.out.fr0 hf)
  replace Ks := Lib.hid (Ks.out.fr0 hf)
  replace Kf := Lib.hid (Kf.out.fr0 hf)
  replace Kt := Lib.hid (Kt.out.fr0 hf)
  replace Kg := Lib.hid (Kg.out.fr0 hf)
  have Ku : Hid (Kp S v14 (v13.heap.size) (resO 0 0 false false false true)) := by
    refine ⟨?_, fun q => by have := HS.out _ q; omega⟩
    rw [hv]
    exact (blk_alloc_eq _ (by simp))
  replace HF := Lib.hid (HF.out.trans0 hf)
  replace HS := Lib.hid (fun k (q : S k) => Nat.lt_of_lt_of_le (HS.out k q) hf.size)
  replace Hp := Lib.hid (Hp.out.fr0 hf)
  have Hlast := Lib.hid hf
  clear hf hv
  clear Hlast
  obtain ⟨ub, hub⟩ : ∃ ub, ub = v13.heap.size := ⟨_, rfl⟩
  rw [← hub] at Ku ⊢
  clear hub
  refine (do_refused _ 0 0 none false 0 (-1) (by omega) (by omega)).mono ?_
  rintro e v15 ⟨rfl, hf⟩
  replace Kl := Lib.hid (Kl.out.fr0 hf)
  replace Kr := Lib.hid (Kr.out.fr0 hf)
  replace Ke := Lib.hid (Ke.out.fr0 hf)
  replace Ks := Lib.hid (Ks.out.fr0 hf)
  replace Kf := Lib.hid (Kf.out.fr0 hf)
  replace Kt := Lib.hid (Kt.out.fr0 hf)
  replace Kg := Lib.hid (Kg.out.fr0 hf)
  replace Ku := Lib.hid (Ku.out.fr0 hf)
  replace HF := Lib.hid (HF.out.trans0 hf)
  replace HS := Lib.hid (fun k (q : S k) => Nat.lt_of_lt_of_le (HS.out k q) hf.size)
  replace Hp := Lib.hid (Hp.out.fr0 hf)
  clear hf
  have Kr0 := ((Fr.refl Nob v15).alloc (resO 0 0 false false false false)).cell (p := ⟨rb, 0, none⟩) id (blk_cell Kr.out.blk 0 rfl)
  have Kr1 := ((Fr.refl Nob v15).alloc (resO 0 0 false false false false)).cell (p := ⟨rb, 1, none⟩) id (blk_cell Kr.out.blk 1 rfl)
  have Kr2 := ((Fr.refl Nob v15).alloc (resO 0 0 false false false false)).cell (p := ⟨rb, 2, none⟩) id (blk_cell Kr.out.blk 2 rfl)
  have Kr3 := ((Fr.refl Nob v15).alloc (resO 0 0 false false false false)).cell (p := ⟨rb, 3, none⟩) id (blk_cell Kr.out.blk 3 rfl)
  have Kr4 := ((Fr.refl Nob v15).alloc (resO 0 0 false false false false)).cell (p := ⟨rb, 4, none⟩) id (blk_cell Kr.out.blk 4 rfl)
  have Kr5 := ((Fr.refl Nob v15).alloc (resO 0 0 false false false false)).cell (p := ⟨rb, 5, none⟩) id (blk_cell Kr.out.blk 5 rfl)
  have Ks0 := ((Fr.refl Nob v15).alloc (resO 0 0 false false false false)).cell (p := ⟨sb, 0, none⟩) id (blk_cell Ks.out.blk 0 rfl)
  have Ks1 := ((Fr.refl Nob v15).alloc (resO 0 0 false false false false)).cell (p := ⟨sb, 1, none⟩) id (blk_cell Ks.out.blk 1 rfl)
  have Ks2 := ((Fr.refl Nob v15).alloc (resO 0 0 false false false false)).cell (p := ⟨sb, 2, none⟩) id (blk_cell Ks.out.blk 2 rfl)
  have Ks3 := ((Fr.refl Nob v15).alloc (resO 0 0 false false false false)).cell (p := ⟨sb, 3, none⟩) id (blk_cell Ks.out.blk 3 rfl)
  have Ks4 := ((Fr.refl Nob v15).alloc (resO 0 0 false false false false)).cell (p := ⟨sb, 4, none⟩) id (blk_cell Ks.out.blk 4 rfl)
  have Ks5 := ((Fr.refl Nob v15).alloc (resO 0 0 false false false false)).cell (p := ⟨sb, 5, none⟩) id (blk_cell Ks.out.blk 5 rfl)
  have Kt0 := ((Fr.refl Nob v15).alloc (resO 0 0 false false false false)).cell (p := ⟨tb, 0, none⟩) id (blk_cell Kt.out.blk 0 rfl)
  have Kt1 := ((Fr.refl Nob v15).alloc (resO 0 0 false false false false)).cell (p := ⟨tb, 1, none⟩) id (blk_cell Kt.out.blk 1 rfl)
  have Kt2 := ((Fr.refl Nob v15).alloc (resO 0 0 false false false false)).cell (p := ⟨tb, 2, none⟩) id (blk_cell Kt.out.blk 2 rfl)
  have Kt3 := ((Fr.refl Nob v15).alloc (resO 0 0 false false false false)).cell (p := ⟨tb, 3, none⟩) id (blk_cell Kt.out.blk 3 rfl)
  have Kt4 := ((Fr.refl Nob v15).alloc (resO 0 0 false false false false)).cell (p := ⟨tb, 4, none⟩) id (blk_cell Kt.out.blk 4 rfl)
  have Kt5 := ((Fr.refl Nob v15).alloc (resO 0 0 false false false false)).cell (p := ⟨tb, 5, none⟩) id (blk_cell Kt.out.blk 5 rfl)
  have Ku0 := ((Fr.refl Nob v15).alloc (resO 0 0 false false false false)).cell (p := ⟨ub, 0, none⟩) id (blk_cell Ku.out.blk 0 rfl)
  have Ku1 := ((Fr.refl Nob v15).alloc (resO 0 0 false false false false)).cell (p := ⟨ub, 1, none⟩) id (blk_cell Ku.out.blk 1 rfl)
  have Ku2 := ((Fr.refl Nob v15).alloc (resO 0 0 false false false false)).cell (p := ⟨ub, 2, none⟩) id (blk_cell Ku.out.blk 2 rfl)
  have Ku3 := ((Fr.refl Nob v15).alloc (resO 0 0 false false false false)).cell (p := ⟨ub, 3, none⟩) id (blk_cell Ku.out.blk 3 rfl)
  have Ku4 := ((Fr.refl Nob v15).alloc (resO 0 0 false false false false)).cell (p := ⟨ub, 4, none⟩) id (blk_cell Ku.out.blk 4 rfl)
  have Ku5 := ((Fr.refl Nob v15).alloc (resO 0 0 false false false false)).cell (p := ⟨ub, 5, none⟩) id (blk_cell Ku.out.blk 5 rfl)
  go_wp2_with fail
  obtain ⟨v16, hv⟩ : ∃ v16, v16 = (v15.alloc (resO 0 0 false false false false)) := ⟨_, rfl⟩
  rw [← hv]
  have hf : Fr Nob v15 v16 := by rw [hv]; exact ((Fr.refl Nob v15).alloc _)
  replace Kl := Lib.hid (Kl.out.fr0 hf)
  replace Kr := Lib.hid (Kr.out.fr0 hf)
  replace Ke := Lib.hid (Ke.out.fr0 hf)
  replace Ks := Lib.hid (Ks.out.fr0 hf)
  replace Kf := Lib.hid (Kf.out.fr0 hf)
  replace Kt := Lib.hid (Kt.out.fr0 hf)
  replace Kg := Lib.hid (Kg.out.fr0 hf)
  replace Ku := Lib.hid (Ku.out.fr0 hf)
  have Kv : Hid (Kp S v16 (v15.heap.size) (resO 0 0 false false false false)) := by
    refine ⟨?_, fun q => by have := HS.out _ q; omega⟩
    rw [hv]
    exact (blk_alloc_eq _ (by simp))
  replace HF := Lib.hid (HF.out.trans0 hf)
  replace HS := Lib.hid (fun k (q : S k) => Nat.lt_of_lt_of_le (HS.out k q) hf.size)
  replace Hp := Lib.hid (Hp.out.fr0 hf)
  have Hlast := Lib.hid hf
  clear hf hv
  clear Hlast
  obtain ⟨vb, hvb⟩ : ∃ vb, vb = v15.heap.size := ⟨_, rfl⟩
  rw [← hvb] at Kv ⊢
  clear hvb
  refine (pool_waiting Hp.out 1 (c := ch0 [3] [(5, 0, 0), (5, 1, 0)]) rfl true 2 rfl).mono ?_
  rintro e v17 ⟨_, _, rfl, hf, _⟩
  replace Kl := Lib.hid (Kl.out.fr0 hf)
  replace Kr := Lib.hid (Kr.out.fr0 hf)
  replace Ke := Lib.hid (Ke.out.fr0 hf)
  replace Ks := Lib.hid (Ks.out.fr0 hf)
  replace Kf := Lib.hid (Kf.out.fr0 hf)
  replace Kt := Lib.hid (Kt.out.fr0 hf)
  replace Kg := Lib.hid (Kg.out.fr0 hf)
  replace Ku := Lib.hid (Ku.out.fr0 hf)
  replace Kv := Lib.hid (Kv.out.fr0 hf)
  replace HF := Lib.hid (HF.out.trans0 hf)
  replace HS := Lib.hid (fun k (q : S k) => Nat.lt_of_lt_of_le (HS.out k q) hf.size)
  replace Hp := Lib.hid (Hp.out.fr0 hf)
  clear hf
  have Kr0 := blk_cell Kr.out.blk 0 rfl
  have Kr1 := blk_cell Kr.out.blk 1 rfl
  have Kr2 := blk_cell Kr.out.blk 2 rfl
  have Kr3 := blk_cell Kr.out.blk 3 rfl
  have Kr4 := blk_cell Kr.out.blk 4 rfl
  have Kr5 := blk_cell Kr.out.blk 5 rfl
  have Ks0 := blk_cell Ks.out.blk 0 rfl
  have Ks1 := blk_cell Ks.out.blk 1 rfl
  have Ks2 := blk_cell Ks.out.blk 2 rfl
  have Ks3 := blk_cell Ks.out.blk 3 rfl
  have Ks4 := blk_cell Ks.out.blk 4 rfl
  have Ks5 := blk_cell Ks.out.blk 5 rfl
  have Kt0 := blk_cell Kt.out.blk 0 rfl
  have Kt1 := blk_cell Kt.out.blk 1 rfl
  have Kt2 := blk_cell Kt.out.blk 2 rfl
  have Kt3 := blk_cell Kt.out.blk 3 rfl
  have Kt4 := blk_cell Kt.out.blk 4 rfl
  have Kt5 := blk_cell Kt.out.blk 5 rfl
  have Ku0 := blk_cell Ku.out.blk 0 rfl
  have Ku1 := blk_cell Ku.out.blk 1 rfl
  have Ku2 := blk_cell Ku.out.blk 2 rfl
  have Ku3 := blk_cell Ku.out.blk 3 rfl
  have Ku4 := blk_cell Ku.out.blk 4 rfl
  have Ku5 := blk_cell Ku.out.blk 5 rfl
  go_wp2_with fail
  obtain ⟨v18, hv⟩ : ∃ v18, v18 = (v17.alloc (.cells #[.pointer (some ⟨bb, 0, none⟩), .bool false, .int .i64 0] 29)) := ⟨_, rfl⟩
  rw [← hv]
  have hf : Fr Nob v17 v18 := by rw [hv]; exact ((Fr.refl Nob v17).alloc _)
  replace Kl := Lib.hid (Kl.out.fr0 hf)
  replace Kr := Lib.hid (Kr.out.fr0 hf)
  replace Ke := Lib.hid (Ke.out.fr0 hf)
  replace Ks := Lib.hid (Ks.out.fr0 hf)
  replace Kf := Lib.hid (Kf.out.fr0 hf)
  replace Kt := Lib.hid (Kt.out.fr0 hf)
  replace Kg := Lib.hid (Kg.out.fr0 hf)
  replace Ku := Lib.hid (Ku.out.fr0 hf)
  replace Kv := Lib.hid (Kv.out.fr0 hf)
  have Kh : Hid (Kp S v18 (v17.heap.size) (.cells #[.pointer (some ⟨bb, 0, none⟩), .bool false, .int .i64 0] 29)) := by
    refine ⟨?_, fun q => by have := HS.out _ q; omega⟩
    rw [hv]
    exact (blk_alloc_eq _ (by simp))
  replace HF := Lib.hid (HF.out.trans0 hf)
  replace HS := Lib.hid (fun k (q : S k) => Nat.lt_of_lt_of_le (HS.out k q) hf.size)
  replace Hp := Lib.hid (Hp.out.fr0 hf)
  have Hlast := Lib.hid hf
  clear hf hv
  clear Hlast
  obtain ⟨hb, hhb⟩ : ∃ hb, hb = v17.heap.size := ⟨_, rfl⟩
  rw [← hhb] at Kh ⊢
  clear hhb
  have hlv : leaveF 5 ([(some 1, false, 0)] : List Cs) (P3 (some (ch0 [7] [])) (some (ch0 [3] [(5, 0, 0), (5, 1, 0)])) (some chTimed)) = P3 (some (ch0 [7] [])) (some (ch0 [3] [])) (some chTimed) := by
    show upd _ 1 _ = _; rw [P3_1]; rfl
  refine (choose_leave Hp.out _ ([(some 1, false, 0)] : List Cs) 1 rfl (fun k => k = hb) (sl_lit Kh.out.blk 1 3 rfl (by simp [maxLen])) (fun k q e => by subst e; exact Kh.out.off q) (by intro x hx; simp at hx; subst hx <;> intro i hi <;> cases hi <;> exact ⟨_, rfl⟩) (by omega) (by intro i c hi; unfold P3 at hi; split at hi; (cases hi; exact ⟨by simp, by simp⟩); split at hi; (cases hi; exact ⟨by simp, by simp⟩); split at hi; (cases hi; exact ⟨by simp, by simp⟩); cases hi) 5 2 rfl).mono ?_
  rintro e v19 ⟨rfl, hf, hp⟩
  rw [hlv] at hp
  replace hf : Fr S v18 v19 := hf
  replace hp : Pool v19 S _ _ := hp
  replace Kl := Lib.hid (Kl.out.fr hf)
  replace Kr := Lib.hid (Kr.out.fr hf)
  replace Ke := Lib.hid (Ke.out.fr hf)
  replace Ks := Lib.hid (Ks.out.fr hf)
  replace Kf := Lib.hid (Kf.out.fr hf)
  replace Kt := Lib.hid (Kt.out.fr hf)
  replace Kg := Lib.hid (Kg.out.fr hf)
  replace Ku := Lib.hid (Ku.out.fr hf)
  replace Kv := Lib.hid (Kv.out.fr hf)
  replace Kh := Lib.hid (Kh.out.fr hf)
  replace HF := Lib.hid (HF.out.trans hf fun k hk q => by have := HG.out k q; omega)
  replace HS := Lib.hid (fun k (q : S k) => Nat.lt_of_lt_of_le (HS.out k q) hf.size)
  replace Hp := Lib.hid hp
  clear hf hp
  clear hlv
  have Kr0 := blk_cell Kr.out.blk 0 rfl
  have Kr1 := blk_cell Kr.out.blk 1 rfl
  have Kr2 := blk_cell Kr.out.blk 2 rfl
  have Kr3 := blk_cell Kr.out.blk 3 rfl
  have Kr4 := blk_cell Kr.out.blk 4 rfl
  have Kr5 := blk_cell Kr.out.blk 5 rfl
  have Ks0 := blk_cell Ks.out.blk 0 rfl
  have Ks1 := blk_cell Ks.out.blk 1 rfl
  have Ks2 := blk_cell Ks.out.blk 2 rfl
  have Ks3 := blk_cell Ks.out.blk 3 rfl
  have Ks4 := blk_cell Ks.out.blk 4 rfl
  have Ks5 := blk_cell Ks.out.blk 5 rfl
  have Kt0 := blk_cell Kt.out.blk 0 rfl
  have Kt1 := blk_cell Kt.out.blk 1 rfl
  have Kt2 := blk_cell Kt.out.blk 2 rfl
  have Kt3 := blk_cell Kt.out.blk 3 rfl
  have Kt4 := blk_cell Kt.out.blk 4 rfl
  have Kt5 := blk_cell Kt.out.blk 5 rfl
  have Ku0 := blk_cell Ku.out.blk 0 rfl
  have Ku1 := blk_cell Ku.out.blk 1 rfl
  have Ku2 := blk_cell Ku.out.blk 2 rfl
  have Ku3 := blk_cell Ku.out.blk 3 rfl
  have Ku4 := blk_cell Ku.out.blk 4 rfl
  have Ku5 := blk_cell Ku.out.blk 5 rfl
  go_wp2_with fail
  refine (choose_ready Hp.out _ ([(some 0, false, 0), (some 1, true, 3), (none, false, 0)] : List Cs) 3 rfl (rd_lit Kl.out.blk 3 3 rfl (by simp [maxLen])) (by intro x hx; simp at hx; rcases hx with rfl | rfl | rfl <;> intro i hi <;> cases hi <;> exact ⟨_, rfl⟩) (fun k => decide (k < 1)) (by intro k x hx; rcases k with _ | _ | _ | k <;> simp at hx <;> subst hx <;> rfl) (by omega) 1 rfl).mono ?_
  rintro e v20 ⟨_, _, rfl, hf, hs⟩
  replace Kl := Lib.hid (Kl.out.fr0 hf)
  replace Kr := Lib.hid (Kr.out.fr0 hf)
  replace Ke := Lib.hid (Ke.out.fr0 hf)
  replace Ks := Lib.hid (Ks.out.fr0 hf)
  replace Kf := Lib.hid (Kf.out.fr0 hf)
  replace Kt := Lib.hid (Kt.out.fr0 hf)
  replace Kg := Lib.hid (Kg.out.fr0 hf)
  replace Ku := Lib.hid (Ku.out.fr0 hf)
  replace Kv := Lib.hid (Kv.out.fr0 hf)
  replace Kh := Lib.hid (Kh.out.fr0 hf)
  replace HF := Lib.hid (HF.out.trans0 hf)
  replace HS := Lib.hid (fun k (q : S k) => Nat.lt_of_lt_of_le (HS.out k q) hf.size)
  replace Hp := Lib.hid (Hp.out.fr0 hf)
  have Hs := Lib.hid hs
  clear hs
  clear hf
  go_wp2_with fail
  obtain ⟨v21, hv⟩ : ∃ v21, v21 = (v20.alloc (.cells #[.int .i64 0] 3)) := ⟨_, rfl⟩
  rw [← hv]
  have hf : Fr Nob v20 v21 := by rw [hv]; exact ((Fr.refl Nob v20).alloc _)
  replace Kl := Lib.hid (Kl.out.fr0 hf)
  replace Kr := Lib.hid (Kr.out.fr0 hf)
  replace Ke := Lib.hid (Ke.out.fr0 hf)
  replace Ks := Lib.hid (Ks.out.fr0 hf)
  replace Kf := Lib.hid (Kf.out.fr0 hf)
  replace Kt := Lib.hid (Kt.out.fr0 hf)
  replace Kg := Lib.hid (Kg.out.fr0 hf)
  replace Ku := Lib.hid (Ku.out.fr0 hf)
  replace Kv := Lib.hid (Kv.out.fr0 hf)
  replace Kh := Lib.hid (Kh.out.fr0 hf)
  have Ki : Hid (Kp S v21 (v20.heap.size) (.cells #[.int .i64 0] 3)) := by
    refine ⟨?_, fun q => by have := HS.out _ q; omega⟩
    rw [hv]
    exact (blk_alloc_eq _ (by simp))
  replace HF := Lib.hid (HF.out.trans0 hf)
  replace HS := Lib.hid (fun k (q : S k) => Nat.lt_of_lt_of_le (HS.out k q) hf.size)
  replace Hp := Lib.hid (Hp.out.fr0 hf)
  have Hlast := Lib.hid hf
  clear hf hv
  obtain ⟨ib, hib⟩ : ∃ ib, ib = v20.heap.size := ⟨_, rfl⟩
  rw [← hib] at Ki ⊢
  clear hib
  refine (alike_ints_n _ _ _ (rdy (fun k => decide (k < 1)) 3) 1 rfl ((Hs.out.fr Hlast.out fun _ _ q => q).rd) (rd_lit Ki.out.blk 1 1 rfl (by simp [maxLen]))).mono ?_
  rintro e vz ⟨rfl, hq⟩
  replace HF := Lib.hid (HF.out.trans0 (Fr.ofDrew hq))
  clear hq
  go_wp2_with fail
  go_ret
  exact ⟨rfl, HF.out⟩
end Go.Proofs.Ytdemeghhjnehbaa
