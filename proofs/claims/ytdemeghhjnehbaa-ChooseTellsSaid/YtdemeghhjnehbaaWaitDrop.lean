/- What drop does to a queue of those who wait: one is taken out; its own node stays as it was. -/
import Derived.Test.YtdemeghhjnehbaaWait
set_option linter.unusedVariables false
set_option linter.unusedSimpArgs false
namespace Go.Proofs.Ytdemeghhjnehbaa
open Go.RowKit
set_option maxRecDepth 100000
set_option maxHeartbeats 4000000 in
theorem wait_drop (w : World) (S : Nat → Prop) (b : Nat) (xs : List (Nat × Wt)) (i : Nat) (x : Nat × Wt) (h : QAt w S b xs) (hx : xs[i]? = some x) :
    Calls Try.prog 88 #[.pointer (some ⟨b, 0, none⟩), .pointer (some ⟨x.1, 0, none⟩)] w fun e w' => e = .returned (.tuple #[]) ∧ Fr S w w' ∧ QAt w' S b (xs.eraseIdx i) ∧ w'.heap[x.1]? = w.heap[x.1]? := by
  obtain ⟨n, hn⟩ : ∃ n, xs.length = n := ⟨_, rfl⟩
  have hil := (List.getElem?_eq_some_iff.1 hx).1
  rw [hn] at hil
  obtain ⟨xb, xw⟩ := x
  obtain ⟨hSx, hxb, hxo⟩ := h.node i _ hx
  dsimp only at hSx hxb hxo ⊢
  have lb := lt_of_block h.blk
  have hSb := h.own
  have hfew := h.few
  rw [hn] at hfew
  have hxl := lt_of_block hxo
  have hbb := h.blk
  rw [hn] at hbb
  have b2 : w.cell? ⟨b, 2, none⟩ = some (.int .i64 (n : Int)) := blk_cell hbb 2 rfl
  have b0 : w.cell? ⟨b, 0, none⟩ = some (ptr (firstB xs)) := blk_cell hbb 0 rfl
  have b1 : w.cell? ⟨b, 1, none⟩ = some (ptr (lastB xs)) := blk_cell hbb 1 rfl
  have f0 := blk_froz hbb 0
  have f1 := blk_froz hbb 1
  have f2 := blk_froz hbb 2
  have x3 := blk_cell hxo 3 rfl
  have x4 := blk_cell hxo 4 rfl
  have hmi : ((n - 1 : Nat) : Int) = (n : Int) - 1 := by omega
  have hbx : b ≠ xb := fun e => hxb e.symm
  have Hmi := Lib.hid hmi; have Hh := Lib.hid h; have Hn := Lib.hid hn; have Hx := Lib.hid hx; have Hbb := Lib.hid hbb; have Hxo := Lib.hid hxo
  clear h hn hx hbb hxo hmi hxb
  by_cases hi0 : i = 0
  · have hpv : prevB xs i = none := by unfold prevB; rw [if_pos hi0]
    rw [hpv, ptr_none] at x3
    have Hpv := Lib.hid hpv; clear hpv
    by_cases hin : i + 1 = n
    · have hz : xs[i + 1]? = none := List.getElem?_eq_none (by have := Hn.out; omega)
      have hnx : nextB xs i = none := by unfold nextB; rw [hz]; rfl
      rw [hnx, ptr_none] at x4
      have Hnx := Lib.hid hnx; have Hz := Lib.hid hz
      clear hnx hz
      go_enter Try.func88, Try.ntmps88
      go_wp2_with fail
      go_end0
      have hfin : ∀ k : Nat, (((w.setCell ⟨b, 0, none⟩ (.pointer none)).setCell ⟨b, 1, none⟩ (.pointer none)).setCell ⟨b, 2, none⟩ (.int .i64 ((n : Int) - 1))).heap[k]? = (((w.setCell ⟨b, 0, none⟩ (.pointer none)).setCell ⟨b, 1, none⟩ (.pointer none)).setCell ⟨b, 2, none⟩ (.int .i64 ((n : Int) - 1))).heap[k]? := fun k => by
        rfl
      have hfr : Fr S w (((w.setCell ⟨b, 0, none⟩ (.pointer none)).setCell ⟨b, 1, none⟩ (.pointer none)).setCell ⟨b, 2, none⟩ (.int .i64 ((n : Int) - 1))) := by
        exact (((Fr.refl S w).setCell (p := ⟨b, 0, none⟩) (.inl hSb) _).setCell (p := ⟨b, 1, none⟩) (.inl hSb) _).setCell (p := ⟨b, 2, none⟩) (.inl hSb) _
      refine ⟨rfl, hfr, QAt.erase Hh.out i (by rw [Hn.out]; exact hil) ?_ ?_ ?_ ?_, ?_⟩
      · rw [hfin]
        have q0 := Hbb.out
        have q1 := blk_set q0 0 (.pointer none)
        have q2 := blk_set q1 1 (.pointer none)
        have q3 := blk_set q2 2 (.int .i64 ((n : Int) - 1))
        rw [q3, Hn.out]
        unfold queueObj
        rw [Hmi.out]
        rw [if_pos hi0, if_pos hin]
        rw [Hnx.out]
        rw [Hpv.out]
        rfl
      · intro y' h0; exact absurd hi0 h0
      · intro z' hz'; rw [Hz.out] at hz'; cases hz'
      · intro j u hu h1 h2 h3
        obtain ⟨_, hub, _⟩ := Hh.out.node j u hu
        rw [hfin, blk_set_ne _ _ hub, blk_set_ne _ _ hub, blk_set_ne _ _ hub]
      · rw [hfin, blk_set_ne _ _ (Ne.symm hbx), blk_set_ne _ _ (Ne.symm hbx), blk_set_ne _ _ (Ne.symm hbx)]
    · obtain ⟨⟨zb, zw⟩, hz⟩ : ∃ z, xs[i + 1]? = some z := ⟨xs[i + 1]'(by have := Hn.out; omega), List.getElem?_eq_getElem _⟩
      have hnx : nextB xs i = some zb := by unfold nextB; rw [hz]; rfl
      rw [hnx, ptr_some] at x4
      obtain ⟨hSz, hzb, hzo⟩ := Hh.out.node (i + 1) _ hz
      dsimp only at hSz hzb hzo
      have hzl := lt_of_block hzo
      have g3 := blk_froz hzo 3
      have hzp : prevB xs (i + 1) = some xb := by unfold prevB; rw [if_neg (by omega), Nat.add_sub_cancel, Hx.out]; rfl
      have hbz : b ≠ zb := fun e => hzb e.symm
      have hxz : xb ≠ zb := fun e => by have := Hh.out.nd i (i + 1) _ _ Hx.out hz e; omega
      have z3 : w.cell? ⟨zb, 3, none⟩ = some (.pointer (some ⟨xb, 0, none⟩)) := by have z3 := blk_cell hzo 3 rfl; rw [hzp] at z3; exact z3
      have Hnx := Lib.hid hnx; have Hz := Lib.hid hz; have Hzo := Lib.hid hzo
      clear hnx hz hzo hzp
      go_enter Try.func88, Try.ntmps88
      go_wp2_with fail
      obtain ⟨w1, hw1⟩ : ∃ w1, w1 = (w.setCell ⟨b, 0, none⟩ (.pointer (some ⟨zb, 0, none⟩))) := ⟨_, rfl⟩
      rw [← hw1]
      have hf1 : Fr (fun k => k = b) w w1 := by rw [hw1]; exact ((Fr.refl (fun k => k = b) w).setCell (p := ⟨b, 0, none⟩) (.inl rfl) _)
      have x3 := hf1.cell (p := ⟨xb, 3, none⟩) (by simp; omega) x3
      have x4 := hf1.cell (p := ⟨xb, 4, none⟩) (by simp; omega) x4
      have b2 : w1.cell? ⟨b, 2, none⟩ = some (.int .i64 (n : Int)) := by rw [hw1]; exact blk_cell (blk_set Hbb.out 0 _) 2 rfl
      have f2 : w1.frozen? ⟨b, 2, none⟩ = false := by rw [hw1]; exact blk_froz (blk_set Hbb.out 0 _) 2
      have z3 := hf1.cell (p := ⟨zb, 3, none⟩) (by simp; omega) z3
      have g3 := (hf1.frozen (p := ⟨zb, 3, none⟩) (by simp; omega) hzl).trans g3
      have Hw1 := Lib.hid hw1; have Hf1 := Lib.hid hf1
      clear hw1 hf1
      go_region
      obtain ⟨w2, hw2⟩ : ∃ w2, w2 = (w1.setCell ⟨zb, 3, none⟩ (.pointer none)).drew := ⟨_, rfl⟩
      rw [← hw2]
      have hf2 : Fr (fun k => k = zb) w1 w2 := by rw [hw2]; exact ((Fr.refl (fun k => k = zb) w1).setCell (p := ⟨zb, 3, none⟩) (.inl rfl) _).drew
      have b2 := hf2.cell (p := ⟨b, 2, none⟩) (by simp; omega) b2
      have f2 := (hf2.frozen (p := ⟨b, 2, none⟩) (by simp; omega) (Nat.lt_of_lt_of_le lb Hf1.out.size)).trans f2
      have Hw2 := Lib.hid hw2; have Hf2 := Lib.hid hf2
      clear hw2 hf2
      go_wp2_with fail
      go_end0
      have hfin : ∀ k : Nat, (w2.setCell ⟨b, 2, none⟩ (.int .i64 ((n : Int) - 1))).heap[k]? = (((w.setCell ⟨b, 0, none⟩ (.pointer (some ⟨zb, 0, none⟩))).setCell ⟨zb, 3, none⟩ (.pointer none)).setCell ⟨b, 2, none⟩ (.int .i64 ((n : Int) - 1))).heap[k]? := fun k => by
        rw [Hw2.out, Hw1.out]; rfl
      have hfr : Fr S w (w2.setCell ⟨b, 2, none⟩ (.int .i64 ((n : Int) - 1))) := by
        exact ((Hf1.out.mono fun k _ e => by rw [e]; exact hSb).trans0 (Hf2.out.mono fun k _ e => by rw [e]; exact hSz)).setCell (p := ⟨b, 2, none⟩) (.inl hSb) _
      refine ⟨rfl, hfr, QAt.erase Hh.out i (by rw [Hn.out]; exact hil) ?_ ?_ ?_ ?_, ?_⟩
      · rw [hfin]
        have q0 := Hbb.out
        have q1 := blk_set q0 0 (.pointer (some ⟨zb, 0, none⟩))
        have q2 : ((w.setCell ⟨b, 0, none⟩ (.pointer (some ⟨zb, 0, none⟩))).setCell ⟨zb, 3, none⟩ (.pointer none)).heap[b]? = _ := (blk_set_ne _ _ hbz).trans q1
        have q3 := blk_set q2 2 (.int .i64 ((n : Int) - 1))
        rw [q3, Hn.out]
        unfold queueObj
        rw [Hmi.out]
        rw [if_pos hi0, if_neg hin]
        rw [Hnx.out]
        rfl
      · intro y' h0; exact absurd hi0 h0
      · intro z' hz'
        rw [Hz.out] at hz'; cases hz'
        have q1 : (w.setCell ⟨b, 0, none⟩ (.pointer (some ⟨zb, 0, none⟩))).heap[zb]? = _ := (blk_set_ne _ _ hzb).trans Hzo.out
        rw [hfin, blk_set_ne _ _ hzb, blk_set q1 3]
        rw [Hpv.out]; rfl
      · intro j u hu h1 h2 h3
        obtain ⟨_, hub, _⟩ := Hh.out.node j u hu
        have huz : u.1 ≠ zb := fun e => by have := Hh.out.nd j (i + 1) u (zb, zw) hu Hz.out e; omega
        rw [hfin, blk_set_ne _ _ hub, blk_set_ne _ _ huz, blk_set_ne _ _ hub]
      · rw [hfin, blk_set_ne _ _ (Ne.symm hbx), blk_set_ne _ _ hxz, blk_set_ne _ _ (Ne.symm hbx)]
  · obtain ⟨⟨yb, yw⟩, hy⟩ : ∃ y, xs[i - 1]? = some y := ⟨xs[i - 1]'(by have := Hn.out; omega), List.getElem?_eq_getElem _⟩
    have hpv : prevB xs i = some yb := by unfold prevB; rw [if_neg hi0, hy]; rfl
    rw [hpv, ptr_some] at x3
    obtain ⟨hSy, hyb, hyo⟩ := Hh.out.node (i - 1) _ hy
    dsimp only at hSy hyb hyo
    have hyl := lt_of_block hyo
    have g4 := blk_froz hyo 4
    have hyn : nextB xs (i - 1) = some xb := by unfold nextB; rw [show i - 1 + 1 = i by omega, Hx.out]; rfl
    have hby : b ≠ yb := fun e => hyb e.symm
    have hxy : xb ≠ yb := fun e => by have := Hh.out.nd i (i - 1) _ _ Hx.out hy e; omega
    have y4 : w.cell? ⟨yb, 4, none⟩ = some (.pointer (some ⟨xb, 0, none⟩)) := by have y4 := blk_cell hyo 4 rfl; rw [hyn] at y4; exact y4
    have Hpv := Lib.hid hpv; have Hy := Lib.hid hy; have Hyo := Lib.hid hyo
    clear hpv hy hyo hyn
    by_cases hin : i + 1 = n
    · have hz : xs[i + 1]? = none := List.getElem?_eq_none (by have := Hn.out; omega)
      have hnx : nextB xs i = none := by unfold nextB; rw [hz]; rfl
      rw [hnx, ptr_none] at x4
      have Hnx := Lib.hid hnx; have Hz := Lib.hid hz
      clear hnx hz
      go_enter Try.func88, Try.ntmps88
      go_wp2_with fail
      go_region
      obtain ⟨w1, hw1⟩ : ∃ w1, w1 = (w.setCell ⟨yb, 4, none⟩ (.pointer none)).drew := ⟨_, rfl⟩
      rw [← hw1]
      have hf1 : Fr (fun k => k = yb) w w1 := by rw [hw1]; exact ((Fr.refl (fun k => k = yb) w).setCell (p := ⟨yb, 4, none⟩) (.inl rfl) _).drew
      have x3 := hf1.cell (p := ⟨xb, 3, none⟩) (by simp; omega) x3
      have x4 := hf1.cell (p := ⟨xb, 4, none⟩) (by simp; omega) x4
      have b2 := hf1.cell (p := ⟨b, 2, none⟩) (by simp; omega) b2
      have b1 := hf1.cell (p := ⟨b, 1, none⟩) (by simp; omega) b1
      have f1 := (hf1.frozen (p := ⟨b, 1, none⟩) (by simp; omega) lb).trans f1
      have f2 := (hf1.frozen (p := ⟨b, 2, none⟩) (by simp; omega) lb).trans f2
      have Hw1 := Lib.hid hw1; have Hf1 := Lib.hid hf1
      clear hw1 hf1
      go_wp2_with fail
      go_end0
      have hfin : ∀ k : Nat, ((w1.setCell ⟨b, 1, none⟩ (.pointer (some ⟨yb, 0, none⟩))).setCell ⟨b, 2, none⟩ (.int .i64 ((n : Int) - 1))).heap[k]? = (((w.setCell ⟨yb, 4, none⟩ (.pointer none)).setCell ⟨b, 1, none⟩ (.pointer (some ⟨yb, 0, none⟩))).setCell ⟨b, 2, none⟩ (.int .i64 ((n : Int) - 1))).heap[k]? := fun k => by
        rw [Hw1.out]; rfl
      have hfr : Fr S w ((w1.setCell ⟨b, 1, none⟩ (.pointer (some ⟨yb, 0, none⟩))).setCell ⟨b, 2, none⟩ (.int .i64 ((n : Int) - 1))) := by
        exact (((Hf1.out.mono fun k _ e => by rw [e]; exact hSy).setCell (p := ⟨b, 1, none⟩) (.inl hSb) _)).setCell (p := ⟨b, 2, none⟩) (.inl hSb) _
      refine ⟨rfl, hfr, QAt.erase Hh.out i (by rw [Hn.out]; exact hil) ?_ ?_ ?_ ?_, ?_⟩
      · rw [hfin]
        have q0 := Hbb.out
        have q1 : (w.setCell ⟨yb, 4, none⟩ (.pointer none)).heap[b]? = _ := (blk_set_ne _ _ hby).trans q0
        have q2 := blk_set q1 1 (.pointer (some ⟨yb, 0, none⟩))
        have q3 := blk_set q2 2 (.int .i64 ((n : Int) - 1))
        rw [q3, Hn.out]
        unfold queueObj
        rw [Hmi.out]
        rw [if_neg hi0, if_pos hin]
        rw [Hpv.out]
        rfl
      · intro y' _ hy'
        rw [Hy.out] at hy'; cases hy'
        rw [hfin, blk_set_ne _ _ hyb, blk_set_ne _ _ hyb, blk_set Hyo.out 4]
        rw [Hnx.out]; rfl
      · intro z' hz'; rw [Hz.out] at hz'; cases hz'
      · intro j u hu h1 h2 h3
        obtain ⟨_, hub, _⟩ := Hh.out.node j u hu
        have huy : u.1 ≠ yb := fun e => by have := Hh.out.nd j (i - 1) u (yb, yw) hu Hy.out e; omega
        rw [hfin, blk_set_ne _ _ hub, blk_set_ne _ _ hub, blk_set_ne _ _ huy]
      · rw [hfin, blk_set_ne _ _ (Ne.symm hbx), blk_set_ne _ _ (Ne.symm hbx), blk_set_ne _ _ hxy]
    · obtain ⟨⟨zb, zw⟩, hz⟩ : ∃ z, xs[i + 1]? = some z := ⟨xs[i + 1]'(by have := Hn.out; omega), List.getElem?_eq_getElem _⟩
      have hnx : nextB xs i = some zb := by unfold nextB; rw [hz]; rfl
      rw [hnx, ptr_some] at x4
      obtain ⟨hSz, hzb, hzo⟩ := Hh.out.node (i + 1) _ hz
      dsimp only at hSz hzb hzo
      have hzl := lt_of_block hzo
      have g3 := blk_froz hzo 3
      have hzp : prevB xs (i + 1) = some xb := by unfold prevB; rw [if_neg (by omega), Nat.add_sub_cancel, Hx.out]; rfl
      have hbz : b ≠ zb := fun e => hzb e.symm
      have hxz : xb ≠ zb := fun e => by have := Hh.out.nd i (i + 1) _ _ Hx.out hz e; omega
      have z3 : w.cell? ⟨zb, 3, none⟩ = some (.pointer (some ⟨xb, 0, none⟩)) := by have z3 := blk_cell hzo 3 rfl; rw [hzp] at z3; exact z3
      have hyz : yb ≠ zb := fun e => by have := Hh.out.nd (i - 1) (i + 1) _ _ Hy.out hz e; omega
      have hzy : zb ≠ yb := fun e => hyz e.symm
      have Hnx := Lib.hid hnx; have Hz := Lib.hid hz; have Hzo := Lib.hid hzo
      clear hnx hz hzo hzp
      go_enter Try.func88, Try.ntmps88
      go_wp2_with fail
      go_region
      obtain ⟨w1, hw1⟩ : ∃ w1, w1 = (w.setCell ⟨yb, 4, none⟩ (.pointer (some ⟨zb, 0, none⟩))).drew := ⟨_, rfl⟩
      rw [← hw1]
      have hf1 : Fr (fun k => k = yb) w w1 := by rw [hw1]; exact ((Fr.refl (fun k => k = yb) w).setCell (p := ⟨yb, 4, none⟩) (.inl rfl) _).drew
      have x3 := hf1.cell (p := ⟨xb, 3, none⟩) (by simp; omega) x3
      have x4 := hf1.cell (p := ⟨xb, 4, none⟩) (by simp; omega) x4
      have b2 := hf1.cell (p := ⟨b, 2, none⟩) (by simp; omega) b2
      have b1 := hf1.cell (p := ⟨b, 1, none⟩) (by simp; omega) b1
      have f1 := (hf1.frozen (p := ⟨b, 1, none⟩) (by simp; omega) lb).trans f1
      have f2 := (hf1.frozen (p := ⟨b, 2, none⟩) (by simp; omega) lb).trans f2
      have z3 := hf1.cell (p := ⟨zb, 3, none⟩) (by simp; omega) z3
      have g3 := (hf1.frozen (p := ⟨zb, 3, none⟩) (by simp; omega) hzl).trans g3
      have Hw1 := Lib.hid hw1; have Hf1 := Lib.hid hf1
      clear hw1 hf1
      go_wp2_with fail
      go_region
      obtain ⟨w2, hw2⟩ : ∃ w2, w2 = (w1.setCell ⟨zb, 3, none⟩ (.pointer (some ⟨yb, 0, none⟩))).drew := ⟨_, rfl⟩
      rw [← hw2]
      have hf2 : Fr (fun k => k = zb) w1 w2 := by rw [hw2]; exact ((Fr.refl (fun k => k = zb) w1).setCell (p := ⟨zb, 3, none⟩) (.inl rfl) _).drew
      have b2 := hf2.cell (p := ⟨b, 2, none⟩) (by simp; omega) b2
      have f2 := (hf2.frozen (p := ⟨b, 2, none⟩) (by simp; omega) (Nat.lt_of_lt_of_le lb Hf1.out.size)).trans f2
      have Hw2 := Lib.hid hw2; have Hf2 := Lib.hid hf2
      clear hw2 hf2
      go_wp2_with fail
      go_end0
      have hfin : ∀ k : Nat, (w2.setCell ⟨b, 2, none⟩ (.int .i64 ((n : Int) - 1))).heap[k]? = (((w.setCell ⟨yb, 4, none⟩ (.pointer (some ⟨zb, 0, none⟩))).setCell ⟨zb, 3, none⟩ (.pointer (some ⟨yb, 0, none⟩))).setCell ⟨b, 2, none⟩ (.int .i64 ((n : Int) - 1))).heap[k]? := fun k => by
        rw [Hw2.out, Hw1.out]; rfl
      have hfr : Fr S w (w2.setCell ⟨b, 2, none⟩ (.int .i64 ((n : Int) - 1))) := by
        exact ((Hf1.out.mono fun k _ e => by rw [e]; exact hSy).trans0 (Hf2.out.mono fun k _ e => by rw [e]; exact hSz)).setCell (p := ⟨b, 2, none⟩) (.inl hSb) _
      refine ⟨rfl, hfr, QAt.erase Hh.out i (by rw [Hn.out]; exact hil) ?_ ?_ ?_ ?_, ?_⟩
      · rw [hfin]
        have q0 := Hbb.out
        have q1 : (w.setCell ⟨yb, 4, none⟩ (.pointer (some ⟨zb, 0, none⟩))).heap[b]? = _ := (blk_set_ne _ _ hby).trans q0
        have q2 : ((w.setCell ⟨yb, 4, none⟩ (.pointer (some ⟨zb, 0, none⟩))).setCell ⟨zb, 3, none⟩ (.pointer (some ⟨yb, 0, none⟩))).heap[b]? = _ := (blk_set_ne _ _ hbz).trans q1
        have q3 := blk_set q2 2 (.int .i64 ((n : Int) - 1))
        rw [q3, Hn.out]
        unfold queueObj
        rw [Hmi.out]
        rw [if_neg hi0, if_neg hin]
        rfl
      · intro y' _ hy'
        rw [Hy.out] at hy'; cases hy'
        rw [hfin, blk_set_ne _ _ hyb, blk_set_ne _ _ hyz, blk_set Hyo.out 4]
        rw [Hnx.out]; rfl
      · intro z' hz'
        rw [Hz.out] at hz'; cases hz'
        have q1 : (w.setCell ⟨yb, 4, none⟩ (.pointer (some ⟨zb, 0, none⟩))).heap[zb]? = _ := (blk_set_ne _ _ hzy).trans Hzo.out
        rw [hfin, blk_set_ne _ _ hzb, blk_set q1 3]
        rw [Hpv.out]; rfl
      · intro j u hu h1 h2 h3
        obtain ⟨_, hub, _⟩ := Hh.out.node j u hu
        have huy : u.1 ≠ yb := fun e => by have := Hh.out.nd j (i - 1) u (yb, yw) hu Hy.out e; omega
        have huz : u.1 ≠ zb := fun e => by have := Hh.out.nd j (i + 1) u (zb, zw) hu Hz.out e; omega
        rw [hfin, blk_set_ne _ _ hub, blk_set_ne _ _ huz, blk_set_ne _ _ huy]
      · rw [hfin, blk_set_ne _ _ (Ne.symm hbx), blk_set_ne _ _ hxz, blk_set_ne _ _ hxy]
end Go.Proofs.Ytdemeghhjnehbaa
