/- What Remove does to a queue of those who wait; and what each act does to no queue. -/
import Derived.Test.YtdemeghhjnehbaaWaitMoreD
set_option linter.unusedVariables false
set_option linter.unusedSimpArgs false
namespace Go.Proofs.Ytdemeghhjnehbaa
open Go.RowKit
set_option maxRecDepth 100000

/-- Those of ws that are not of task t. -/
def notT (ws : List Wt) (t : Int) : List Wt := ws.filter fun y => !(y.1 == t)
theorem notT_erase (ws : List Wt) (t : Int) (i : Nat) (x : Wt) (h : ws[i]? = some x) (hx : (x.1 == t) = true) : notT (ws.eraseIdx i) t = notT ws t := by
  unfold notT
  induction ws generalizing i with
  | nil => simp at h
  | cons y ws ih =>
    cases i with
    | zero => simp at h; subst h; simp [List.filter_cons, hx]
    | succ i =>
      simp at h
      rw [List.eraseIdx_cons_succ, List.filter_cons, List.filter_cons, ih i h]
theorem notT_all (ws : List Wt) (t : Int) (h : ∀ y ∈ ws, (y.1 == t) = false) : notT ws t = ws := List.filter_eq_self.2 fun y hy => by simp [h y hy]
theorem notT_le (ws : List Wt) (t : Int) : (notT ws t).length ≤ ws.length := List.length_filter_le _ _

set_option maxHeartbeats 1000000 in
theorem wait_remove (w : World) (S : Nat → Prop) (b : Nat) (ws : List Wt) (t : Int) (h : WaitAt w S b ws) :
    Calls Try.prog 70 #[.pointer (some ⟨b, 0, none⟩), .int .i64 t] w fun e w' => e = .returned (.int .i64 ((ws.length - (notT ws t).length : Nat) : Int)) ∧ Fr S w w' ∧ WaitAt w' S b (notT ws t) := by
  obtain ⟨n, hn⟩ : ∃ n, ws.length = n := ⟨_, rfl⟩
  have hfew := h.few
  rw [hn] at hfew
  have h2 := h.mono (S' := fun k => S k ∧ k < w.heap.size) fun k hk q => ⟨q, hk⟩
  obtain ⟨m, hm⟩ : ∃ m, (notT ws t).length = m := ⟨_, rfl⟩
  have hmn := notT_le ws t
  rw [hm, hn] at hmn
  rw [hm, hn]
  obtain ⟨rs, hrs⟩ : ∃ rs, rs = notT ws t := ⟨_, rfl⟩
  rw [← hrs]
  have H2 := Lib.hid h2; have Hn := Lib.hid hn; have Hm := Lib.hid hm; have Hrs := Lib.hid hrs
  clear h h2 hn hm hrs
  go_enter Try.func70, Try.ntmps70
  go_wp2_with fail
  obtain ⟨w0, hw0⟩ : ∃ w0, w0 = w.alloc (.cells #[.int .i64 t] 3) := ⟨_, rfl⟩
  rw [← hw0]
  have hf0 : Fr Nob w w0 := by rw [hw0]; exact (Fr.refl _ _).alloc _
  obtain ⟨tb, htb⟩ : ∃ tb, tb = w.heap.size := ⟨_, rfl⟩
  rw [← htb]
  have ht0 : w0.cell? ⟨tb, 0, none⟩ = some (.int .i64 t) := by rw [hw0, htb]; exact blk_cell (heap_alloc_new w _) 0 rfl
  have htn : ¬ (S tb ∧ tb < w.heap.size) := fun q => by omega
  have Hf0 := Lib.hid hf0; have Ht0 := Lib.hid ht0; have Htn := Lib.hid htn; have Htb := Lib.hid htb
  clear hw0 hf0 htb ht0 htn
  go_loopw [4] (fun c wr => ∃ (j : Nat) (q : List Wt), c = .int .i64 j ∧ q.length + j = n ∧ notT q t = rs ∧ Fr (fun k => S k ∧ k < w.heap.size) w0 wr ∧ WaitAt wr (fun k => S k ∧ k < w.heap.size) b q) (fun c _ => n - (intOf c).toNat)
  case atStart => exact ⟨0, ws, rfl, Hn.out, Hrs.out.symm, Fr.refl _ _, H2.out.fr0 Hf0.out⟩
  case round =>
    obtain ⟨j, q, rfl, hqj, hnq, hfr, hq⟩ := hrel
    have hcall := wait_take_task wr _ b q hq t tb (hfr.cell (p := ⟨tb, 0, none⟩) Htn.out Ht0.out)
    have Hcall := Lib.hid hcall
    have Hnq := Lib.hid hnq; have Hfr := Lib.hid hfr; have Hq := Lib.hid hq; have Hqj := Lib.hid hqj
    clear hcall hnq hfr hq hqj
    go_wp2_with fail
    refine Hcall.out.mono ?_
    intro e w1 htp
    rcases htp with ⟨i, x, h1, h2, h3, rfl, hf1, hq1⟩ | ⟨h1, rfl, hf1⟩
    · have hjn : j < n := by have := (List.getElem?_eq_some_iff.1 h1).1; have := Hqj.out; omega
      have he := notT_erase q t i x h1 h2
      have hle : (q.eraseIdx i).length + (j + 1) = n := by
        have := (List.getElem?_eq_some_iff.1 h1).1
        rw [List.length_eraseIdx, if_pos this]; have := Hqj.out; omega
      have He := Lib.hid he; have Hle := Lib.hid hle; have Hf1 := Lib.hid hf1; have Hq1 := Lib.hid hq1
      clear h1 h2 h3 hf1 hq1 he hle
      go_wp2_with fail
      go_roundw
      case rel => exact ⟨j + 1, q.eraseIdx i, by go_num, Hle.out, by rw [He.out]; exact Hnq.out, (Hfr.out.trans0 Hf1.out).alloc _, Hq1.out.fr0 ((Fr.refl _ _).alloc _)⟩
      case measure => simp [intOf]; omega
    · have hq2 := notT_all q t h1
      have hj : j = n - m := by
        have h4 := Hnq.out; rw [hq2] at h4
        have h5 := Hqj.out; rw [h4, Hrs.out, Hm.out] at h5; omega
      have hqe : q = rs := by rw [← hq2]; exact Hnq.out
      have Hqe := Lib.hid hqe; have Hf1 := Lib.hid hf1; have Hj := Lib.hid hj
      clear h1 hf1 hq2 hj hqe
      go_wp2_with fail
      go_ret
      have hfz : Fr Nob w1 (w1.alloc (.cells #[.int .i64 0, .int .i64 0, .int .i64 0] 63)) := (Fr.refl _ _).alloc _
      refine ⟨by rw [← Hj.out]; rfl, ((Hf0.out.none.trans0 (Hfr.out.mono fun k _ q => q.1)).trans0 Hf1.out.none).trans0 hfz.none, ?_⟩
      rw [← Hqe.out]
      exact ((Hq.out.fr0 Hf1.out).fr0 hfz).mono fun k _ q => q.1
end Go.Proofs.Ytdemeghhjnehbaa
