/- What Remove, Can and Wait do. -/
import Derived.Test.YtdemeghhjnehbaaChanFind
set_option linter.unusedVariables false
set_option linter.unusedSimpArgs false
namespace Go.Proofs.Ytdemeghhjnehbaa
open Go.RowKit
set_option maxRecDepth 100000
theorem chan_remove {w : World} {S : Nat → Prop} {b : Nat} {c : ChS} (h : ChanAt w S b c) (t : Int) (n : Nat) (c' : ChS) (hn : c.removeR t = n) (hs : c.removeS t = c') :
    Calls Try.prog 37 #[.pointer (some ⟨b, 0, none⟩), .int .i64 t] w fun e w' => e = .returned (.int .i64 (n : Int)) ∧ Fr S w w' ∧ ChanAt w' S b c' := by
  obtain ⟨rb, qb, sb, R, A, B, h⟩ := h
  subst hs
  have h1 := chan_queue h false
  have h2 := fun W (hW : ChP W S b rb qb sb R A B { c with rv := notT c.rv t }) => chan_queue hW true
  have r1 := wait_remove w A qb c.rv t h.recv
  have r2 := fun W (hW : ChP W S b rb qb sb R A B { c with rv := notT c.rv t }) => wait_remove W B sb c.sd t hW.send
  have hb1 := h.recv.few; have hb2 := h.send.few
  unfold ChS.removeR at hn
  simp only [if_neg (show ¬ (false = true) from by simp)] at h1
  simp only [if_pos (show true = true from rfl)] at h2
  obtain ⟨m1, hm1⟩ : ∃ m, m = c.rv.length - (notT c.rv t).length := ⟨_, rfl⟩
  obtain ⟨m2, hm2⟩ : ∃ m, m = c.sd.length - (notT c.sd t).length := ⟨_, rfl⟩
  rw [← hm1] at r1
  rw [← hm1, ← hm2] at hn
  simp only [← hm2] at r2
  have hm1' : m1 ≤ 100000 := by omega
  have hm2' : m2 ≤ 100000 := by omega
  subst hn
  have H := Lib.hid h; have H1 := Lib.hid h1; have H2 := Lib.hid h2; have R1 := Lib.hid r1; have R2 := Lib.hid r2
  clear h h1 h2 r1 r2 hm1 hm2 hb1 hb2
  go_enter Try.func37, Try.ntmps37
  go_wp2_with fail
  refine H1.out.mono ?_
  rintro e _ ⟨rfl, rfl⟩
  go_wp2_with fail
  refine R1.out.mono ?_
  rintro e w1 ⟨rfl, hf1, hq1⟩
  have Hf1 := Lib.hid hf1
  have Hc1 := Lib.hid (H.out.toRecv hf1 hq1)
  clear hf1 hq1
  go_wp2_with fail
  refine (H2.out w1 Hc1.out).mono ?_
  rintro e _ ⟨rfl, rfl⟩
  go_wp2_with fail
  refine (R2.out w1 Hc1.out).mono ?_
  rintro e w2 ⟨rfl, hf2, hq2⟩
  have Hf2 := Lib.hid hf2
  have Hc2 := Lib.hid (Hc1.out.toSend hf2 hq2)
  clear hf2 hq2
  go_wp2_with fail
  go_ret
  exact ⟨by first | rfl | (push_cast; rfl), (Hf1.out.mono fun k _ q => (H.out.subA k q).1).trans0 (Hf2.out.mono fun k _ q => (H.out.subB k q).1), rb, qb, sb, R, A, B, Hc2.out⟩
theorem chan_can {w : World} {S : Nat → Prop} {b : Nat} {c : ChS} (h : ChanAt w S b c) (s r : Bool) (hr : c.canR s = r) :
    Calls Try.prog 40 #[.pointer (some ⟨b, 0, none⟩), .bool s] w fun e w' => e = .returned (.bool r) ∧ ∃ m, w' = w.drewN m := by
  have hm := chan_mute w S b c h _ rfl
  have hf := chan_free w S b c h s _ rfl
  obtain ⟨rb, qb, sb, R, A, B, hp⟩ := h
  obtain ⟨_, _, _, _, _, p5⟩ := hp.cells
  have hq := fun m : Nat => chan_queue (hp.fr0 ((Fr.refl Nob w).drewN m)) (!s)
  have hl : ∀ m : Nat, Calls Try.prog 72 #[.pointer (some ⟨if (!s) = true then sb else qb, 0, none⟩)] (w.drewN m) fun e w' => e = .returned (.int .i64 ((c.queue (!s)).length : Int)) ∧ (w.drewN m) = w' := fun m => by
    unfold ChS.queue
    cases s with
    | true => exact wait_len (w.drewN m) A qb c.rv _ rfl (hp.recv.fr0 ((Fr.refl Nob w).drewN m))
    | false => exact wait_len (w.drewN m) B sb c.sd _ rfl (hp.send.fr0 ((Fr.refl Nob w).drewN m))
  unfold ChS.canR at hr
  have hq5 := fun m : Nat => ((Fr.refl Nob w).drewN m).cell (p := ⟨b, 5, none⟩) id p5
  generalize (if (!s) = true then sb else qb) = qq at *
  generalize (c.queue (!s)).length = n at *
  generalize c.mute = mu at *
  generalize c.free s = fr at *
  generalize c.closed = cl at *
  have Hm := Lib.hid hm; have Hf := Lib.hid hf; have Hq := Lib.hid hq; have Hl := Lib.hid hl
  have Hr := Lib.hid hr
  clear hp hm hf hq hl hr hq5
  by_cases hms : (mu && s) = true
  · have Hr2 : Hid (r = false) := Lib.hid (by rw [← Hr.out, if_pos hms])
    obtain ⟨rfl, rfl⟩ := Bool.and_eq_true_iff.1 hms
    clear hms
    go_enter Try.func40, Try.ntmps40
    go_wp2_with fail
    refine Hm.out.mono ?_
    rintro e _ ⟨rfl, rfl⟩
    go_wp2_with fail
    go_ret
    exact ⟨by rw [Hr2.out]; rfl, 0, rfl⟩
  · have Hr2 : Hid (r = (cl || fr || decide (0 < n))) := Lib.hid (by rw [← Hr.out, if_neg hms])
    have hms' : (mu && s) = false := by simpa using hms
    clear hms
    cases cl with
    | true =>
      have Hr3 : Hid (r = true) := Lib.hid (by rw [Hr2.out]; rfl)
      cases mu with
      | true =>
        have hs0 : s = false := by simpa using hms'
        subst hs0
        clear hms'
        go_enter Try.func40, Try.ntmps40
        go_wp2_with fail
        refine Hm.out.mono ?_
        rintro e _ ⟨rfl, rfl⟩
        go_wp2_with fail
        go_ret
        exact ⟨by rw [Hr3.out]; rfl, 0, rfl⟩
      | false =>
        clear hms'
        go_enter Try.func40, Try.ntmps40
        go_wp2_with fail
        refine Hm.out.mono ?_
        rintro e _ ⟨rfl, rfl⟩
        go_wp2_with fail
        go_ret
        exact ⟨by rw [Hr3.out]; rfl, 0, rfl⟩
    | false =>
      cases mu with
      | true =>
        have hs0 : s = false := by simpa using hms'
        subst hs0
        clear hms'
        cases fr with
        | true =>
          have Hr3 : Hid (r = true) := Lib.hid (by rw [Hr2.out]; rfl)
          go_enter Try.func40, Try.ntmps40
          go_wp2_with fail
          refine Hm.out.mono ?_
          rintro e _ ⟨rfl, rfl⟩
          go_wp2_with fail
          refine Hf.out.mono ?_
          rintro e _ ⟨rfl, m, rfl⟩
          go_wp2_with fail
          go_ret
          exact ⟨by rw [Hr3.out]; rfl, m, rfl⟩
        | false =>
          have Hr3 : Hid (r = decide (0 < n)) := Lib.hid (by rw [Hr2.out]; rfl)
          go_enter Try.func40, Try.ntmps40
          go_wp2_with fail
          refine Hm.out.mono ?_
          rintro e _ ⟨rfl, rfl⟩
          go_wp2_with fail
          refine Hf.out.mono ?_
          rintro e _ ⟨rfl, m, rfl⟩
          go_wp2_with fail
          refine (Hq.out m).mono ?_
          rintro e _ ⟨rfl, rfl⟩
          go_wp2_with fail
          refine (Hl.out m).mono ?_
          rintro e _ ⟨rfl, rfl⟩
          go_wp2_with fail
          go_ret
          exact ⟨by rw [Hr3.out]; rfl, m, rfl⟩
      | false =>
        clear hms'
        cases fr with
        | true =>
          have Hr3 : Hid (r = true) := Lib.hid (by rw [Hr2.out]; rfl)
          go_enter Try.func40, Try.ntmps40
          go_wp2_with fail
          refine Hm.out.mono ?_
          rintro e _ ⟨rfl, rfl⟩
          go_wp2_with fail
          refine Hf.out.mono ?_
          rintro e _ ⟨rfl, m, rfl⟩
          go_wp2_with fail
          go_ret
          exact ⟨by rw [Hr3.out]; rfl, m, rfl⟩
        | false =>
          have Hr3 : Hid (r = decide (0 < n)) := Lib.hid (by rw [Hr2.out]; rfl)
          go_enter Try.func40, Try.ntmps40
          go_wp2_with fail
          refine Hm.out.mono ?_
          rintro e _ ⟨rfl, rfl⟩
          go_wp2_with fail
          refine Hf.out.mono ?_
          rintro e _ ⟨rfl, m, rfl⟩
          go_wp2_with fail
          refine (Hq.out m).mono ?_
          rintro e _ ⟨rfl, rfl⟩
          go_wp2_with fail
          refine (Hl.out m).mono ?_
          rintro e _ ⟨rfl, rfl⟩
          go_wp2_with fail
          go_ret
          exact ⟨by rw [Hr3.out]; rfl, m, rfl⟩
end Go.Proofs.Ytdemeghhjnehbaa
