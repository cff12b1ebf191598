/- What deliver, Send, Put, Recv and Drop do. -/
import Derived.Test.YtdemeghhjnehbaaChanNew
set_option linter.unusedVariables false
set_option linter.unusedSimpArgs false
namespace Go.Proofs.Ytdemeghhjnehbaa
open Go.RowKit
set_option maxRecDepth 100000
theorem one_wake (w : World) (S : Nat → Prop) (B : Nat) (x : Wk) (hB : B ≤ w.heap.size) (hS : ¬ S w.heap.size) :
    Sl (w.alloc (.cells #[.int .i64 x.1, .int .i64 x.2.1, .int .i64 x.2.2.1, .bool x.2.2.2.1, .bool x.2.2.2.2] 37)) (Off B S) 37 5 (.slice (some ⟨w.heap.size, 0, none⟩) 1 1) 1 (wks [x]) :=
  Sl.lit w 37 5 #[.int .i64 x.1, .int .i64 x.2.1, .int .i64 x.2.2.1, .bool x.2.2.2.1, .bool x.2.2.2.2] 1 (Off B S) ⟨hB, hS⟩ (by simp [maxLen]) rfl
def DelP (w : World) (S : Nat → Prop) (b : Nat) (c : ChS) (k : Wk) (e : Ending) (w' : World) : Prop := ∃ g : Nat, e = .returned (.slice (some ⟨g, 0, none⟩) 1 1) ∧ Fr S w w' ∧ ChanAt w' S b c ∧ Sl w' (Off w.heap.size S) 37 5 (.slice (some ⟨g, 0, none⟩) 1 1) 1 (wks [k])
theorem deliver_some {w : World} {S : Nat → Prop} {b : Nat} {c : ChS} (h : ChanAt w S b c) (v : Int) (x : Wt) (l : List Wt) (hx : c.rv = x :: l) :
    Calls Try.prog 38 #[.pointer (some ⟨b, 0, none⟩), .int .i64 v] w (DelP w S b { c with rv := l } (wakeOf x v true false)) := by
  obtain ⟨rb, qb, sb, R, A, B, h⟩ := h
  obtain ⟨_, p1, _, _, _, _⟩ := h.cells
  have hq := h.recv
  rw [hx] at hq
  have Hq := Lib.hid (wait_pop_some w A qb x l hq); have H := Lib.hid h
  clear hq h hx
  obtain ⟨t, k, y⟩ := x
  go_enter Try.func38, Try.ntmps38
  go_wp2_with fail
  refine Hq.out.mono ?_
  rintro e w1 ⟨rfl, hf1, hq1⟩
  have Hf1 := Lib.hid hf1; have Hq1 := Lib.hid hq1
  clear hf1 hq1
  go_wp2_with fail
  go_ret
  have hc := H.out.toRecv Hf1.out Hq1.out
  have hfa : Fr Nob w1 (w1.alloc (.cells #[.int .i64 t, .int .i64 k, .int .i64 y] 63)) := (Fr.refl _ _).alloc _
  have hfS : Fr S w w1 := Hf1.out.mono fun k _ q => (H.out.subA k q).1
  have hz := Hf1.out.size
  exact ⟨w1.heap.size + 1, by simp, (hfS.trans0 hfa.none).alloc _, ⟨rb, qb, sb, R, A, B, (hc.fr0 hfa).fr0 ((Fr.refl _ _).alloc _)⟩, by
    have := one_wake (w1.alloc (.cells #[.int .i64 t, .int .i64 k, .int .i64 y] 63)) S w.heap.size (t, k, v, true, false) (by simp; omega) (fun q => by have := H.out.lt _ q; simp at this; omega)
    rw [show (w1.alloc (.cells #[.int .i64 t, .int .i64 k, .int .i64 y] 63)).heap.size = w1.heap.size + 1 by simp] at this
    exact this⟩
theorem deliver_none {w : World} {S : Nat → Prop} {b : Nat} {c : ChS} (h : ChanAt w S b c) (v : Int) (hx : c.rv = []) :
    Calls Try.prog 38 #[.pointer (some ⟨b, 0, none⟩), .int .i64 v] w fun e w' => e = .returned (.slice none 0 0) ∧ Fr Nob w w' := by
  obtain ⟨rb, qb, sb, R, A, B, h⟩ := h
  obtain ⟨_, p1, _, _, _, _⟩ := h.cells
  have hq := h.recv
  rw [hx] at hq
  have Hq := Lib.hid (wait_pop_none w A qb hq)
  clear hq h hx
  go_enter Try.func38, Try.ntmps38
  go_wp2_with fail
  refine Hq.out.mono ?_
  rintro e w1 ⟨rfl, hf1⟩
  have Hf1 := Lib.hid hf1
  clear hf1
  go_wp2_with fail
  go_ret
  exact ⟨rfl, Hf1.out.alloc _⟩
def SendP (w : World) (S : Nat → Prop) (b : Nat) (c : ChS) (d : Bool) (l : List Wk) (n : Nat) (er : Int) (e : Ending) (w' : World) : Prop := ∃ (A : Option Addr) (cp : Nat), e = .returned (.tuple #[.bool d, .slice A n cp, .int .i64 er]) ∧ Fr S w w' ∧ ChanAt w' S b c ∧ Sl w' (Off w.heap.size S) 37 5 (.slice A n cp) n (wks l)
theorem chan_send {w : World} {S : Nat → Prop} {b : Nat} {c c' : ChS} (h : ChanAt w S b c) (v : Int) (d : Bool) (l : List Wk) (n : Nat) (er : Int) (hr : c.sendR v = (d, l, er)) (hs : c.sendS v = c') (hn : l.length = n) :
    Calls Try.prog 14 #[.pointer (some ⟨b, 0, none⟩), .int .i64 v] w (SendP w S b c' d l n er) := by
  have hm := fun m hm => chan_mute w S b c h m hm
  by_cases hmu : c.mute = true
  · unfold ChS.sendR at hr; unfold ChS.sendS at hs
    rw [if_pos hmu] at hr hs
    cases hr; subst hs; subst hn
    have Hm := Lib.hid (hm true hmu); have H := Lib.hid h
    clear hm h hmu
    go_enter Try.func14, Try.ntmps14
    go_wp2_with fail
    refine Hm.out.mono ?_
    rintro e _ ⟨rfl, rfl⟩
    go_wp2_with fail
    go_ret3
    exact ⟨none, 0, rfl, Fr.refl _ _, H.out, Sl.nil _ _ _ _⟩
  · have hmu' : c.mute = false := by simpa using hmu
    unfold ChS.sendR at hr; unfold ChS.sendS at hs
    rw [if_neg hmu] at hr hs
    have Hm := Lib.hid (hm false hmu')
    clear hm hmu hmu'
    by_cases hcl : c.closed = true
    · rw [if_pos hcl] at hr hs
      cases hr; subst hs; subst hn
      obtain ⟨rb, qb, sb, R, A, B, hp⟩ := id h
      obtain ⟨_, _, _, _, _, p5⟩ := hp.cells
      rw [hcl] at p5
      have H := Lib.hid h
      clear hp h hcl
      go_enter Try.func14, Try.ntmps14
      go_wp2_with fail
      refine Hm.out.mono ?_
      rintro e _ ⟨rfl, rfl⟩
      go_wp2_with fail
      go_ret3
      exact ⟨none, 0, rfl, Fr.refl _ _, H.out, Sl.nil _ _ _ _⟩
    · rw [if_neg hcl] at hr hs
      have hcl' : c.closed = false := by simpa using hcl
      obtain ⟨rb, qb, sb, R, A, B, hp⟩ := id h
      obtain ⟨p0, _, _, _, _, p5⟩ := hp.cells
      rw [hcl'] at p5
      clear hcl hcl'
      obtain ⟨rv, hrv⟩ : ∃ rv, c.rv = rv := ⟨_, rfl⟩
      rw [hrv] at hr hs
      cases rv with
      | cons x r =>
        dsimp only at hr hs
        cases hr; subst hs; subst hn
        have Hd := Lib.hid (deliver_some h v x r hrv)
        clear h hp hrv
        go_enter Try.func14, Try.ntmps14
        go_wp2_with fail
        refine Hm.out.mono ?_
        rintro e _ ⟨rfl, rfl⟩
        go_wp2_with fail
        refine Hd.out.mono ?_
        rintro e w1 ⟨g, rfl, hf, hc, hs⟩
        have Hf := Lib.hid hf; have Hc := Lib.hid hc; have Hs := Lib.hid hs
        clear hf hc hs
        go_wp2_with fail
        go_ret3
        exact ⟨_, _, rfl, Hf.out, Hc.out, Hs.out⟩
      | nil =>
        dsimp only at hr hs
        cases hr
        subst hn
        have Hd := Lib.hid (deliver_none h v hrv)
        have hring := fun W (hf : Fr Nob w W) => (hp.fr0 hf).ring
        have H := Lib.hid hp; have Hrv := Lib.hid hrv
        by_cases hfull : c.q.length < c.size
        · rw [if_pos hfull] at hs
          subst hs
          have hpush := fun W (hf : Fr Nob w W) => ring_push_yes W R rb c.size c.q v (hring W hf) hfull
          have Hp := Lib.hid hpush
          have hdec : decide (c.q.length < c.size) = true := decide_eq_true hfull
          rw [hdec]
          clear h hp hring hpush hfull hdec hrv
          go_enter Try.func14, Try.ntmps14
          go_wp2_with fail
          refine Hm.out.mono ?_
          rintro e _ ⟨rfl, rfl⟩
          go_wp2_with fail
          refine Hd.out.mono ?_
          rintro e w1 ⟨rfl, hf⟩
          have q0 := hf.cell (p := ⟨b, 0, none⟩) id p0
          have Hf := Lib.hid hf
          clear hf
          go_wp2_with fail
          refine (Hp.out w1 Hf.out).mono ?_
          rintro e w2 ⟨rfl, hf2, hr2⟩
          have Hf2 := Lib.hid hf2; have Hr2 := Lib.hid hr2
          clear hf2 hr2
          go_wp2_with fail
          go_ret3
          exact ⟨none, 0, rfl, Hf.out.none.trans0 (Hf2.out.mono fun k _ q => (H.out.subR k q).1), ⟨rb, qb, sb, R, A, B, by have q := (H.out.fr0 Hf.out).toRing Hf2.out Hr2.out; rw [Hrv.out] at q; exact q⟩, Sl.nil _ _ _ _⟩
        · rw [if_neg hfull] at hs
          subst hs
          have hpush := fun W (hf : Fr Nob w W) => ring_push_no W R rb c.size c.q v (hring W hf) (by have := hp.ring.len; omega)
          have Hp := Lib.hid hpush
          have hdec : decide (c.q.length < c.size) = false := decide_eq_false hfull
          rw [hdec]
          clear h hp hring hpush hfull hdec hrv
          go_enter Try.func14, Try.ntmps14
          go_wp2_with fail
          refine Hm.out.mono ?_
          rintro e _ ⟨rfl, rfl⟩
          go_wp2_with fail
          refine Hd.out.mono ?_
          rintro e w1 ⟨rfl, hf⟩
          have q0 := hf.cell (p := ⟨b, 0, none⟩) id p0
          have Hf := Lib.hid hf
          clear hf
          go_wp2_with fail
          refine (Hp.out w1 Hf.out).mono ?_
          rintro e w2 ⟨rfl, hf2⟩
          have Hf2 := Lib.hid (Fr.ofDrew hf2)
          clear hf2
          go_wp2_with fail
          go_ret3
          exact ⟨none, 0, rfl, (Hf.out.trans0 Hf2.out).none, ⟨rb, qb, sb, R, A, B, H.out.fr0 (Hf.out.trans0 Hf2.out)⟩, Sl.nil _ _ _ _⟩
def PutP (w : World) (S : Nat → Prop) (b : Nat) (c : ChS) (l : List Wk) (n : Nat) (k : Bool) (e : Ending) (w' : World) : Prop := ∃ (A : Option Addr) (cp : Nat), e = .returned (.tuple #[.slice A n cp, .bool k]) ∧ Fr S w w' ∧ ChanAt w' S b c ∧ Sl w' (Off w.heap.size S) 37 5 (.slice A n cp) n (wks l)
theorem chan_put {w : World} {S : Nat → Prop} {b : Nat} {c c' : ChS} (h : ChanAt w S b c) (v : Int) (l : List Wk) (n : Nat) (d : Bool) (hr : c.putR v = (l, d)) (hs : c.putS v = c') (hn : l.length = n) :
    Calls Try.prog 53 #[.pointer (some ⟨b, 0, none⟩), .int .i64 v] w (PutP w S b c' l n d) := by
  unfold ChS.putR at hr; unfold ChS.putS at hs
  obtain ⟨rb, qb, sb, R, A, B, hp⟩ := id h
  obtain ⟨p0, _, _, p3, _, _⟩ := hp.cells
  obtain ⟨t, ht⟩ : ∃ t, c.timed = t := ⟨_, rfl⟩
  rw [ht] at hr hs p3
  cases t with
  | false =>
    rw [if_pos (show (!false) = true from rfl)] at hr hs
    cases hr; subst hs; subst hn
    have H := Lib.hid h
    clear h hp ht
    go_enter Try.func53, Try.ntmps53
    go_wp2_with fail
    go_ret2
    exact ⟨none, 0, rfl, Fr.refl _ _, H.out, Sl.nil _ _ _ _⟩
  | true =>
    rw [if_neg (show ¬ (!true) = true from by simp)] at hr hs
    obtain ⟨rv, hrv⟩ : ∃ rv, c.rv = rv := ⟨_, rfl⟩
    rw [hrv] at hr hs
    cases rv with
    | cons x r =>
      dsimp only at hr hs
      cases hr; subst hs; subst hn
      have Hd := Lib.hid (deliver_some h v x r hrv)
      have Ht := Lib.hid ht
      clear h hp hrv ht
      go_enter Try.func53, Try.ntmps53
      go_wp2_with fail
      refine Hd.out.mono ?_
      rintro e w1 ⟨g, rfl, hf, hc, hs⟩
      have Hf := Lib.hid hf; have Hc := Lib.hid hc; have Hs := Lib.hid hs
      clear hf hc hs
      go_wp2_with fail
      go_ret2
      exact ⟨_, _, rfl, Hf.out, by have q := Hc.out; rw [Ht.out] at q; exact q, Hs.out⟩
    | nil =>
      dsimp only at hr hs
      cases hr
      subst hn
      have Hd := Lib.hid (deliver_none h v hrv)
      have hring := fun W (hf : Fr Nob w W) => (hp.fr0 hf).ring
      have H := Lib.hid hp; have Hrv := Lib.hid hrv; have Ht := Lib.hid ht
      by_cases hfull : c.q.length < c.size
      · rw [if_pos hfull] at hs
        subst hs
        have hpush := fun W (hf : Fr Nob w W) => ring_push_yes W R rb c.size c.q v (hring W hf) hfull
        have Hp := Lib.hid hpush
        have hdec : decide (c.q.length < c.size) = true := decide_eq_true hfull
        rw [hdec]
        clear h hp hring hpush hfull hdec hrv ht
        go_enter Try.func53, Try.ntmps53
        go_wp2_with fail
        refine Hd.out.mono ?_
        rintro e w1 ⟨rfl, hf⟩
        have q0 := hf.cell (p := ⟨b, 0, none⟩) id p0
        have Hf := Lib.hid hf
        clear hf
        go_wp2_with fail
        refine (Hp.out w1 Hf.out).mono ?_
        rintro e w2 ⟨rfl, hf2, hr2⟩
        have Hf2 := Lib.hid hf2; have Hr2 := Lib.hid hr2
        clear hf2 hr2
        go_wp2_with fail
        go_ret2
        exact ⟨none, 0, rfl, Hf.out.none.trans0 (Hf2.out.mono fun k _ q => (H.out.subR k q).1), ⟨rb, qb, sb, R, A, B, by have q := (H.out.fr0 Hf.out).toRing Hf2.out Hr2.out; rw [Hrv.out, Ht.out] at q; exact q⟩, Sl.nil _ _ _ _⟩
      · rw [if_neg hfull] at hs
        have hpush := fun W (hf : Fr Nob w W) => ring_push_no W R rb c.size c.q v (hring W hf) (by have := hp.ring.len; omega)
        have Hp := Lib.hid hpush
        have hdec : decide (c.q.length < c.size) = false := decide_eq_false hfull
        rw [hdec]
        subst hs
        clear h hp hring hpush hfull hdec hrv ht
        go_enter Try.func53, Try.ntmps53
        go_wp2_with fail
        refine Hd.out.mono ?_
        rintro e w1 ⟨rfl, hf⟩
        have q0 := hf.cell (p := ⟨b, 0, none⟩) id p0
        have Hf := Lib.hid hf
        clear hf
        go_wp2_with fail
        refine (Hp.out w1 Hf.out).mono ?_
        rintro e w2 ⟨rfl, hf2⟩
        have Hf2 := Lib.hid (Fr.ofDrew hf2)
        clear hf2
        go_wp2_with fail
        go_ret2
        exact ⟨none, 0, rfl, (Hf.out.trans0 Hf2.out).none, ⟨rb, qb, sb, R, A, B, H.out.fr0 (Hf.out.trans0 Hf2.out)⟩, Sl.nil _ _ _ _⟩
theorem chan_drop {w : World} {S : Nat → Prop} {b : Nat} {c c' : ChS} (h : ChanAt w S b c) (d : Bool) (hr : c.dropR = d) (hs : c.dropS = c') :
    Calls Try.prog 55 #[.pointer (some ⟨b, 0, none⟩)] w fun e w' => e = .returned (.bool d) ∧ Fr S w w' ∧ ChanAt w' S b c' := by
  unfold ChS.dropR at hr; unfold ChS.dropS at hs
  obtain ⟨rb, qb, sb, R, A, B, hp⟩ := id h
  obtain ⟨p0, _, _, p3, _, _⟩ := hp.cells
  obtain ⟨t, ht⟩ : ∃ t, c.timed = t := ⟨_, rfl⟩
  rw [ht] at hr hs p3
  cases t with
  | false =>
    rw [if_neg (by simp)] at hs
    subst hs; subst hr
    have H := Lib.hid h
    clear h hp ht
    go_enter Try.func55, Try.ntmps55
    go_wp2_with fail
    go_ret
    exact ⟨rfl, Fr.refl _ _, H.out⟩
  | true =>
    rw [if_pos rfl] at hs
    subst hs
    have hcl := ring_clear w R rb c.size c.q hp.ring
    have hr' : decide (0 < c.q.length) = d := by simpa using hr
    generalize c.q.length = n at *
    have Hcl := Lib.hid hcl; have H := Lib.hid hp; have Hr := Lib.hid hr'; have Ht := Lib.hid ht
    clear h hp hcl hr hr' ht
    go_enter Try.func55, Try.ntmps55
    go_wp2_with fail
    refine Hcl.out.mono ?_
    rintro e w1 ⟨rfl, hf, hr1⟩
    have Hf := Lib.hid hf; have Hr1 := Lib.hid hr1
    clear hf hr1
    go_wp2_with fail
    go_ret
    exact ⟨by rw [← Hr.out]; rfl, Hf.out.mono fun k _ q => (H.out.subR k q).1, rb, qb, sb, R, A, B, by have q := H.out.toRing Hf.out Hr1.out; rw [Ht.out] at q; exact q⟩
end Go.Proofs.Ytdemeghhjnehbaa
