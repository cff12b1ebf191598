/- What Can and Put of the document's own channel do. -/
import Derived.Test.YtdemeghhjnehbaaRefFind
set_option linter.unusedVariables false
set_option linter.unusedSimpArgs false
namespace Go.Proofs.Ytdemeghhjnehbaa
open Go.RowKit
set_option maxRecDepth 100000
theorem ref_can {w : World} {S : Nat → Prop} {b : Nat} {c : ChS} (h : RefAt w S b c) (s r : Bool) (hr : c.canR s = r) :
    Calls Try.prog 59 #[.pointer (some ⟨b, 0, none⟩), .bool s] w fun e w' => e = .returned (.bool r) ∧ ∃ m, w' = w.drewN m := by
  obtain ⟨v1, v2, v3, h⟩ := h
  obtain ⟨A1, c1, A2, c2, A3, c3, -, -, -, p0, p1, p2, p3, p4, p5, p6⟩ := h.cells
  subst hr
  clear h
  unfold ChS.canR ChS.mute ChS.free ChS.queue
  obtain ⟨size, q, rv, sd, t, sg, k⟩ := c
  dsimp only at p0 p1 p2 p3 p4 p5 p6 ⊢
  obtain ⟨n1, hn1⟩ : ∃ n1, q.length = n1 := ⟨_, rfl⟩
  obtain ⟨n2, hn2⟩ : ∃ n2, sd.length = n2 := ⟨_, rfl⟩
  obtain ⟨n3, hn3⟩ : ∃ n3, rv.length = n3 := ⟨_, rfl⟩
  rw [hn1] at p4; rw [hn2] at p5; rw [hn3] at p6
  cases s with
  | true =>
    simp only [Bool.and_true, if_true, Bool.not_true, Bool.false_eq_true, if_false, hn1, hn2, hn3]
    clear hn1 hn2 hn3
    cases t with
    | true =>
      go_enter Try.func59, Try.ntmps59
      go_wp2_with fail
      go_ret
      exact ⟨by simp, 0, rfl⟩
    | false =>
      cases sg with
      | true =>
        go_enter Try.func59, Try.ntmps59
        go_wp2_with fail
        go_ret
        exact ⟨by simp, 0, rfl⟩
      | false =>
        cases k with
        | true =>
          go_enter Try.func59, Try.ntmps59
          go_wp2_with fail
          go_quiet (fail)
          go_wp2_with fail
          go_ret
          exact ⟨by simp, nq, rfl⟩
        | false =>
          rcases Nat.eq_zero_or_pos n3 with rfl | h3
          · by_cases h1 : n1 < size
            · have h1' : (n1 : Int) < size := by omega
              have Hr : Hid (decide (n1 < size) = true) := Lib.hid (decide_eq_true h1)
              go_enter Try.func59, Try.ntmps59
              go_wp2_with fail
              go_quiet (fail)
              go_wp2_with fail
              go_ret
              exact ⟨by simp [Hr.out], nq, rfl⟩
            · have h1' : ¬ (n1 : Int) < size := by omega
              have Hr : Hid (decide (n1 < size) = false) := Lib.hid (decide_eq_false h1)
              go_enter Try.func59, Try.ntmps59
              go_wp2_with fail
              go_quiet (fail)
              go_wp2_with fail
              go_ret
              exact ⟨by simp [Hr.out], nq, rfl⟩
          · have h3' : (0 : Int) < n3 := by omega
            have Hr : Hid (decide (0 < n3) = true) := Lib.hid (decide_eq_true h3)
            go_enter Try.func59, Try.ntmps59
            go_wp2_with fail
            go_quiet (fail)
            go_wp2_with fail
            go_ret
            exact ⟨by simp [Hr.out], nq, rfl⟩
  | false =>
    simp only [Bool.and_false, Bool.false_eq_true, if_false, Bool.not_false, if_true, hn1, hn2, hn3]
    clear hn1 hn2 hn3
    cases k with
    | true =>
      go_enter Try.func59, Try.ntmps59
      go_wp2_with fail
      go_ret
      exact ⟨by simp, 0, rfl⟩
    | false =>
      rcases Nat.eq_zero_or_pos n2 with rfl | h2
      · rcases Nat.eq_zero_or_pos n1 with rfl | h1
        · go_enter Try.func59, Try.ntmps59
          go_wp2_with fail
          go_ret
          exact ⟨by simp, 0, rfl⟩
        · have h1' : (0 : Int) < n1 := by omega
          have Hr : Hid (decide (0 < n1) = true) := Lib.hid (decide_eq_true h1)
          go_enter Try.func59, Try.ntmps59
          go_wp2_with fail
          go_ret
          exact ⟨by simp [Hr.out], 0, rfl⟩
      · have h2' : (0 : Int) < n2 := by omega
        have Hr : Hid (decide (0 < n2) = true) := Lib.hid (decide_eq_true h2)
        go_enter Try.func59, Try.ntmps59
        go_wp2_with fail
        go_ret
        exact ⟨by simp [Hr.out], 0, rfl⟩
def PutF (w : World) (S : Nat → Prop) (b : Nat) (c' : ChS) (l : List Wk) (n : Nat) (d : Bool) (e : Ending) (w' : World) : Prop := ∃ (A : Option Addr) (cp : Nat), e = .returned (.tuple #[.slice A n cp, .bool d]) ∧ RfTo w S b c' w' ∧ Rd w' 5 (.slice A n cp) n (wks l)
theorem ref_put {w : World} {S : Nat → Prop} {b : Nat} {c c' : ChS} (h : RefAt w S b c) (hfew : c.Few) (v : Int) (l : List Wk) (n : Nat) (d : Bool) (hr : c.putR v = (l, d)) (hs : c.putS v = c') (hn : l.length = n) :
    Calls Try.prog 54 #[.pointer (some ⟨b, 0, none⟩), .int .i64 v] w (PutF w S b c' l n d) := by
  have hsame := fun W (hW : Fr Nob w W) (e : c = c') => (e ▸ RfTo.same h hW : RfTo w S b c' W)
  have hgr : c.timed = true → (c.givR v).1 = d ∧ (c.givR v).2 = l := fun hm => by
    unfold ChS.putR at hr; rw [if_neg (by simp [hm])] at hr; unfold ChS.givR; cases hrv : c.rv with
    | nil => rw [hrv] at hr; cases hr; exact ⟨rfl, rfl⟩
    | cons x r => rw [hrv] at hr; cases hr; exact ⟨rfl, rfl⟩
  have hgiv := fun (hm : c.timed = true) => ref_give h hfew v (c.givR v).1 (c.givR v).2 n (c' := c') rfl (by rw [← hs]; unfold ChS.putS; rw [if_neg (by simp [hm])]; rfl) (by rw [(hgr hm).2]; exact hn)
  have hno : c.timed = false → d = false ∧ l = [] ∧ c = c' := fun hm => by
    unfold ChS.putR at hr; unfold ChS.putS at hs; rw [if_pos (by simp [hm])] at hr hs; cases hr; exact ⟨rfl, rfl, hs⟩
  obtain ⟨v1, v2, v3, h⟩ := h
  obtain ⟨A1, c1, A2, c2, A3, c3, -, -, -, p0, p1, p2, p3, p4, p5, p6⟩ := h.cells
  have Hsame := Lib.hid hsame; have Hgiv := Lib.hid hgiv; have Hgr := Lib.hid hgr; have Hno := Lib.hid hno; have Hn := Lib.hid hn
  clear hsame hgiv hgr hno hr hs hn h p0 p2 p3 p4 p5 p6 hfew
  have Ht : Hid (c.timed = c.timed) := Lib.hid rfl
  generalize htt : c.timed = t at p1 Hgiv Hgr Hno
  clear htt Ht
  cases t with
  | false =>
    obtain ⟨rfl, rfl, he⟩ := Hno.out rfl
    obtain rfl := Hn.out
    go_enter Try.func54, Try.ntmps54
    go_wp2_with fail
    go_ret2
    exact ⟨none, 0, rfl, Hsame.out _ (Fr.refl _ _) he, rd_nil _ _⟩
  | true =>
    obtain ⟨rfl, rfl⟩ := Hgr.out rfl
    have Hg := Lib.hid (Hgiv.out rfl)
    generalize (c.givR v).1 = d at *
    generalize (c.givR v).2 = l at *
    clear Hgiv Hgr Hno Hsame
    go_enter Try.func54, Try.ntmps54
    go_wp2_with fail
    refine Hg.out.mono ?_
    rintro e w1 ⟨A, cp, rfl, hf, hr⟩
    have Hf := Lib.hid hf; have Hr := Lib.hid hr
    clear hf hr
    go_wp2_with fail
    go_ret2
    exact ⟨A, cp, rfl, Hf.out, Hr.out⟩
end Go.Proofs.Ytdemeghhjnehbaa
