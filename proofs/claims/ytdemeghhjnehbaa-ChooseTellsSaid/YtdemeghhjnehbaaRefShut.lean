/- What Close and End of the document's own channel do. -/
import Derived.Test.YtdemeghhjnehbaaRefEnd
set_option linter.unusedVariables false
set_option linter.unusedSimpArgs false
namespace Go.Proofs.Ytdemeghhjnehbaa
open Go.RowKit
set_option maxRecDepth 100000
def CloseF (w : World) (S : Nat → Prop) (b : Nat) (c' : ChS) (l : List Wk) (n : Nat) (er : Int) (e : Ending) (w' : World) : Prop := ∃ (A : Option Addr) (cp : Nat), e = .returned (.tuple #[.slice A n cp, .int .i64 er]) ∧ RfTo w S b c' w' ∧ Rd w' 5 (.slice A n cp) n (wks l)
theorem ref_close {w : World} {S : Nat → Prop} {b : Nat} {c c' : ChS} (h : RefAt w S b c) (hfew : c.Few) (l : List Wk) (n : Nat) (er : Int) (hr : c.closeR = (l, er)) (hs : c.closeS = c') (hn : l.length = n) :
    Calls Try.prog 50 #[.pointer (some ⟨b, 0, none⟩)] w (CloseF w S b c' l n er) := by
  have hsame := fun W (hW : Fr Nob w W) (e : c = c') => (e ▸ RfTo.same h hW : RfTo w S b c' W)
  have hend := fun m (hm : c.ends.length = m) => rfend h hfew m hm
  have h7 : c.mute = true → l = [] ∧ er = 7 ∧ c = c' := fun hm => by
    unfold ChS.closeR at hr; unfold ChS.closeS at hs; rw [if_pos hm] at hr hs; cases hr; exact ⟨rfl, rfl, hs⟩
  have h5 : c.mute = false → c.closed = true → l = [] ∧ er = 5 ∧ c = c' := fun hm hc => by
    unfold ChS.closeR at hr; unfold ChS.closeS at hs; rw [if_neg (by simp [hm]), if_pos hc] at hr hs; cases hr; exact ⟨rfl, rfl, hs⟩
  have h0 : c.mute = false → c.closed = false → l = c.ends ∧ er = 0 ∧ c.shut = c' := fun hm hc => by
    unfold ChS.closeR at hr; unfold ChS.closeS at hs; rw [if_neg (by simp [hm]), if_neg (by simp [hc])] at hr hs; cases hr; exact ⟨rfl, rfl, hs⟩
  obtain ⟨v1, v2, v3, h⟩ := h
  obtain ⟨A1, c1, A2, c2, A3, c3, -, -, -, p0, p1, p2, p3, p4, p5, p6⟩ := h.cells
  have hmu : c.mute = (c.timed || c.signal) := rfl
  have Hsame := Lib.hid hsame; have Hend := Lib.hid hend; have H7 := Lib.hid h7; have H5 := Lib.hid h5; have H0 := Lib.hid h0; have Hn := Lib.hid hn; have Hmu := Lib.hid hmu
  clear hsame hend h7 h5 h0 hr hs hn h hmu p0 p4 p5 p6 hfew
  cases ht : c.timed with
  | true =>
    obtain ⟨rfl, rfl, he⟩ := H7.out (by rw [Hmu.out, ht]; rfl)
    rw [ht] at p1
    obtain rfl := Hn.out
    clear Hend H7 H5 H0 Hmu ht
    go_enter Try.func50, Try.ntmps50
    go_wp2_with fail
    go_ret2
    exact ⟨none, 0, rfl, Hsame.out _ (Fr.refl _ _) he, rd_nil _ _⟩
  | false =>
    cases hg : c.signal with
    | true =>
      obtain ⟨rfl, rfl, he⟩ := H7.out (by rw [Hmu.out, ht, hg]; rfl)
      rw [ht] at p1; rw [hg] at p2
      obtain rfl := Hn.out
      clear Hend H7 H5 H0 Hmu ht hg
      go_enter Try.func50, Try.ntmps50
      go_wp2_with fail
      go_ret2
      exact ⟨none, 0, rfl, Hsame.out _ (Fr.refl _ _) he, rd_nil _ _⟩
    | false =>
      have hmu0 : c.mute = false := by rw [Hmu.out, ht, hg]; rfl
      rw [ht] at p1; rw [hg] at p2
      cases hk : c.closed with
      | true =>
        obtain ⟨rfl, rfl, he⟩ := H5.out hmu0 hk
        rw [hk] at p3
        obtain rfl := Hn.out
        clear Hend H7 H5 H0 Hmu ht hg hk hmu0
        go_enter Try.func50, Try.ntmps50
        go_wp2_with fail
        go_ret2
        exact ⟨none, 0, rfl, Hsame.out _ (Fr.refl _ _) he, rd_nil _ _⟩
      | false =>
        obtain ⟨rfl, rfl, rfl⟩ := H0.out hmu0 hk
        rw [hk] at p3
        have Hg := Lib.hid (Hend.out n Hn.out)
        clear Hend H7 H5 H0 Hmu ht hg hk hmu0 Hsame Hn
        go_enter Try.func50, Try.ntmps50
        go_wp2_with fail
        refine Hg.out.mono ?_
        rintro e w1 ⟨A, cp, rfl, hf, hr⟩
        have Hf := Lib.hid hf; have Hr := Lib.hid hr
        clear hf hr
        go_wp2_with fail
        go_ret2
        exact ⟨A, cp, rfl, Hf.out, Hr.out⟩
theorem ref_over {w : World} {S : Nat → Prop} {b : Nat} {c c' : ChS} (h : RefAt w S b c) (hfew : c.Few) (l : List Wk) (n : Nat) (hr : c.endR = l) (hs : c.endS = c') (hn : l.length = n) :
    Calls Try.prog 58 #[.pointer (some ⟨b, 0, none⟩)] w (EndF w S b c' l n) := by
  have hsame := fun W (hW : Fr Nob w W) (e : c = c') => (e ▸ RfTo.same h hW : RfTo w S b c' W)
  have hend := fun m (hm : c.ends.length = m) => rfend h hfew m hm
  have h7 : (!c.signal || c.closed) = true → l = [] ∧ c = c' := fun hm => by
    unfold ChS.endR at hr; unfold ChS.endS at hs; rw [if_pos hm] at hr hs; exact ⟨hr.symm, hs⟩
  have h0 : (!c.signal || c.closed) = false → l = c.ends ∧ c.shut = c' := fun hm => by
    unfold ChS.endR at hr; unfold ChS.endS at hs; rw [if_neg (by simp [hm])] at hr hs; exact ⟨hr.symm, hs⟩
  obtain ⟨v1, v2, v3, h⟩ := h
  obtain ⟨A1, c1, A2, c2, A3, c3, -, -, -, p0, p1, p2, p3, p4, p5, p6⟩ := h.cells
  have Hsame := Lib.hid hsame; have Hend := Lib.hid hend; have H7 := Lib.hid h7; have H0 := Lib.hid h0; have Hn := Lib.hid hn
  clear hsame hend h7 h0 hr hs hn h p0 p1 p4 p5 p6 hfew
  cases hg : c.signal with
  | false =>
    obtain ⟨rfl, he⟩ := H7.out (by rw [hg]; rfl)
    rw [hg] at p2
    obtain rfl := Hn.out
    clear Hend H7 H0 hg
    go_enter Try.func58, Try.ntmps58
    go_wp2_with fail
    go_ret
    exact ⟨none, 0, rfl, Hsame.out _ (Fr.refl _ _) he, rd_nil _ _⟩
  | true =>
    rw [hg] at p2
    cases hk : c.closed with
    | true =>
      obtain ⟨rfl, he⟩ := H7.out (by rw [hg, hk]; rfl)
      rw [hk] at p3
      obtain rfl := Hn.out
      clear Hend H7 H0 hg hk
      go_enter Try.func58, Try.ntmps58
      go_wp2_with fail
      go_ret
      exact ⟨none, 0, rfl, Hsame.out _ (Fr.refl _ _) he, rd_nil _ _⟩
    | false =>
      obtain ⟨rfl, rfl⟩ := H0.out (by rw [hg, hk]; rfl)
      rw [hk] at p3
      have Hg := Lib.hid (Hend.out n Hn.out)
      clear Hend H7 H0 hg hk Hsame Hn
      go_enter Try.func58, Try.ntmps58
      go_wp2_with fail
      refine Hg.out.mono ?_
      rintro e w1 ⟨A, cp, rfl, hf, hr⟩
      have Hf := Lib.hid hf; have Hr := Lib.hid hr
      clear hf hr
      go_wp2_with fail
      go_ret
      exact ⟨A, cp, rfl, Hf.out, Hr.out⟩
end Go.Proofs.Ytdemeghhjnehbaa
