/- What Do of package choose does: refused, on a mute channel, one of those ready, the default, or all wait. -/
import Derived.Test.YtdemeghhjnehbaaChooseOneC
set_option linter.unusedVariables false
set_option linter.unusedSimpArgs false
namespace Go.Proofs.Ytdemeghhjnehbaa
open Go.RowKit
set_option maxRecDepth 100000
/-- The closure of Do. -/
theorem do_test {w : World} {S : Nat → Prop} {B : Nat → Nat} {P : Nat → Option ChS} (h : Pool w S B P) (x : Cs) (hx : CsOk P x) (r : Bool) (hr : (x.2.1 && muteC P x) = r) :
    Calls Try.prog 32 #[.agg #[.pointer (pa B x.1), .bool x.2.1, .int .i64 x.2.2]] w fun e w' => e = .returned (.bool r) ∧ Fr Nob w w' := by
  have Hm := Lib.hid (fun W (hf : Fr Nob w W) => pool_mute (h.fr0 hf) x hx _ rfl)
  generalize muteC P x = mu at *
  subst hr
  clear h hx
  obtain ⟨o, s, y⟩ := x
  dsimp only at Hm ⊢
  generalize pa B o = pp at *
  cases s with
  | false =>
    go_enter Try.func32, Try.ntmps32
    go_wp2_with fail
    go_ret
    exact ⟨by first | rfl | simp, (Fr.refl _ _).alloc _⟩
  | true =>
    go_enter Try.func32, Try.ntmps32
    go_wp2_with fail
    refine (Hm.out _ ((Fr.refl _ _).alloc _)).mono ?_
    rintro e _ ⟨rfl, rfl⟩
    go_wp2_with fail
    go_ret
    exact ⟨by first | rfl | simp, (Fr.refl _ _).alloc _⟩
def IdxP (f : Nat → Bool) (n : Nat) (w : World) (e : Ending) (w' : World) : Prop := ∃ r : Int, e = .returned (.int .i64 r) ∧ Fr Nob w w' ∧ ((r = -1 ∧ ∀ j, j < n → f j = false) ∨ ∃ k : Nat, r = k ∧ k < n ∧ f k = true ∧ ∀ j, j < k → f j = false)
set_option maxHeartbeats 1000000 in
theorem do_index {w : World} {S : Nat → Prop} {B : Nat → Nat} {P : Nat → Option ChS} (h : Pool w S B P) (v : Value) (l : List Cs) (n : Nat) (hn : l.length = n) (hrd : Rd w 3 v n (css B l)) (hok : ∀ x ∈ l, CsOk P x)
    (f : Nat → Bool) (hf : ∀ k x, l[k]? = some x → (x.2.1 && muteC P x) = f k) (hn2 : n ≤ 1000) :
    Calls Try.prog 31 #[v, .func (.func 32) #[] #[]] w (IdxP f n w) := by
  obtain ⟨A, c, rfl, hc1, hc2, hA⟩ := cs_in hn hrd
  have ht : ∀ W x k, Fr Nob w W → l[k]? = some x → Calls Try.prog 32 #[.agg #[.pointer (pa B x.1), .bool x.2.1, .int .i64 x.2.2]] W fun e w' => e = .returned (.bool (f k)) ∧ Fr Nob W w' := fun W x k hW hx =>
    do_test (h.fr0 hW) x (hok x (List.mem_of_getElem? hx)) _ (hf k x hx)
  have HA := Lib.hid hA; have Ht := Lib.hid ht
  clear hrd hA hok hf hn h ht
  unfold maxLen at hc2
  go_enter Try.func31, Try.ntmps31
  go_wp2_with fail
  go_loopw [8] (fun i wr => ∃ k : Nat, k ≤ n ∧ i = .int .i64 k ∧ Hid (Fr Nob w wr) ∧ Hid (∀ j, j < k → f j = false)) (fun i _ => n - (intOf i).toNat)
  case atStart => exact ⟨0, Nat.zero_le _, rfl, Lib.hid (Fr.refl _ _), Lib.hid fun j hj => by omega⟩
  case round =>
    obtain ⟨k, hk, rfl, Hfr, Hall⟩ := hrel
    by_cases hlt : k < n
    · obtain ⟨x, g, o, hx, rfl, x0, x1, x2⟩ := HA.out k hlt
      have e0 := Hfr.out.cell (p := ⟨g, o + k * 3, none⟩) id x0
      have e1 := Hfr.out.cell (p := ⟨g, o + k * 3 + 1, none⟩) id x1
      have e2 := Hfr.out.cell (p := ⟨g, o + k * 3 + 2, none⟩) id x2
      have hki : (k : Int) < n := by omega
      have Hc := Lib.hid (fun W hW => Ht.out W x k hW hx)
      clear x0 x1 x2 hx
      obtain ⟨p, s, y⟩ := x
      dsimp only at e0 e1 e2 Hc
      generalize pa B p = pp at *
      cases hfk : f k with
      | false =>
        rw [hfk] at Hc
        have Hn2 : Hid (∀ j, j < k + 1 → f j = false) := fun j hj => by
          by_cases e : j = k
          · subst e; exact hfk
          · exact Hall.out j (by omega)
        clear hfk
        go_wp2_with fail
        refine (Hc.out _ (by first | exact Hfr.out | exact Hfr.out.alloc _)).mono ?_
        rintro e w2 ⟨rfl, hf2⟩
        have Hf2 := Lib.hid (Hfr.out.trans0 hf2)
        clear hf2
        go_wp2_with fail
        go_roundw
        case rel => exact ⟨k + 1, by omega, by go_num, Hf2, Hn2⟩
        case measure => simp [intOf]; omega
      | true =>
        rw [hfk] at Hc
        have Hfk := Lib.hid hfk
        clear hfk
        go_wp2_with fail
        refine (Hc.out _ (by first | exact Hfr.out | exact Hfr.out.alloc _)).mono ?_
        rintro e w2 ⟨rfl, hf2⟩
        have Hf2 := Lib.hid (Hfr.out.trans0 hf2)
        clear hf2
        go_wp2_with fail
        go_ret
        exact ⟨k, rfl, Hf2.out, .inr ⟨k, rfl, hlt, Hfk.out, Hall.out⟩⟩
    · obtain rfl : k = n := by omega
      go_wp2_with fail
      go_ret
      exact ⟨-1, rfl, Hfr.out, .inl ⟨rfl, Hall.out⟩⟩
end Go.Proofs.Ytdemeghhjnehbaa
