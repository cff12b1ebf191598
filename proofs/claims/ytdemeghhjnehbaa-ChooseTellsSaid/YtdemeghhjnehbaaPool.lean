/- Channels that lie apart from each other, by number, and cases on them; what a method does to one of them. -/
import Derived.Test.YtdemeghhjnehbaaChanShut
set_option linter.unusedVariables false
set_option linter.unusedSimpArgs false
namespace Go.Proofs.Ytdemeghhjnehbaa
open Go.RowKit
set_option maxRecDepth 100000
def upd {α : Type} (f : Nat → α) (n : Nat) (x : α) : Nat → α := fun j => if j = n then x else f j
theorem upd_same {α : Type} (f : Nat → α) (n : Nat) (x : α) : upd f n x n = x := if_pos rfl
theorem upd_ne {α : Type} (f : Nat → α) {n j : Nat} (x : α) (h : j ≠ n) : upd f n x j = f j := if_neg h
/-- The channels P, by number, in the blocks B, each in memory of its own within S. -/
def Pool (w : World) (S : Nat → Prop) (B : Nat → Nat) (P : Nat → Option ChS) : Prop :=
  ∃ F : Nat → Nat → Prop, (∀ i c, P i = some c → ChanAt w (F i) (B i) c) ∧ (∀ i k, F i k → S k ∧ k < w.heap.size) ∧ ∀ i j k, F i k → F j k → i = j
section
variable {w w' : World} {S : Nat → Prop} {B : Nat → Nat} {P : Nat → Option ChS}
theorem Pool.fr (h : Pool w S B P) {T : Nat → Prop} (hf : Fr T w w') (hd : ∀ k, S k → T k → False) : Pool w' S B P := by
  obtain ⟨F, h1, h2, h3⟩ := h
  exact ⟨F, fun i c hi => (h1 i c hi).fr hf fun k q => hd k (h2 i k q).1, fun i k q => ⟨(h2 i k q).1, by have := (h2 i k q).2; have := hf.size; omega⟩, h3⟩
theorem Pool.fr0 (h : Pool w S B P) (hf : Fr Nob w w') : Pool w' S B P := h.fr hf fun _ _ q => q
theorem Pool.mono (h : Pool w S B P) {S' : Nat → Prop} (hs : ∀ k, S k → S' k) : Pool w S' B P := by
  obtain ⟨F, h1, h2, h3⟩ := h
  exact ⟨F, h1, fun i k q => ⟨hs k (h2 i k q).1, (h2 i k q).2⟩, h3⟩
theorem Pool.start (w : World) (S : Nat → Prop) (B : Nat → Nat) : Pool w S B (fun _ => none) := ⟨fun _ _ => False, fun i c h => (by cases h), fun i k q => q.elim, fun i j k q => q.elim⟩
theorem Pool.add (h : Pool w S B P) (n : Nat) {T : Nat → Prop} {b : Nat} {c : ChS} (hf : Fr Nob w w') (hc : ChanAt w' T b c) (hT : ∀ k, T k → w.heap.size ≤ k) : Pool w' (And' S w w') (upd B n b) (upd P n (some c)) := by
  obtain ⟨F, h1, h2, h3⟩ := h
  have hz := hf.size
  refine ⟨upd F n T, fun i x hi => ?_, fun i k q => ?_, fun i j k q r => ?_⟩
  · by_cases e : i = n
    · subst e
      rw [upd_same] at hi ⊢; rw [upd_same]
      cases hi
      exact hc
    · rw [upd_ne _ _ e] at hi ⊢; rw [upd_ne _ _ e]
      exact (h1 i x hi).fr0 hf
  · by_cases e : i = n
    · subst e
      rw [upd_same] at q
      exact ⟨.inr ⟨hT k q, hc.lt k q⟩, hc.lt k q⟩
    · rw [upd_ne _ _ e] at q
      exact ⟨.inl (h2 i k q).1, by have := (h2 i k q).2; omega⟩
  · by_cases e : i = n
    · by_cases e2 : j = n
      · omega
      · subst e
        rw [upd_same] at q; rw [upd_ne _ _ e2] at r
        have := hT k q; have := (h2 j k r).2; omega
    · by_cases e2 : j = n
      · subst e2
        rw [upd_same] at r; rw [upd_ne _ _ e] at q
        have := hT k r; have := (h2 i k q).2; omega
      · rw [upd_ne _ _ e] at q; rw [upd_ne _ _ e2] at r
        exact h3 i j k q r
/-- One of them, and what is when it has turned. -/
theorem Pool.at (h : Pool w S B P) {i : Nat} {c : ChS} (hi : P i = some c) : ∃ T, ChanAt w T (B i) c ∧ (∀ k, T k → S k) ∧
    (∀ w' c', Fr T w w' → ChanAt w' T (B i) c' → Pool w' S B (upd P i (some c'))) ∧
    ∀ w' T' c', Fr T w w' → ChanAt w' T' (B i) c' → (∀ k, T' k → T k ∨ w.heap.size ≤ k) → Pool w' (And' S w w') B (upd P i (some c')) := by
  obtain ⟨F, h1, h2, h3⟩ := h
  have key : ∀ w' T' c', Fr (F i) w w' → ChanAt w' T' (B i) c' → (∀ k, T' k → F i k ∨ w.heap.size ≤ k) → ∀ S' : Nat → Prop, (∀ k, S k → S' k) → (∀ k, T' k → S' k) → Pool w' S' B (upd P i (some c')) := by
    intro w' T' c' hf hc hsub S' hs hs'
    have hz := hf.size
    refine ⟨upd F i T', fun j x hj => ?_, fun j k q => ?_, fun j j' k q r => ?_⟩
    · by_cases e : j = i
      · subst e
        rw [upd_same] at hj ⊢
        cases hj
        exact hc
      · rw [upd_ne _ _ e] at hj ⊢
        exact (h1 j x hj).fr hf fun k q r => e (h3 j i k q r)
    · by_cases e : j = i
      · subst e
        rw [upd_same] at q
        exact ⟨hs' k q, hc.lt k q⟩
      · rw [upd_ne _ _ e] at q
        exact ⟨hs k (h2 j k q).1, by have := (h2 j k q).2; omega⟩
    · by_cases e : j = i
      · by_cases e2 : j' = i
        · omega
        · subst e
          rw [upd_same] at q; rw [upd_ne _ _ e2] at r
          rcases hsub k q with q | q
          · exact absurd (h3 _ _ k r q) e2
          · have := (h2 j' k r).2; omega
      · by_cases e2 : j' = i
        · subst e2
          rw [upd_same] at r; rw [upd_ne _ _ e] at q
          rcases hsub k r with r | r
          · exact absurd (h3 _ _ k q r) e
          · have := (h2 j k q).2; omega
        · rw [upd_ne _ _ e] at q; rw [upd_ne _ _ e2] at r
          exact h3 j j' k q r
  refine ⟨F i, h1 i c hi, fun k q => (h2 i k q).1, fun w' c' hf hc => key w' (F i) c' hf hc (fun k q => .inl q) S (fun _ q => q) (fun k q => (h2 i k q).1), fun w' T' c' hf hc hsub => key w' T' c' hf hc hsub _ (fun _ q => .inl q) fun k q => ?_⟩
  rcases hsub k q with q' | q'
  · exact .inl (h2 i k q').1
  · exact .inr ⟨q', hc.lt k q⟩
theorem Pool.few (h : Pool w S B P) {i : Nat} {c : ChS} (hi : P i = some c) : c.rv.length ≤ 100000 ∧ c.sd.length ≤ 100000 := by
  obtain ⟨T, h1, _⟩ := h.at hi; exact h1.few
def PSendP (w : World) (S : Nat → Prop) (B : Nat → Nat) (P : Nat → Option ChS) (d : Bool) (l : List Wk) (n : Nat) (er : Int) (e : Ending) (w' : World) : Prop := ∃ (A : Option Addr) (cp : Nat), e = .returned (.tuple #[.bool d, .slice A n cp, .int .i64 er]) ∧ Fr S w w' ∧ Pool w' S B P ∧ Sl w' (From w.heap.size) 37 5 (.slice A n cp) n (wks l)
theorem pool_send (h : Pool w S B P) (i : Nat) {c c' : ChS} (hi : P i = some c) (v : Int) (d : Bool) (l : List Wk) (n : Nat) (er : Int) (hr : c.sendR v = (d, l, er)) (hs : c.sendS v = c') (hn : l.length = n) :
    Calls Try.prog 14 #[.pointer (some ⟨B i, 0, none⟩), .int .i64 v] w (PSendP w S B (upd P i (some c')) d l n er) := by
  obtain ⟨T, h1, h2, h3, _⟩ := h.at hi
  refine (chan_send h1 v d l n er hr hs hn).mono ?_
  rintro e w' ⟨A, cp, rfl, hf, hc, hsl⟩
  exact ⟨A, cp, rfl, hf.mono fun k _ q => h2 k q, h3 w' c' hf hc, hsl.mono fun k _ q => q.1⟩
def PRecvP (w : World) (S : Nat → Prop) (B : Nat → Nat) (P : Nat → Option ChS) (v : Int) (ok d : Bool) (l : List Wk) (n : Nat) (e : Ending) (w' : World) : Prop := ∃ (A : Option Addr) (cp : Nat), e = .returned (.tuple #[.int .i64 v, .bool ok, .bool d, .slice A n cp]) ∧ Fr S w w' ∧ Pool w' S B P ∧ Sl w' (From w.heap.size) 37 5 (.slice A n cp) n (wks l)
theorem pool_recv (h : Pool w S B P) (i : Nat) {c c' : ChS} (hi : P i = some c) (v : Int) (ok d : Bool) (l : List Wk) (n : Nat) (hr : c.recvR = (v, ok, d, l)) (hs : c.recvS = c') (hn : l.length = n) :
    Calls Try.prog 48 #[.pointer (some ⟨B i, 0, none⟩)] w (PRecvP w S B (upd P i (some c')) v ok d l n) := by
  obtain ⟨T, h1, h2, h3, _⟩ := h.at hi
  refine (chan_recv h1 v ok d l n hr hs hn).mono ?_
  rintro e w' ⟨A, cp, rfl, hf, hc, hsl⟩
  exact ⟨A, cp, rfl, hf.mono fun k _ q => h2 k q, h3 w' c' hf hc, hsl.mono fun k _ q => q.1⟩
theorem pool_wait (h : Pool w S B P) (i : Nat) {c c' : ChS} (hi : P i = some c) (x : Wt) (s : Bool) (r : Int) (hr : c.waitR x s = r) (hs : c.waitS x s = c') (hfew : c.rv.length < 100000 ∧ c.sd.length < 100000) :
    Calls Try.prog 36 #[.pointer (some ⟨B i, 0, none⟩), wtVal x, .bool s] w fun e w' => e = .returned (.int .i64 r) ∧ Fr S w w' ∧ Pool w' (And' S w w') B (upd P i (some c')) := by
  obtain ⟨T, h1, h2, _, h3⟩ := h.at hi
  refine (chan_wait h1 x s r hr hs hfew).mono ?_
  rintro e w' ⟨T', rfl, hf, hc, hsub⟩
  exact ⟨rfl, hf.mono fun k _ q => h2 k q, h3 w' T' c' hf hc hsub⟩
theorem pool_remove (h : Pool w S B P) (i : Nat) {c : ChS} (hi : P i = some c) (t : Int) (n : Nat) (c' : ChS) (hn : c.removeR t = n) (hs : c.removeS t = c') :
    Calls Try.prog 37 #[.pointer (some ⟨B i, 0, none⟩), .int .i64 t] w fun e w' => e = .returned (.int .i64 (n : Int)) ∧ Fr S w w' ∧ Pool w' S B (upd P i (some c')) := by
  obtain ⟨T, h1, h2, h3, _⟩ := h.at hi
  refine (chan_remove h1 t n c' hn hs).mono ?_
  rintro e w' ⟨rfl, hf, hc⟩
  exact ⟨rfl, hf.mono fun k _ q => h2 k q, h3 w' c' hf hc⟩
theorem pool_len (h : Pool w S B P) (i : Nat) {c : ChS} (hi : P i = some c) (n : Nat) (hn : c.lenR = n) : Calls Try.prog 17 #[.pointer (some ⟨B i, 0, none⟩)] w fun e w' => e = .returned (.int .i64 (n : Int)) ∧ w = w' := by
  obtain ⟨T, h1, _⟩ := h.at hi; exact chan_len w T _ c h1 n hn
theorem pool_waiting (h : Pool w S B P) (i : Nat) {c : ChS} (hi : P i = some c) (s : Bool) (n : Nat) (hn : (c.queue s).length = n) : Calls Try.prog 16 #[.pointer (some ⟨B i, 0, none⟩), .bool s] w fun e w' => ∃ (A : Option Addr) (cp : Nat), e = .returned (.slice A n cp) ∧ Fr Nob w w' ∧ Sl w' (From w.heap.size) 63 3 (.slice A n cp) n (waits (c.queue s)) := by
  obtain ⟨T, h1, _⟩ := h.at hi
  refine (chan_waiting w T _ c h1 s _ n rfl hn).mono ?_
  rintro e w' ⟨v, he, hf, hs⟩
  obtain ⟨A, cp, rfl⟩ := hs.slice
  exact ⟨A, cp, he, hf, hs⟩
end
/-- A case: the number of its channel, if it has one; whether it sends; what. -/
abbrev Cs := Option Nat × Bool × Int
def pa (B : Nat → Nat) : Option Nat → Option Addr
  | none => none
  | some i => some ⟨B i, 0, none⟩
abbrev csEn (B : Nat → Nat) (x : Cs) : List Value := [.pointer (pa B x.1), .bool x.2.1, .int .i64 x.2.2]
abbrev css (B : Nat → Nat) (l : List Cs) : List Value := l.flatMap (csEn B)
theorem css_same {B B' : Nat → Nat} : ∀ (l : List Cs), (∀ x ∈ l, ∀ i, x.1 = some i → B' i = B i) → css B' l = css B l
  | [], _ => rfl
  | x :: l, h => by
    have hx : csEn B' x = csEn B x := by
      obtain ⟨o, s, v⟩ := x
      cases o with
      | none => rfl
      | some i => simp only [csEn, pa]; rw [h _ (List.mem_cons_self ..) i rfl]
    simp only [css, List.flatMap_cons]
    rw [hx]
    have := css_same (B := B) (B' := B') l fun y hy => h y (List.mem_cons_of_mem _ hy)
    simp only [css] at this
    rw [this]
def CsOk (P : Nat → Option ChS) (x : Cs) : Prop := ∀ i, x.1 = some i → ∃ c, P i = some c
def canC (P : Nat → Option ChS) (x : Cs) : Bool := match x.1 with
  | none => false
  | some i => match P i with
    | some c => c.canR x.2.1
    | none => false
def muteC (P : Nat → Option ChS) (x : Cs) : Bool := match x.1 with
  | none => false
  | some i => match P i with
    | some c => c.mute
    | none => false
theorem can_nil (w : World) (s : Bool) : Calls Try.prog 40 #[.pointer none, .bool s] w fun e w' => e = .returned (.bool false) ∧ w = w' := by
  go_enter Try.func40, Try.ntmps40
  go_wp2_with fail
  go_ret
  exact ⟨rfl, rfl⟩
theorem mute_nil (w : World) : Calls Try.prog 33 #[.pointer none] w fun e w' => e = .returned (.bool false) ∧ w = w' := by
  go_enter Try.func33, Try.ntmps33
  go_wp2_with fail
  go_ret
  exact ⟨rfl, rfl⟩
theorem wait_nil (w : World) (x : Wt) (s : Bool) : Calls Try.prog 36 #[.pointer none, wtVal x, .bool s] w fun e w' => e = .returned (.int .i64 6) ∧ Fr Nob w w' := by
  go_enter Try.func36, Try.ntmps36
  go_wp2_with fail
  go_ret
  exact ⟨rfl, by first | exact (Fr.refl _ _).alloc _ | exact Fr.refl _ _⟩
theorem queue_nil (w : World) (s : Bool) : Calls Try.prog 41 #[.pointer none, .bool s] w fun e w' => e = .returned (.pointer none) ∧ w = w' := by
  go_enter Try.func41, Try.ntmps41
  go_wp2_with fail
  go_ret
  exact ⟨rfl, rfl⟩
theorem remove_nil (w : World) (t : Int) : Calls Try.prog 37 #[.pointer none, .int .i64 t] w fun e w' => e = .returned (.int .i64 0) ∧ Fr Nob w w' := by
  have Hq := Lib.hid (fun W s => queue_nil W s)
  have Hr := Lib.hid (fun W => wait_remove_nil W t)
  go_enter Try.func37, Try.ntmps37
  go_wp2_with fail
  refine (Hq.out _ _).mono ?_
  rintro e _ ⟨rfl, rfl⟩
  go_wp2_with fail
  refine (Hr.out _).mono ?_
  rintro e w1 ⟨rfl, hf1⟩
  have Hf1 := Lib.hid hf1
  clear hf1
  go_wp2_with fail
  refine (Hq.out _ _).mono ?_
  rintro e _ ⟨rfl, rfl⟩
  go_wp2_with fail
  refine (Hr.out _).mono ?_
  rintro e w2 ⟨rfl, hf2⟩
  have Hf2 := Lib.hid hf2
  clear hf2
  go_wp2_with fail
  go_ret
  exact ⟨rfl, Hf1.out.trans0 Hf2.out⟩
theorem pool_can {w : World} {S : Nat → Prop} {B : Nat → Nat} {P : Nat → Option ChS} (h : Pool w S B P) (x : Cs) (hx : CsOk P x) (r : Bool) (hr : canC P x = r) :
    Calls Try.prog 40 #[.pointer (pa B x.1), .bool x.2.1] w fun e w' => e = .returned (.bool r) ∧ ∃ m, w' = w.drewN m := by
  obtain ⟨o, s, v⟩ := x
  cases o with
  | none =>
    subst hr
    exact (can_nil w s).mono fun e w' ⟨h1, h2⟩ => ⟨h1, 0, h2.symm⟩
  | some i =>
    obtain ⟨c, hc⟩ := hx i rfl
    obtain ⟨T, h1, _⟩ := h.at hc
    exact chan_can h1 s r (by rw [← hr]; simp only [canC, hc])
theorem pool_mute {w : World} {S : Nat → Prop} {B : Nat → Nat} {P : Nat → Option ChS} (h : Pool w S B P) (x : Cs) (hx : CsOk P x) (r : Bool) (hr : muteC P x = r) :
    Calls Try.prog 33 #[.pointer (pa B x.1)] w fun e w' => e = .returned (.bool r) ∧ w = w' := by
  obtain ⟨o, s, v⟩ := x
  cases o with
  | none =>
    subst hr
    exact mute_nil w
  | some i =>
    obtain ⟨c, hc⟩ := hx i rfl
    obtain ⟨T, h1, _⟩ := h.at hc
    exact chan_mute w T _ c h1 r (by rw [← hr]; simp only [muteC, hc])
end Go.Proofs.Ytdemeghhjnehbaa
