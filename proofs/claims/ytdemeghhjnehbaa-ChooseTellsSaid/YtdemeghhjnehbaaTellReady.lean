/- The document's own channels, by number; what a method does to one of them. -/
import Derived.Test.YtdemeghhjnehbaaTellPair
import Derived.Test.YtdemeghhjnehbaaChoosePl
import Derived.Test.YtdemeghhjnehbaaChooseRd
set_option linter.unusedVariables false
set_option linter.unusedSimpArgs false
namespace Go.Proofs.Ytdemeghhjnehbaa
open Go.RowKit
set_option maxRecDepth 100000
/-- The document's channels P, by number, in the blocks M, each in memory of its own within S. -/
def RPool (w : World) (S : Nat → Prop) (M : Nat → Nat) (P : Nat → Option ChS) : Prop :=
  ∃ F : Nat → Nat → Prop, (∀ i c, P i = some c → RefAt w (F i) (M i) c) ∧ (∀ i k, F i k → S k ∧ k < w.heap.size) ∧ ∀ i j k, F i k → F j k → i = j
section
variable {w w' : World} {S : Nat → Prop} {M : Nat → Nat} {P : Nat → Option ChS}
theorem RPool.fr (h : RPool w S M P) {T : Nat → Prop} (hf : Fr T w w') (hd : ∀ k, S k → T k → False) : RPool w' S M P := by
  obtain ⟨F, h1, h2, h3⟩ := h
  exact ⟨F, fun i c hi => (h1 i c hi).fr hf fun k q => hd k (h2 i k q).1, fun i k q => ⟨(h2 i k q).1, by have := (h2 i k q).2; have := hf.size; omega⟩, h3⟩
theorem RPool.fr0 (h : RPool w S M P) (hf : Fr Nob w w') : RPool w' S M P := h.fr hf fun _ _ q => q
theorem RPool.mono (h : RPool w S M P) {S' : Nat → Prop} (hs : ∀ k, S k → S' k) : RPool w S' M P := by
  obtain ⟨F, h1, h2, h3⟩ := h
  exact ⟨F, h1, fun i k q => ⟨hs k (h2 i k q).1, (h2 i k q).2⟩, h3⟩
theorem RPool.start (w : World) (S : Nat → Prop) (M : Nat → Nat) : RPool w S M (fun _ => none) := ⟨fun _ _ => False, fun i c h => (by cases h), fun i k q => q.elim, fun i j k q => q.elim⟩
theorem RPool.add (h : RPool w S M P) (n : Nat) {T : Nat → Prop} {b : Nat} {c : ChS} (hf : Fr Nob w w') (hc : RefAt w' T b c) (hT : ∀ k, T k → w.heap.size ≤ k) : RPool w' (And' S w w') (upd M n b) (upd P n (some c)) := by
  obtain ⟨F, h1, h2, h3⟩ := h
  have hz := hf.size
  refine ⟨upd F n T, fun i x hi => ?_, fun i k q => ?_, fun i j k q r => ?_⟩
  · by_cases e : i = n
    · subst e
      rw [upd_same] at hi ⊢; rw [upd_same]
      cases hi
      exact hc
    · rw [upd_ne _ _ e] at hi ⊢; rw [upd_ne _ _ e]
      exact (h1 i x hi).fr0 hf
  · by_cases e : i = n
    · subst e
      rw [upd_same] at q
      exact ⟨.inr ⟨hT k q, hc.lt k q⟩, hc.lt k q⟩
    · rw [upd_ne _ _ e] at q
      exact ⟨.inl (h2 i k q).1, by have := (h2 i k q).2; omega⟩
  · by_cases e : i = n
    · by_cases e2 : j = n
      · omega
      · subst e
        rw [upd_same] at q; rw [upd_ne _ _ e2] at r
        have := hT k q; have := (h2 j k r).2; omega
    · by_cases e2 : j = n
      · subst e2
        rw [upd_same] at r; rw [upd_ne _ _ e] at q
        have := hT k r; have := (h2 i k q).2; omega
      · rw [upd_ne _ _ e] at q; rw [upd_ne _ _ e2] at r
        exact h3 i j k q r
/-- An act on one of them: what becomes of all. -/
def RTo (w : World) (S : Nat → Prop) (M : Nat → Nat) (P : Nat → Option ChS) (w' : World) : Prop := Fr S w w' ∧ ∃ S' : Nat → Prop, RPool w' S' M P ∧ ∀ k, S' k → S k ∨ w.heap.size ≤ k
theorem RTo.same (h : RPool w S M P) (hf : Fr Nob w w') : RTo w S M P w' := ⟨hf.none, S, h.fr0 hf, fun _ q => .inl q⟩
theorem RTo.trans {P1 P2 : Nat → Option ChS} {w1 w2 : World} (h : RTo w S M P1 w1) (h2 : ∀ S1, RPool w1 S1 M P1 → RTo w1 S1 M P2 w2) : RTo w S M P2 w2 := by
  obtain ⟨hf, S1, hp, hs⟩ := h
  obtain ⟨hf2, S2, hp2, hs2⟩ := h2 S1 hp
  have hz := hf.size
  refine ⟨hf.trans hf2 fun k hk q => ?_, S2, hp2, fun k q => ?_⟩
  · rcases hs k q with r | r
    · exact r
    · omega
  · rcases hs2 k q with r | r
    · exact hs k r
    · exact .inr (by omega)
theorem RTo.out {w1 : World} (h : RTo w S M P w1) {w2 : World} (hf : Fr Nob w1 w2) : RTo w S M P w2 := h.trans fun S1 hp => RTo.same hp hf
theorem RPool.at (h : RPool w S M P) {i : Nat} {c : ChS} (hi : P i = some c) : ∃ G, RefAt w G (M i) c ∧ (∀ k, G k → S k) ∧ ∀ w' c', RfTo w G (M i) c' w' → RTo w S M (upd P i (some c')) w' := by
  obtain ⟨F, h1, h2, h3⟩ := h
  refine ⟨F i, h1 i c hi, fun k q => (h2 i k q).1, fun w' c' ht => ?_⟩
  obtain ⟨hf, T', hr, hsub⟩ := ht
  have hz := hf.size
  refine ⟨hf.mono fun k _ q => (h2 i k q).1, fun k => S k ∨ w.heap.size ≤ k, ⟨upd F i T', fun j x hj => ?_, fun j k q => ?_, fun j j' k q r => ?_⟩, fun _ q => q⟩
  · by_cases e : j = i
    · subst e
      rw [upd_same] at hj ⊢
      cases hj
      exact hr
    · rw [upd_ne _ _ e] at hj ⊢
      exact (h1 j x hj).fr hf fun k q r => e (h3 j i k q r)
  · by_cases e : j = i
    · subst e
      rw [upd_same] at q
      refine ⟨?_, hr.lt k q⟩
      rcases hsub k q with r | r
      · exact .inl (h2 _ k r).1
      · exact .inr r
    · rw [upd_ne _ _ e] at q
      exact ⟨.inl (h2 j k q).1, by have := (h2 j k q).2; omega⟩
  · by_cases e : j = i
    · by_cases e2 : j' = i
      · omega
      · subst e
        rw [upd_same] at q; rw [upd_ne _ _ e2] at r
        rcases hsub k q with q | q
        · exact absurd (h3 _ _ k r q) e2
        · have := (h2 j' k r).2; omega
    · by_cases e2 : j' = i
      · subst e2
        rw [upd_same] at r; rw [upd_ne _ _ e] at q
        rcases hsub k r with r | r
        · exact absurd (h3 _ _ k q r) e
        · have := (h2 j k q).2; omega
      · rw [upd_ne _ _ e] at q; rw [upd_ne _ _ e2] at r
        exact h3 j j' k q r
theorem rpool_send (h : RPool w S M P) (i : Nat) {c c' : ChS} (hi : P i = some c) (hfew : c.Few) (v : Int) (d : Bool) (l : List Wk) (n : Nat) (er : Int) (hr : c.sendR v = (d, l, er)) (hs : c.sendS v = c') (hn : l.length = n) :
    Calls Try.prog 47 #[.pointer (some ⟨M i, 0, none⟩), .int .i64 v] w fun e w' => ∃ (A : Option Addr) (cp : Nat), e = .returned (.tuple #[.bool d, .slice A n cp, .int .i64 er]) ∧ RTo w S M (upd P i (some c')) w' ∧ Rd w' 5 (.slice A n cp) n (wks l) := by
  obtain ⟨G, h1, h2, h3⟩ := h.at hi
  refine (ref_send h1 hfew v d l n er hr hs hn).mono ?_
  rintro e w' ⟨A, cp, rfl, ht, hrd⟩
  exact ⟨A, cp, rfl, h3 w' c' ht, hrd⟩
theorem rpool_recv (h : RPool w S M P) (i : Nat) {c c' : ChS} (hi : P i = some c) (hfew : c.Few) (v : Int) (ok d : Bool) (l : List Wk) (n : Nat) (hr : c.recvR = (v, ok, d, l)) (hs : c.recvS = c') (hn : l.length = n) :
    Calls Try.prog 49 #[.pointer (some ⟨M i, 0, none⟩)] w fun e w' => ∃ (A : Option Addr) (cp : Nat), e = .returned (.tuple #[.int .i64 v, .bool ok, .bool d, .slice A n cp]) ∧ RTo w S M (upd P i (some c')) w' ∧ Rd w' 5 (.slice A n cp) n (wks l) := by
  obtain ⟨G, h1, h2, h3⟩ := h.at hi
  refine (ref_recv h1 hfew v ok d l n hr hs hn).mono ?_
  rintro e w' ⟨A, cp, rfl, ht, hrd⟩
  exact ⟨A, cp, rfl, h3 w' c' ht, hrd⟩
theorem rpool_wait (h : RPool w S M P) (i : Nat) {c c' : ChS} (hi : P i = some c) (hfew : c.Few) (x : Wt) (s : Bool) (r : Int) (hr : c.waitR x s = r) (hs : c.waitS x s = c') :
    Calls Try.prog 51 #[.pointer (some ⟨M i, 0, none⟩), wtVal x, .bool s] w fun e w' => e = .returned (.int .i64 r) ∧ RTo w S M (upd P i (some c')) w' := by
  obtain ⟨G, h1, h2, h3⟩ := h.at hi
  refine (ref_wait h1 hfew x s r hr hs).mono ?_
  rintro e w' ⟨rfl, ht⟩
  exact ⟨rfl, h3 w' c' ht⟩
theorem rpool_remove (h : RPool w S M P) (i : Nat) {c : ChS} (hi : P i = some c) (hfew : c.Few) (t : Int) (n : Nat) (c' : ChS) (hn : c.removeR t = n) (hs : c.removeS t = c') :
    Calls Try.prog 52 #[.pointer (some ⟨M i, 0, none⟩), .int .i64 t] w fun e w' => e = .returned (.int .i64 (n : Int)) ∧ RTo w S M (upd P i (some c')) w' := by
  obtain ⟨G, h1, h2, h3⟩ := h.at hi
  refine (ref_remove h1 hfew t n c' hn hs).mono ?_
  rintro e w' ⟨rfl, ht⟩
  exact ⟨rfl, h3 w' c' ht⟩
end
theorem rcan_nil (w : World) (s : Bool) : Calls Try.prog 59 #[.pointer none, .bool s] w fun e w' => e = .returned (.bool false) ∧ w = w' := by
  go_enter Try.func59, Try.ntmps59
  go_wp2_with fail
  go_ret
  exact ⟨rfl, rfl⟩
theorem rpool_can {w : World} {S : Nat → Prop} {M : Nat → Nat} {P : Nat → Option ChS} (h : RPool w S M P) (x : Cs) (hx : CsOk P x) (r : Bool) (hr : canC P x = r) :
    Calls Try.prog 59 #[.pointer (pa M x.1), .bool x.2.1] w fun e w' => e = .returned (.bool r) ∧ ∃ m, w' = w.drewN m := by
  obtain ⟨o, s, v⟩ := x
  cases o with
  | none =>
    refine (rcan_nil w s).mono ?_
    rintro e w' ⟨rfl, rfl⟩
    exact ⟨by rw [← hr]; rfl, 0, rfl⟩
  | some i =>
    obtain ⟨c, hc⟩ := hx i rfl
    obtain ⟨T, h1, _⟩ := h.at hc
    refine ref_can h1 s r ?_
    rw [← hr]; simp only [canC, hc]
/-- The document's cases, as they are read. -/
theorem rcs_step {P : Nat → Option ChS} (h : ∀ i c, P i = some c → c.Few) (i : Nat) (c : ChS) (hi : P i = some c) : c.Few := h i c hi
open Go.RowKit
set_option maxRecDepth 100000
set_option maxHeartbeats 2000000 in
theorem tell_ready {w : World} {S : Nat → Prop} {M : Nat → Nat} {P : Nat → Option ChS} (h : RPool w S M P) (v : Value) (l : List Cs) (n : Nat) (hn : l.length = n) (hrd : Rd w 3 v n (css M l)) (hok : ∀ x ∈ l, CsOk P x)
    (f : Nat → Bool) (hf : ∀ k x, l[k]? = some x → canC P x = f k) (hn2 : n ≤ 1000) (m : Nat) (hm : (rdy f n).length = m) :
    Calls Try.prog 23 #[v] w fun e w' => ∃ (A : Option Addr) (cp : Nat), e = .returned (.slice A m cp) ∧ Fr Nob w w' ∧ Sl w' (From w.heap.size) 3 1 (.slice A m cp) m (ints (rdy f n)) := by
  obtain ⟨A, c, rfl, hc1, hc2, hA⟩ := cs_in hn hrd
  have hcan : ∀ W x k, Fr Nob w W → l[k]? = some x → Calls Try.prog 59 #[.pointer (pa M x.1), .bool x.2.1] W fun e w' => e = .returned (.bool (f k)) ∧ ∃ m, w' = W.drewN m := fun W x k hW hx =>
    rpool_can (h.fr0 hW) x (hok x (List.mem_of_getElem? hx)) _ (hf k x hx)
  have HA := Lib.hid hA; have Hcan := Lib.hid hcan; have Hm := Lib.hid hm
  clear hrd hA hok hf hn h hcan hm
  unfold maxLen at hc2
  go_enter Try.func23, Try.ntmps23
  go_wp2_with fail
  go_loopw [3, 4] (fun out i wr => ∃ (k r : Nat) (A' : Option Addr) (c' : Nat), i = .int .i64 k ∧ k ≤ n ∧ out = .slice A' r c' ∧ Hid ((rdy f k).length = r) ∧ r ≤ k ∧ Hid (Fr Nob w wr) ∧ Hid (Sl wr (From w.heap.size) 3 1 (.slice A' r c') r (ints (rdy f k)))) (fun _ i _ => n - (intOf i).toNat)
  case atStart => exact ⟨0, 0, none, 0, rfl, Nat.zero_le _, rfl, rfl, Nat.zero_le _, Fr.refl _ _, Sl.nil _ _ _ _⟩
  case round =>
    obtain ⟨wo, rfl⟩ : ∃ wo : World, wo = wr := ⟨_, rfl⟩
    obtain ⟨k, r, A', c', rfl, hk, rfl, Hr, hrk, Hf, Hs⟩ := hrel
    by_cases hlt : k < n
    · obtain ⟨x, g, o, hx, rfl, x0, x1, x2⟩ := HA.out k hlt
      have e0 := Hf.out.cell (p := ⟨g, o + k * 3, none⟩) id x0
      have e1 := Hf.out.cell (p := ⟨g, o + k * 3 + 1, none⟩) id x1
      have hki : (k : Int) < n := by omega
      have Hc := Lib.hid (fun W hW => Hcan.out W x k hW hx)
      clear x0 x1 x2 hx
      obtain ⟨p, s, y⟩ := x
      dsimp only at e0 e1 Hc
      generalize pa M p = pp at *
      go_wp2_with fail
      go_quiet ((go_at_call 59; exact Calls.quiet_of (Hc.out _ (Hf.out.trans0 ((Fr.refl Nob wo).drewN _)))))
      obtain ⟨w2, hw2⟩ : ∃ w2, w2 = wo.drewN nq := ⟨_, rfl⟩
      rw [← hw2]
      have hf2 := Fr.ofDrew ⟨_, hw2⟩
      have Hf2 := Lib.hid (Hf.out.trans0 hf2)
      have Hs2 := Lib.hid (Hs.out.fr hf2 fun _ _ q => q)
      clear hw2 hf2 Hf Hs e0 e1 Hc
      cases hfk : f k with
      | true =>
        have Hrs := Lib.hid (rdy_yes hfk)
        go_wp2_with (at_builtin; (refine wpList_append1 _ rfl _ _ _ rfl (From w.heap.size) 3 _ 1 8 Try.underlying42 Try.info_int' rfl (by omega) (.slice A' r c') r (ints (rdy f k)) [.int .i64 (k : Int)] rfl Hs2.out rfl rfl rfl (by omega) (by omega) ?_; intro v5 w5 hs5 hf5 hz5))
        obtain ⟨A5, c5, rfl⟩ := hs5.slice
        have Hs5 : Hid (Sl w5 (From w.heap.size) 3 1 (.slice A5 (r + 1) c5) (r + 1) (ints (rdy f (k + 1)))) := by
          rw [Hrs.out, show ints (rdy f k ++ [(k : Int)]) = ints (rdy f k) ++ [.int .i64 (k : Int)] by simp [ints]]
          refine hs5.mono fun j hj q => ?_
          rcases q with q | q
          · exact q
          · have := Hf2.out.size; unfold From; omega
        have Hf5 : Hid (Fr Nob w w5) := Hf2.out.trans hf5 fun j hj q => by unfold From at q; omega
        have Hr5 : Hid ((rdy f (k + 1)).length = r + 1) := by rw [Hrs.out, List.length_append, Hr.out]; exact rfl
        clear hs5 hf5 hz5 Hrs hfk
        go_wp2_with fail
        go_roundw
        case rel => exact ⟨k + 1, r + 1, A5, c5, by go_num, by omega, rfl, Hr5, by omega, Hf5, Hs5⟩
        case measure => simp [intOf]; omega
      | false =>
        have Hrs := Lib.hid (rdy_no hfk)
        have Hs5 : Hid (Sl w2 (From w.heap.size) 3 1 (.slice A' r c') r (ints (rdy f (k + 1)))) := by rw [Hrs.out]; exact Hs2.out
        have Hr5 : Hid ((rdy f (k + 1)).length = r) := by rw [Hrs.out]; exact Hr.out
        clear Hrs hfk
        go_wp2_with fail
        go_roundw
        case rel => exact ⟨k + 1, r, A', c', by go_num, by omega, rfl, Hr5, by omega, Hf2, Hs5⟩
        case measure => simp [intOf]; omega
    · obtain rfl : k = n := by omega
      have hrm : r = m := by rw [← Hr.out, Hm.out]
      subst hrm
      go_wp2_with fail
      go_ret
      exact ⟨A', c', rfl, Hf.out, Hs.out⟩
def RFew (P : Nat → Option ChS) : Prop := ∀ i c, P i = some c → c.Few
def QFew (P : Nat → Option ChS) : Prop := ∀ i c, P i = some c → c.q.length ≤ 1000
theorem QFew.step {P : Nat → Option ChS} (h : QFew P) (f : ChS → ChS) (hf : ∀ c : ChS, (f c).q = c.q) (o : Option Nat) : QFew (stepF P f o) := by
  cases o with
  | none => exact h
  | some i =>
    unfold stepF
    cases hp : P i with
    | none => simp only [hp]; exact h
    | some c =>
      simp only [hp]
      intro j d hj
      by_cases e : j = i
      · subst e; rw [upd_same] at hj; cases hj; rw [hf]; exact h j c hp
      · rw [upd_ne _ _ e] at hj; exact h j d hj
theorem wait_q (c : ChS) (x : Wt) (s : Bool) : (c.waitS x s).q = c.q := by
  unfold ChS.waitS; split
  · split <;> rfl
  · rfl
theorem QFew.park (t : Int) : ∀ (l : List Cs) (k : Nat) (P : Nat → Option ChS), QFew P → QFew (parkF t l k P)
  | [], _, _, h => h
  | y :: l, k, P, h => QFew.park t l (k + 1) _ (h.step _ (fun c => wait_q c _ _) _)
theorem QFew.leave (t : Int) : ∀ (l : List Cs) (P : Nat → Option ChS), QFew P → QFew (leaveF t l P)
  | [], _, h => h
  | y :: l, P, h => QFew.leave t l _ (h.step (fun c => c.removeS t) (fun c => rfl) _)
theorem rfew {P : Nat → Option ChS} {m : Nat} (h1 : Few P m) (h2 : QFew P) (hm : m ≤ 1000) : RFew P := fun i c hi => ⟨by have := (h1 i c hi).1; omega, by have := (h1 i c hi).2; omega, h2 i c hi⟩
set_option maxHeartbeats 2000000 in
theorem tell_leave {w : World} {S : Nat → Prop} {M : Nat → Nat} {P : Nat → Option ChS} (h : RPool w S M P) (v : Value) (l : List Cs) (n : Nat) (hn : l.length = n) (T : Nat → Prop) (hsl : Sl w T 113 3 v n (css M l)) (hst : ∀ k, S k → T k → False) (hTw : ∀ k, T k → k < w.heap.size) (hok : ∀ x ∈ l, CsOk P x)
    (hn2 : n ≤ 1000) (hfew : Few P 1000) (hqf : QFew P) (t : Int) (r : Nat) (hr : leaveN t l P = r) :
    Calls Try.prog 27 #[v, .int .i64 t] w fun e w' => e = .returned (.int .i64 (r : Int)) ∧ RTo w S M (leaveF t l P) w' := by
  have hrd := hsl.rd
  obtain ⟨A, c, rfl, hc1, hc2, hA⟩ := cs_in hn hrd
  have hT : ∀ W, (∃ S1, Fr S1 w W ∧ ∀ k, S1 k → T k → False) → Sl W T 113 3 (.slice A n c) n (css M l) := fun W ⟨S1, hW, hd⟩ => hsl.fr hW fun k q q' => hd k q' q
  have hA2 := fun W hW => cs_in hn (hT W hW).rd
  have hend : l.take n = l := by rw [← hn, List.take_length]
  have hrem : ∀ W k x, RTo w S M (leaveF t (l.take k) P) W → l[k]? = some x → k < n → ∃ q : Nat, leaveN t (l.take (k + 1)) P = leaveN t (l.take k) P + q ∧ q ≤ 2000 ∧ leaveN t (l.take k) P ≤ 1000 * 2000 ∧
      Calls Try.prog 52 #[.pointer (pa M x.1), .int .i64 t] W fun e w' => e = .returned (.int .i64 (q : Int)) ∧ RTo w S M (leaveF t (l.take (k + 1)) P) w' := fun W k x hW hx hk => by
    have hs := take_snocC l k x hx
    have hlf := Few.leave t 1000 (l.take k) P hfew
    have hq' := leaveC_le (t := t) hlf x.1
    have hle := leaveN_le (t := t) (l.take k) P hfew
    have hlt : (l.take k).length ≤ 1000 := by rw [List.length_take]; omega
    have hle2 := Nat.mul_le_mul_right (1000 + 1000) hlt
    refine ⟨leaveC t (leaveF t (l.take k) P) x.1, by rw [hs, leaveN_snoc], by omega, by omega, ?_⟩
    rw [hs, leaveF_snoc]
    have hox := CsOk.leave t (l.take k) P (hok x (List.mem_of_getElem? hx))
    obtain ⟨o, s, y⟩ := x
    cases o with
    | none =>
      exact (rremove_nil W t).mono fun e w' ⟨h1, h2⟩ => ⟨h1, hW.out h2⟩
    | some i =>
      obtain ⟨d, hd⟩ := hox i rfl
      obtain ⟨hWf, S1, hp, hsub⟩ := id hW
      have := rpool_remove hp i hd (rfew hlf (QFew.leave t (l.take k) P hqf) (by omega) i d hd) t _ _ rfl rfl
      simp only [leaveC, stepF, hd]
      refine this.mono fun e w' ⟨h1, h2⟩ => ⟨h1, ?_⟩
      have hz := hWf.size
      obtain ⟨g1, S2, g2, g3⟩ := h2
      refine ⟨hWf.trans g1 fun k hk q => ?_, S2, g2, fun k q => ?_⟩
      · rcases hsub k q with r | r
        · exact r
        · omega
      · rcases g3 k q with r | r
        · exact hsub k r
        · exact .inr (by omega)
  have hfr : ∀ W Q, RTo w S M Q W → ∃ S1, Fr S1 w W ∧ ∀ k, S1 k → T k → False := fun W Q hW => ⟨S, hW.1, hst⟩
  have HA := Lib.hid hA2; have Hrem := Lib.hid hrem; have Hr := Lib.hid hr; have Hend := Lib.hid hend; have Hp := Lib.hid h; have Hfr := Lib.hid hfr
  clear hrd hA hok hfew hn h hrem hr hsl hst hT hA2 hend hfr hqf hTw
  unfold maxLen at hc2
  go_enter Try.func27, Try.ntmps27
  go_wp2_with fail
  go_loopw [5, 6] (fun c i wr => ∃ (k r : Nat), i = .int .i64 k ∧ k ≤ n ∧ c = .int .i64 r ∧ Hid (leaveN t (l.take k) P = r) ∧ r ≤ 3000000 ∧ Hid (RTo w S M (leaveF t (l.take k) P) wr)) (fun _ i _ => n - (intOf i).toNat)
  case atStart => exact ⟨0, 0, rfl, Nat.zero_le _, rfl, rfl, Nat.zero_le _, Lib.hid (RTo.same Hp.out (Fr.refl _ _))⟩
  case round =>
    obtain ⟨wo, rfl⟩ : ∃ wo : World, wo = wr := ⟨_, rfl⟩
    obtain ⟨k, q0, rfl, hk, rfl, Hq, hql, Ht⟩ := hrel
    by_cases hlt : k < n
    · obtain ⟨A1, cA1, hv, _, _, hA1⟩ := HA.out wo (Hfr.out _ _ Ht.out)
      cases hv
      obtain ⟨x, g, o, hx, rfl, x0, x1, x2⟩ := hA1 k hlt
      obtain ⟨q, e1, hq2, hq3, hcall⟩ := Hrem.out wo k x Ht.out hx hlt
      have hki : (k : Int) < n := by omega
      have hsum : IntKind.i64.wrap ((q0 : Int) + (q : Int)) = ((q0 + q : Nat) : Int) := by rw [IntWalk.i64_in _ (by omega)]; omega
      have Hc := Lib.hid hcall; have He1 := Lib.hid e1
      have hq4 : q0 + q ≤ 3000000 := by have := Hq.out; omega
      clear x1 x2 hx hcall e1 hA1
      obtain ⟨p, s, y⟩ := x
      dsimp only at x0 Hc
      generalize pa M p = pp at *
      go_wp2_with fail
      refine Hc.out.mono ?_
      rintro e w2 ⟨rfl, ht2⟩
      have Ht2 := Lib.hid ht2
      have Hq5 : Hid (leaveN t (l.take (k + 1)) P = q0 + q) := Lib.hid (by rw [He1.out, Hq.out])
      clear ht2 x0 Ht Hq Hc He1
      go_wp2_with fail
      go_roundw
      case rel => exact ⟨k + 1, q0 + q, by go_num, by omega, by first | rfl | go_num, Hq5, hq4, Ht2⟩
      case measure => simp [intOf]; omega
    · obtain rfl : k = n := by omega
      have Hfin : Hid (q0 = r) := Lib.hid (by rw [← Hq.out, Hend.out]; exact Hr.out)
      have Ht2 : Hid (RTo w S M (leaveF t l P) wo) := Lib.hid (by have := Ht.out; rwa [Hend.out] at this)
      go_wp2_with fail
      go_ret
      exact ⟨by simp [Hfin.out], Ht2.out⟩
end Go.Proofs.Ytdemeghhjnehbaa
