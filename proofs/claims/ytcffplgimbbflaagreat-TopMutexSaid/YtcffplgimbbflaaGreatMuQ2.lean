/- TopMutex answers true whatever its inputs are: no condition. -/
import Derived.Test.YtcffplgimbbflaaGreatMuQ1
set_option linter.unusedVariables false
set_option linter.unusedSimpArgs false
namespace Go.Proofs.YtcffplgimbbflaaGreat
open Go.RowKit
set_option maxRecDepth 100000
section
variable {n t m : Nat} {f : Nat → MT} {line b : List Int} {q r s : List Wt} {k : Nat} {ev : List Ev} {T : List Int} {N dr : Int} {i : Nat}
/-- Another task starts. -/
theorem mm_go (h : MI n t m f line b q r s T) (hn1 : 1 ≤ n) (hn : n ≤ 6) (ht : t ≤ 4) (hk : k < 10000) (hid : line.getD (N % (line.length : Int)).toNat 0 = ((0 : Nat) : Int)) (hl : line ≠ []) (hm : (f 0).md = 0) (hqb : q ≠ [] → b = []) (hp : (f 0).pc < n + 3) : Nxt n t m f line b q r s k ev T N dr := by
  have hlt := h.lt (i := 0) (by omega) (by omega)
  have hro := h.rg
  have hpg : pgm n t 0 = pM n := rfl
  obtain ⟨c1, c2, c3, c4, c5⟩ := h.few hn
  have hoff := h.off (i := 0) hm (by omega)
  have hlen := h.lens
  obtain ⟨p1, p2, p3⟩ := h.mn
  have hmeq := h.m_eq
  have hmn : m = (f 0).pc - 2 ∧ m ≤ n := by omega
  have hm1 : 1 ≤ m := by omega
  have hy : (pgm n t 0)[(f 0).pc]? = some (ins 8 7 1 0) := pM_go p1 hp
  obtain ⟨w1, w2, w3, w4⟩ := h.wk m hm1 hmn.2
  have hm5 : (f m).md = 5 := w2.2 (Nat.le_refl _)
  have hmp : (f m).pc = 0 := by obtain ⟨_, e⟩ := w1; omega
  have hgo := a_go (ts := tsM n t m f) (line := line) (b := b) (q := q) (r := r) (s := s) (k := k) (dr := dr) (i := 0) (x := (f 0).r) (A := 7) rfl hro.1 (by rw [tsM_len]; omega) (by rw [tsM_len]; intro e; have := (h.il.mem.1 e).2; omega) (by omega)
  rw [tsM_len, show (tkR 1 ((0 : Nat) : Int) (f 0).r, false, []) = tkM n t m ⟨0, 0, (f 0).r⟩ by rw [← tk_run, show pgI m = 1 by unfold pgI; rw [if_neg (by omega)]]; rfl, tsM_snoc rfl] at hgo
  have hst := mw_act (P := PMu n t) (ev := ev) (r := r) (s := s) (b := b) (q := q) (k := k) (dr := dr) (y := ins 8 7 1 0) hid hl (h.get (i := 0) hm (by omega)) (pgm_at n t 0) (progB_pgm hn ht) hro.1 hk (by omega) (by omega) (by omega) hy rfl rfl (by show ((f 0).r.set 7 (m : Int)).length = 8; simpa using hro.1) (by rw [tsM_get (by omega), updM_ne (by omega)]; unfold tkM; rw [if_pos hm]) (by simp) hgo
  have hf0 : Go.Proofs.YtcffplgimbbflaaGreat.upd f 0 ⟨(f 0).pc + 1, 0, (f 0).r.set 7 (m : Int)⟩ m = f m := updM_ne (by omega)
  refine ⟨m + 1, Go.Proofs.YtcffplgimbbflaaGreat.upd (Go.Proofs.YtcffplgimbbflaaGreat.upd f 0 ⟨(f 0).pc + 1, 0, (f 0).r.set 7 (m : Int)⟩) m ⟨0, 0, (f 0).r⟩, line ++ [(m : Int)], b, q, r, s, _, by rw [updM_comm f _ _ (show m ≠ 0 by omega), ← tsM_set tk_run]; exact hst, ⟨?_, hqb⟩, ?_⟩
  · rw [show T ++ toldL 0 _ = T by simp [toldL]]
    refine h.pair hm1 hmn.2 (by show m + 1 = 1 + min ((f 0).pc + 1 - 3) n; omega) ⟨by show 3 ≤ (f 0).pc + 1; omega, by show (f 0).pc + 1 ≤ _; omega, .inl rfl⟩ (hro.set (by decide)) ⟨Nat.zero_le _, .inl rfl⟩ (by show (0 = 5) ↔ _; omega) (fun _ => hro.to) (fun j a c e => by omega) (fun hh => ?_) (.inl ?_) (IdM.come (h.il.stay (by simp [hm])) (by rw [hf0]; omega) hmn.2 rfl) ((h.iq.stay (by simp [hm])).stay (by rw [hf0]; simp [hm5])) ((h.ir.stay (by simp [hm])).stay (by rw [hf0]; simp [hm5])) ((h.is.stay (by simp [hm])).stay (by rw [hf0]; simp [hm5])) h.cq h.cr h.cs ?_ (fun v hv => ?_) (fun hh => ?_) ?_ h.rs ?_ ?_
    · exact absurd hh (by show holdN t 0 ≠ 1; rw [holdN_0 (.inl rfl)]; decide)
    · show incN 0 = _; rw [hmp]
    · show _ + holdN t 0 + (if 2 * n + 4 ≤ (f 0).pc + 1 then 1 else 0) = _
      rw [hmp, if_neg (by omega), if_neg (by omega)]
    · show _ = _ + (incN 0 : Int)
      rw [h.vb v hv, hmp]
    · exfalso; have : (f 0).pc + 1 = 2 * n + 4 := hh; omega
    · show doneN t 0 + _ = min ((f 0).pc + 1 - (n + 3)) n + _
      rw [hmp]; omega
    · have := h.told; rw [if_pos (by omega)] at this; rw [if_pos (by show (f 0).pc + 1 ≤ 2 * n + 4; omega)]; exact this
    · simp only [List.length_append, List.length_cons, List.length_nil]; omega
  · have a := Ws_pair (n := n) (t := t) (f := f) hm1 hmn.2 ⟨(f 0).pc + 1, 0, (f 0).r.set 7 (m : Int)⟩ ⟨0, 0, (f 0).r⟩
    rw [wtN_1 (x := f m) (.inr hm5), wtN_1 (x := f 0) (.inl hm), wtN_1 (x := ⟨0, 0, _⟩) (.inl rfl), wtN_1 (x := ⟨(f 0).pc + 1, 0, _⟩) (.inl rfl), hmp] at a
    dsimp only at a
    omega
/-- It asks who is done: nobody. -/
theorem mm_wait1 (h : MI n t m f line b q r s T) (hn1 : 1 ≤ n) (hn : n ≤ 6) (ht : t ≤ 4) (hk : k < 10000) (hid : line.getD (N % (line.length : Int)).toNat 0 = ((0 : Nat) : Int)) (hl : line ≠ []) (hm : (f 0).md = 0) (hqb : q ≠ [] → b = []) (hs0 : s = []) (hp : n + 3 ≤ (f 0).pc) (hp2 : (f 0).pc < 2 * n + 3) : Nxt n t m f line b q r s k ev T N dr := by
  have hlt := h.lt (i := 0) (by omega) (by omega)
  have hro := h.rg
  have hpg : pgm n t 0 = pM n := rfl
  obtain ⟨c1, c2, c3, c4, c5⟩ := h.few hn
  have hoff := h.off (i := 0) hm (by omega)
  have hlen := h.lens
  obtain ⟨p1, p2, p3⟩ := h.mn
  have hmeq := h.m_eq
  subst hs0
  have hy : (pgm n t 0)[(f 0).pc]? = some (ins 11 1 3 4) := pM_recv hp hp2
  have hst := mw_park (P := PMu n t) (ev := ev) (r := r) (s := []) (b := b) (q := q) (k := k) (dr := dr) (y := ins 11 1 3 4) hid hl (h.get (i := 0) hm (by omega)) (pgm_at n t 0) (progB_pgm hn ht) hro.1 hk (by omega) (by omega) (by omega) hy rfl rfl rfl (.inr rfl) rfl rfl (a_wait1 hro.2.2 (not_in h.ir (by omega)))
  refine ⟨m, Go.Proofs.YtcffplgimbbflaaGreat.upd f 0 ⟨(f 0).pc, 2, (f 0).r⟩, line.erase ((0 : Nat) : Int), b, q, r ++ [(((0 : Nat) : Int), 0, 0)], [], _, by rw [← tsM_set (tk_wait (by decide) (by decide) hy)]; exact hst, ⟨?_, hqb⟩, ?_⟩
  · rw [show T ++ toldL 0 _ = T by simp [toldL]]
    refine h.main hn1 hmeq ⟨p1, p2, .inr (.inr (.inl ⟨rfl, hp, hp2⟩))⟩ hro.to (h.il.leave (by simp)) (h.iq.stay (by simp [hm])) (by rw [List.map_append]; exact h.ir.come (by omega) (by omega) rfl) (h.is.stay (by simp [hm])) h.cq (mem_snoc0 h.cr rfl) h.cs rfl h.vb h.vm rfl (fun _ => rfl) h.told (by rw [List.length_append, List.length_singleton]; omega)
  · have a := Ws_upd0 (n := n) (t := t) (f := f) (z := ⟨(f 0).pc, 2, (f 0).r⟩)
    rw [wtN_1 (x := f 0) (.inl hm), wtN_0 (x := ⟨(f 0).pc, 2, _⟩) (by simp)] at a
    dsimp only at a
    omega
/-- It asks for the number: nobody has given it back. -/
theorem mm_wait0 (h : MI n t m f line b q r s T) (hn1 : 1 ≤ n) (hn : n ≤ 6) (ht : t ≤ 4) (hk : k < 10000) (hid : line.getD (N % (line.length : Int)).toNat 0 = ((0 : Nat) : Int)) (hl : line ≠ []) (hm : (f 0).md = 0) (hb0 : b = []) (hp : (f 0).pc = 2 * n + 3) : Nxt n t m f line b q r s k ev T N dr := by
  have hlt := h.lt (i := 0) (by omega) (by omega)
  have hro := h.rg
  have hpg : pgm n t 0 = pM n := rfl
  obtain ⟨c1, c2, c3, c4, c5⟩ := h.few hn
  have hoff := h.off (i := 0) hm (by omega)
  have hlen := h.lens
  obtain ⟨p1, p2, p3⟩ := h.mn
  have hmeq := h.m_eq
  subst hb0
  have hy : (pgm n t 0)[(f 0).pc]? = some (ins 11 0 3 4) := by rw [hp]; exact pM_take n
  have hst := mw_park (P := PMu n t) (ev := ev) (r := r) (s := s) (b := []) (q := q) (k := k) (dr := dr) (y := ins 11 0 3 4) hid hl (h.get (i := 0) hm (by omega)) (pgm_at n t 0) (progB_pgm hn ht) hro.1 hk (by omega) (by omega) (by omega) hy rfl rfl rfl (.inr rfl) rfl rfl (a_wait0 hro.2.1 (not_in h.iq (by omega)))
  refine ⟨m, Go.Proofs.YtcffplgimbbflaaGreat.upd f 0 ⟨(f 0).pc, 1, (f 0).r⟩, line.erase ((0 : Nat) : Int), [], q ++ [(((0 : Nat) : Int), 0, 0)], r, s, _, by rw [← tsM_set (tk_wait (by decide) (by decide) hy)]; exact hst, ⟨?_, fun _ => rfl⟩, ?_⟩
  · rw [show T ++ toldL 0 _ = T by simp [toldL]]
    refine h.main hn1 hmeq ⟨p1, p2, .inr (.inl ⟨rfl, hp⟩)⟩ hro.to (h.il.leave (by simp)) (by rw [List.map_append]; exact h.iq.come (by omega) (by omega) rfl) (h.ir.stay (by simp [hm])) (h.is.stay (by simp [hm])) (mem_snoc0 h.cq rfl) h.cr h.cs rfl h.vb h.vm rfl h.rs h.told (by rw [List.length_append, List.length_singleton]; omega)
  · have a := Ws_upd0 (n := n) (t := t) (f := f) (z := ⟨(f 0).pc, 1, (f 0).r⟩)
    rw [wtN_1 (x := f 0) (.inl hm), wtN_0 (x := ⟨(f 0).pc, 1, _⟩) (by simp)] at a
    dsimp only at a
    omega
/-- It takes the number. -/
theorem mm_take (h : MI n t m f line b q r s T) (hn1 : 1 ≤ n) (hn : n ≤ 6) (ht : t ≤ 4) (hk : k < 10000) (hid : line.getD (N % (line.length : Int)).toNat 0 = ((0 : Nat) : Int)) (hl : line ≠ []) (hm : (f 0).md = 0) {v : Int} (hbv : b = [v]) (hp : (f 0).pc = 2 * n + 3) : Nxt n t m f line b q r s k ev T N dr := by
  have hlt := h.lt (i := 0) (by omega) (by omega)
  have hro := h.rg
  have hpg : pgm n t 0 = pM n := rfl
  obtain ⟨c1, c2, c3, c4, c5⟩ := h.few hn
  have hoff := h.off (i := 0) hm (by omega)
  have hlen := h.lens
  obtain ⟨p1, p2, p3⟩ := h.mn
  have hmeq := h.m_eq
  subst hbv
  have hv := h.vb v (List.mem_singleton.2 rfl)
  have hy : (pgm n t 0)[(f 0).pc]? = some (ins 11 0 3 4) := by rw [hp]; exact pM_take n
  have hst := mw_act (P := PMu n t) (ev := ev) (r := r) (s := s) (b := [v]) (q := q) (k := k) (dr := dr) (y := ins 11 0 3 4) hid hl (h.get (i := 0) hm (by omega)) (pgm_at n t 0) (progB_pgm hn ht) hro.1 hk (by omega) (by omega) (by omega) hy rfl rfl (by simp [hro.1]) (h.get (i := 0) hm (by omega)) (by simp) (a_take0 (A := 0) (B := 3) (C := 4) hro.2.1 rfl rfl hro.1)
  refine ⟨m, Go.Proofs.YtcffplgimbbflaaGreat.upd f 0 ⟨(f 0).pc + 1, 0, (((f 0).r.set 3 v).set 4 0).set 4 1⟩, line, [], q, r, s, [], by rw [← tsM_set tk_run]; exact hst, ⟨?_, fun _ => rfl⟩, ?_⟩
  · rw [show T ++ toldL 0 [] = T by simp [toldL]]
    refine h.main hn1 (by show m = 1 + min ((f 0).pc + 1 - 3) n; omega) ⟨by show 3 ≤ (f 0).pc + 1; omega, by show (f 0).pc + 1 ≤ _; omega, .inl rfl⟩ (hro.got (by decide) (by decide)) (h.il.stay (by simp [hm])) (h.iq.stay (by simp [hm])) (h.ir.stay (by simp [hm])) (h.is.stay (by simp [hm])) h.cq h.cr h.cs ?_ (fun u hu => by cases hu) (fun _ => ?_) ?_ h.rs ?_ h.lens
    · show _ + (if 2 * n + 4 ≤ (f 0).pc + 1 then 1 else 0) = _
      rw [if_pos (by omega), if_neg (by omega)]; rfl
    · show ((((f 0).r.set 3 v).set 4 0).set 4 1).getD 3 0 = _
      rw [getD_set_ne' (by decide), getD_set_ne' (by decide), getD_set_self' (by rw [hro.1]; decide), hv]
    · show _ = min ((f 0).pc + 1 - (n + 3)) n
      omega
    · have := h.told; rw [if_pos (by omega)] at this; rw [if_pos (by show (f 0).pc + 1 ≤ 2 * n + 4; omega)]; exact this
  · have a := Ws_upd0 (n := n) (t := t) (f := f) (z := ⟨(f 0).pc + 1, 0, (((f 0).r.set 3 v).set 4 0).set 4 1⟩)
    rw [wtN_1 (x := f 0) (.inl hm), wtN_1 (x := ⟨_, 0, _⟩) (.inl rfl)] at a
    dsimp only at a
    omega
/-- It hears that one is done, that waits to tell it. -/
theorem mm_done (h : MI n t m f line b q r s T) (hn1 : 1 ≤ n) (hn : n ≤ 6) (ht : t ≤ 4) (hk : k < 10000) (hid : line.getD (N % (line.length : Int)).toNat 0 = ((0 : Nat) : Int)) (hl : line ≠ []) (hm : (f 0).md = 0) (hqb : q ≠ [] → b = []) {j : Nat} {u : Int} {s' : List Wt} (hs : s = ((j : Int), 0, u) :: s') (hp : n + 3 ≤ (f 0).pc) (hp2 : (f 0).pc < 2 * n + 3) : Nxt n t m f line b q r s k ev T N dr := by
  have hlt := h.lt (i := 0) (by omega) (by omega)
  have hro := h.rg
  have hpg : pgm n t 0 = pM n := rfl
  obtain ⟨c1, c2, c3, c4, c5⟩ := h.few hn
  have hoff := h.off (i := 0) hm (by omega)
  have hlen := h.lens
  obtain ⟨p1, p2, p3⟩ := h.mn
  have hmeq := h.m_eq
  subst hs
  obtain ⟨hjn, hjm⟩ := (IdM.mem (i := j) h.is).1 (by simp)
  have hj1 : 1 ≤ j := by
    by_cases e : j = 0
    · subst e; omega
    · omega
  have hy : (pgm n t 0)[(f 0).pc]? = some (ins 11 1 3 4) := pM_recv hp hp2
  obtain ⟨jw, j5, jro, jh⟩ := h.wk j hj1 hjn
  have jro := jro (h.lt (by omega) hjn)
  have jp : (f j).pc = 4 * t := by obtain ⟨_, e⟩ := jw; omega
  have hyj : (pgm n t j)[(f j).pc]? = some (ins 10 1 5 0) := by unfold pgm; rw [if_neg (by omega), jp]; exact pW_last t
  have gj := h.getW (i := j) (by omega) (by omega) (by omega) hjn hyj
  have hst := mw_act (P := PMu n t) (ev := ev) (r := r) (s := ((j : Int), 0, u) :: s') (b := b) (q := q) (k := k) (dr := dr) (y := ins 11 1 3 4) hid hl (h.get (i := 0) hm (by omega)) (pgm_at n t 0) (progB_pgm hn ht) hro.1 hk (by omega) (by omega) (by omega) hy rfl rfl (by simp [hro.1]) (by rw [List.getElem?_set_ne (by omega)]; exact h.get (i := 0) hm (by omega)) (by simp) (a_from1 (x := (f 0).r) (A := 1) (B := 3) (C := 4) hro.2.2 rfl rfl hro.1 gj rfl rfl rfl rfl (fun e => by have := (h.il.mem.1 e).2; omega) (by omega) (by omega) jro.1)
  have hfj : Go.Proofs.YtcffplgimbbflaaGreat.upd f 0 ⟨(f 0).pc + 1, 0, (((f 0).r.set 3 u).set 4 0).set 4 1⟩ j = f j := updM_ne (by omega)
  refine ⟨m, Go.Proofs.YtcffplgimbbflaaGreat.upd (Go.Proofs.YtcffplgimbbflaaGreat.upd f 0 ⟨(f 0).pc + 1, 0, (((f 0).r.set 3 u).set 4 0).set 4 1⟩) j ⟨(f j).pc + 1, 0, (f j).r⟩, line ++ [(j : Int)], b, q, r, s', _, by rw [updM_comm f _ _ (show j ≠ 0 by omega), ← tsM_set tk_run, ← tsM_set tk_run]; exact hst, ⟨?_, hqb⟩, ?_⟩
  · rw [show T ++ toldL 0 _ = T by simp [toldL]]
    have hs0 : r = [] := by
      cases r with
      | nil => rfl
      | cons x l => exact absurd (h.rs (by simp)) (by simp)
    refine h.pair hj1 hjn (by show m = 1 + min ((f 0).pc + 1 - 3) n; omega) ⟨by show 3 ≤ (f 0).pc + 1; omega, by show (f 0).pc + 1 ≤ _; omega, .inl rfl⟩ (hro.got (by decide) (by decide)) ⟨by show (f j).pc + 1 ≤ _; omega, .inl rfl⟩ (by show (0 = 5) ↔ _; omega) (fun _ => jro.to) (fun _ _ _ _ => Iff.rfl) (fun hh => ?_) (.inl ?_) (IdM.come (h.il.stay (by simp [hm])) (by rw [hfj]; omega) hjn rfl) ((h.iq.stay (by simp [hm])).stay (by rw [hfj]; simp [hjm])) ((h.ir.stay (by simp [hm])).stay (by rw [hfj]; simp [hjm])) (IdM.pop (i := j) (h.is.stay (by simp [hm])) (by simp)) h.cq h.cr (fun x hx => h.cs x (List.mem_cons_of_mem _ hx)) ?_ (fun v hv => ?_) (fun hh => ?_) ?_ (fun e => absurd hs0 e) ?_ ?_
    · exact absurd hh (by show holdN t ((f j).pc + 1) ≠ 1; rw [holdN_0 (.inr (by omega))]; decide)
    · show incN ((f j).pc + 1) = _; unfold incN; omega
    · show _ + holdN t ((f j).pc + 1) + (if 2 * n + 4 ≤ (f 0).pc + 1 then 1 else 0) = _
      rw [holdN_0 (.inr (by omega)), holdN_0 (.inr (by omega)), if_neg (by omega), if_neg (by omega)]
    · show _ = _ + (incN ((f j).pc + 1) : Int)
      rw [h.vb v hv]; unfold incN; omega
    · exfalso; have : (f 0).pc + 1 = 2 * n + 4 := hh; omega
    · show doneN t ((f j).pc + 1) + _ = min ((f 0).pc + 1 - (n + 3)) n + _
      rw [doneN_1 (by omega), doneN_0 (by omega)]; omega
    · have := h.told; rw [if_pos (by omega)] at this; rw [if_pos (by show (f 0).pc + 1 ≤ 2 * n + 4; omega)]; exact this
    · simp only [List.length_append, List.length_cons, List.length_nil] at hlen ⊢; omega
  · have a := Ws_pair (n := n) (t := t) (f := f) hj1 hjn ⟨(f 0).pc + 1, 0, (((f 0).r.set 3 u).set 4 0).set 4 1⟩ ⟨(f j).pc + 1, 0, (f j).r⟩
    rw [wtN_0 (x := f j) (by omega), wtN_1 (x := f 0) (.inl hm), wtN_1 (x := ⟨(f j).pc + 1, 0, _⟩) (.inl rfl), wtN_1 (x := ⟨(f 0).pc + 1, 0, _⟩) (.inl rfl)] at a
    dsimp only at a
    omega
/-- All are done. -/
theorem MI.all (h : MI n t m f line b q r s T) (hp : 2 * n + 3 ≤ (f 0).pc) : Ss n f = n * t := by
  have hd := h.dn
  rw [Nat.min_eq_right (by omega)] at hd
  have hone : ∀ i, 1 ≤ i → i ≤ n → doneN t (f i).pc = 1 := sm_full (g := fun i => doneN t (f i).pc) (fun i _ _ => by unfold doneN; split <;> omega) hd
  refine sm_const fun i h1 h2 => ?_
  have := hone i h1 h2
  unfold doneN at this
  split at this
  · next e => show incN (f i).pc = t; rw [e]; unfold incN; omega
  · cases this
/-- It tells the number. -/
theorem mm_tell (h : MI n t m f line b q r s T) (hn1 : 1 ≤ n) (hn : n ≤ 6) (ht : t ≤ 4) (hk : k < 10000) (hid : line.getD (N % (line.length : Int)).toNat 0 = ((0 : Nat) : Int)) (hl : line ≠ []) (hm : (f 0).md = 0) (hqb : q ≠ [] → b = []) (hp : (f 0).pc = 2 * n + 4) : Nxt n t m f line b q r s k ev T N dr := by
  have hlt := h.lt (i := 0) (by omega) (by omega)
  have hro := h.rg
  have hpg : pgm n t 0 = pM n := rfl
  obtain ⟨c1, c2, c3, c4, c5⟩ := h.few hn
  have hoff := h.off (i := 0) hm (by omega)
  have hlen := h.lens
  obtain ⟨p1, p2, p3⟩ := h.mn
  have hmeq := h.m_eq
  have hv := h.vm hp
  have hy : (pgm n t 0)[(f 0).pc]? = some (ins 6 3 0 0) := by rw [hp]; exact pM_tell n
  have hst := mw_tell (P := PMu n t) (ev := ev) (r := r) (s := s) (b := b) (q := q) (k := k) (dr := dr) (y := ins 6 3 0 0) (v := (f 0).r.getD 3 0) (x' := (f 0).r) hid hl (h.get (i := 0) hm (by omega)) (pgm_at n t 0) (progB_pgm hn ht) hro.1 hk (by omega) (by omega) (by omega) hy rfl hro.1 rfl
  refine ⟨m, Go.Proofs.YtcffplgimbbflaaGreat.upd f 0 ⟨(f 0).pc + 1, 0, (f 0).r⟩, line, b, q, r, s, _, by rw [← tsM_set tk_run]; exact hst, ⟨?_, hqb⟩, ?_⟩
  · refine h.main hn1 (by show m = 1 + min ((f 0).pc + 1 - 3) n; omega) ⟨by show 3 ≤ (f 0).pc + 1; omega, by show (f 0).pc + 1 ≤ _; omega, .inl rfl⟩ hro.to (h.il.stay (by simp [hm])) (h.iq.stay (by simp [hm])) (h.ir.stay (by simp [hm])) (h.is.stay (by simp [hm])) h.cq h.cr h.cs ?_ h.vb (fun e => ?_) ?_ h.rs ?_ h.lens
    · show _ + (if 2 * n + 4 ≤ (f 0).pc + 1 then 1 else 0) = _
      rw [if_pos (by omega), if_pos (by omega)]
    · exfalso; have : (f 0).pc + 1 = 2 * n + 4 := e; omega
    · show _ = min ((f 0).pc + 1 - (n + 3)) n
      omega
    · have := h.told; rw [if_pos (by omega)] at this; rw [if_neg (by show ¬ (f 0).pc + 1 ≤ 2 * n + 4; omega), this, hv, h.all (by omega)]; rfl
  · have a := Ws_upd0 (n := n) (t := t) (f := f) (z := ⟨(f 0).pc + 1, 0, (f 0).r⟩)
    rw [wtN_1 (x := f 0) (.inl hm), wtN_1 (x := ⟨_, 0, _⟩) (.inl rfl)] at a
    dsimp only at a
    omega
/-- It ends. -/
theorem mm_over (h : MI n t m f line b q r s T) (hn1 : 1 ≤ n) (hn : n ≤ 6) (ht : t ≤ 4) (hk : k < 10000) (hid : line.getD (N % (line.length : Int)).toNat 0 = ((0 : Nat) : Int)) (hl : line ≠ []) (hm : (f 0).md = 0) (hqb : q ≠ [] → b = []) (hp : (f 0).pc = 2 * n + 5) : Nxt n t m f line b q r s k ev T N dr := by
  have hlt := h.lt (i := 0) (by omega) (by omega)
  have hro := h.rg
  have hpg : pgm n t 0 = pM n := rfl
  obtain ⟨c1, c2, c3, c4, c5⟩ := h.few hn
  have hoff := h.off (i := 0) hm (by omega)
  have hlen := h.lens
  obtain ⟨p1, p2, p3⟩ := h.mn
  have hmeq := h.m_eq
  have hst := mw_end (P := PMu n t) (ev := ev) (r := r) (s := s) (b := b) (q := q) (k := k) (dr := dr) hid hl (h.get (i := 0) hm (by omega)) (pgm_at n t 0) (progB_pgm hn ht) hk (by omega) (by omega) (by omega) (by rw [hpg, pM_len, hp])
  refine ⟨m, Go.Proofs.YtcffplgimbbflaaGreat.upd f 0 ⟨(f 0).pc, 4, (f 0).r⟩, line.erase ((0 : Nat) : Int), b, q, r, s, _, by rw [← tsM_set tk_over]; exact hst, ⟨?_, hqb⟩, ?_⟩
  · rw [show T ++ toldL 0 _ = T by simp [toldL]]
    exact h.main hn1 hmeq ⟨p1, p2, .inr (.inr (.inr ⟨rfl, hp⟩))⟩ hro.to (h.il.leave (by simp)) (h.iq.stay (by simp [hm])) (h.ir.stay (by simp [hm])) (h.is.stay (by simp [hm])) h.cq h.cr h.cs rfl h.vb h.vm rfl h.rs h.told (by omega)
  · have a := Ws_upd0 (n := n) (t := t) (f := f) (z := ⟨(f 0).pc, 4, (f 0).r⟩)
    rw [wtN_1 (x := f 0) (.inl hm), wtN_0 (x := ⟨(f 0).pc, 4, _⟩) (by simp)] at a
    dsimp only at a
    omega
end
section
variable {n t m : Nat} {f : Nat → MT} {line b : List Int} {q r s : List Wt} {k : Nat} {ev : List Ev} {T : List Int} {N dr : Int} {i : Nat}
theorem getD_pick {line : List Int} (hl : line ≠ []) (N : Int) : line.getD (N % (line.length : Int)).toNat 0 ∈ line := by
  have hp : 0 < line.length := List.length_pos_iff.2 hl
  have h1 : 0 ≤ N % (line.length : Int) := Int.emod_nonneg _ (by omega)
  have h2 : N % (line.length : Int) < line.length := Int.emod_lt_of_pos _ (by omega)
  have h3 : (N % (line.length : Int)).toNat < line.length := by omega
  rw [List.getD_eq_getElem?_getD, List.getElem?_eq_getElem h3]
  exact List.getElem_mem h3
/-- Any pick is a move. -/
theorem mu_step (h : MI n t m f line b q r s T) (hqb : q ≠ [] → b = []) (hn1 : 1 ≤ n) (hn : n ≤ 6) (ht : t ≤ 4) (hk : k < 10000) (hl : line ≠ []) (N dr : Int) : Nxt n t m f line b q r s k ev T N dr := by
  obtain ⟨i, hi, hin, hm⟩ := (h.il.2 _).1 (getD_pick hl N)
  have hb1 : b = [] ∨ ∃ v, b = [v] := by
    have := h.tok
    match b, this with
    | [], _ => exact .inl rfl
    | [v], _ => exact .inr ⟨v, rfl⟩
    | _ :: _ :: _, e => simp at e; omega
  by_cases h0 : i = 0
  · subst h0
    obtain ⟨p1, p2, _⟩ := h.mn
    by_cases a1 : (f 0).pc < n + 3
    · exact mm_go h hn1 hn ht hk hi hl hm hqb a1
    · by_cases a2 : (f 0).pc < 2 * n + 3
      · match s, h with
        | [], h => exact mm_wait1 h hn1 hn ht hk hi hl hm hqb rfl (by omega) a2
        | (x, c, u) :: s', h =>
          obtain ⟨j, rfl, _⟩ := (h.is.2 x).1 (by simp)
          have : c = 0 := h.cs _ (List.mem_cons_self ..)
          subst this
          exact mm_done h hn1 hn ht hk hi hl hm hqb rfl (by omega) a2
      · by_cases a3 : (f 0).pc = 2 * n + 3
        · rcases hb1 with e | ⟨v, e⟩
          · exact mm_wait0 h hn1 hn ht hk hi hl hm e a3
          · exact mm_take h hn1 hn ht hk hi hl hm e a3
        · by_cases a4 : (f 0).pc = 2 * n + 4
          · exact mm_tell h hn1 hn ht hk hi hl hm hqb a4
          · exact mm_over h hn1 hn ht hk hi hl hm hqb (by omega)
  · have h1 : 1 ≤ i := by omega
    have hw := (h.wk i h1 hin).1.1
    by_cases a1 : (f i).pc < 4 * t
    · rcases (show (f i).pc % 4 = 0 ∨ (f i).pc % 4 = 1 ∨ (f i).pc % 4 = 2 ∨ (f i).pc % 4 = 3 by omega) with e | e | e | e
      · rcases hb1 with c | ⟨v, c⟩
        · exact mu_wait h hn ht hk hi hl hm hin h1 c a1 e
        · exact mu_take h hn ht hk hi hl hm hin h1 c a1 e
      · exact mu_inc h hn ht hk hi hl hm hin h1 hqb a1 e
      · exact mu_now h hn ht hk hi hl hm hin h1 hqb a1 e
      · match q, h with
        | [], h => exact mu_put h hn ht hk hi hl hm hin h1 rfl a1 e
        | (x, c, u) :: q', h =>
          obtain ⟨j, rfl, _⟩ := (h.iq.2 x).1 (by simp)
          have : c = 0 := h.cq _ (List.mem_cons_self ..)
          subst this
          by_cases j0 : j = 0
          · subst j0; exact mu_hand_main h hn ht hk hi hl hm hin h1 hn1 rfl a1 e
          · exact mu_hand h hn ht hk hi hl hm hin h1 rfl (by omega) a1 e
    · by_cases a2 : (f i).pc = 4 * t
      · match r, h with
        | [], h => exact mu_stay h hn ht hk hi hl hm hin h1 hqb rfl a2
        | (x, c, u) :: r', h =>
          obtain ⟨j, rfl, _⟩ := (h.ir.2 x).1 (by simp)
          have : c = 0 := h.cr _ (List.mem_cons_self ..)
          subst this
          exact mu_done h hn ht hk hi hl hm hin h1 hqb rfl a2
      · exact mu_over h hn ht hk hi hl hm hin h1 hqb (by omega)
/-- When nobody can run all is told. -/
theorem mu_last (h : MI n t m f [] b q r s T) (hqb : q ≠ [] → b = []) : T = [((n * t : Nat) : Int)] := by
  have hz : ∀ i, i ≤ n → (f i).md ≠ 0 := fun i hi e => by have := h.il.mem.2 ⟨hi, e⟩; cases this
  have hH : Hs n t f = 0 := by
    have : sm (fun i => holdN t (f i).pc) n = n * 0 := sm_const fun i h1 h2 => by
      have a := (h.wk i h1 h2).1
      have b := hz i h2
      rcases a.2 with e | e | e | e | e
      · exact absurd e b
      · exact holdN_0 (.inl e.2.1)
      · exact holdN_0 (.inr (by omega))
      · exact holdN_0 (.inr (by omega))
      · exact holdN_0 (.inl (by omega))
    exact this.trans (Nat.mul_zero n)
  have hno : ∀ i, i ≤ n → (f i).md = 1 → (f 0).pc < 2 * n + 4 → False := fun i hi e hp => by
    have : (i : Int) ∈ q.map (·.1) := (IdM.mem h.iq).2 ⟨hi, e⟩
    have hq : q ≠ [] := by rintro rfl; cases this
    have := h.tok
    rw [hqb hq, hH, if_neg (by omega)] at this
    cases this
  obtain ⟨p1, p2, p3⟩ := h.mn
  have hmq := h.m_eq
  rcases p3 with e | ⟨e, ep⟩ | ⟨e, ep, ep2⟩ | ⟨e, ep⟩
  · exact absurd e (hz 0 (Nat.zero_le _))
  · exact (hno 0 (Nat.zero_le _) e (by omega)).elim
  · exfalso
    have hr : r ≠ [] := by
      have : ((0 : Nat) : Int) ∈ r.map (·.1) := (IdM.mem h.ir).2 ⟨Nat.zero_le _, e⟩
      rintro rfl; cases this
    have hs := h.rs hr
    have hd : Ds n t f = n * 1 := sm_const fun i h1 h2 => by
      have a := (h.wk i h1 h2).1
      have a5 := (h.wk i h1 h2).2.1
      rcases a.2 with c | c | c | c | c
      · exact absurd c (hz i h2)
      · exact (hno i h2 c.1 (by omega)).elim
      · have : (i : Int) ∈ s.map (·.1) := (IdM.mem h.is).2 ⟨h2, c.1⟩
        rw [hs] at this; cases this
      · exact doneN_1 c.2
      · have := a5.1 c.1; omega
    have := h.dn
    omega
  · have := h.told
    rw [if_neg (by omega)] at this
    exact this
end
def TA (pc : Int) (r : List Int) (ch : Nat → Option ChS) (nch made steps : Nat) : WS := { ws0 with ts := [(tkR 0 pc r, false, [])], ch := ch, nch := nch, made := made, steps := steps }
/-- What holds after k entries. -/
def InvMu (n t k : Nat) (st : WS) (T : List Int) : Prop :=
  (k = 0 ∧ st = ws0 ∧ T = []) ∨
  (k = 1 ∧ T = [] ∧ st = TA 1 [0, 0, 0, 0, 0, 0, 0, 0] (Go.Proofs.YtcffplgimbbflaaGreat.upd (fun _ => none) 0 (some (cm0 [] []))) 1 1 1) ∨
  (k = 2 ∧ T = [] ∧ st = MW [(tkR (0 : Nat) (2 : Nat) [0, 1, 0, 0, 0, 0, 0, 0], false, [])] [0] [] [] [] [] 2 []) ∨
  ∃ m f line b q r s ev, st = MW (tsM n t m f) line b q r s k ev ∧ MI n t m f line b q r s T ∧ (q ≠ [] → b = []) ∧ (line = [] ∨ Ws n t f + k ≤ 250)
theorem ws0_tk : ws0 = TA 0 [0, 0, 0, 0, 0, 0, 0, 0] (fun _ => none) 0 0 0 := by
  have e : (newT 0 (fun _ => 0) : Nat → Int) = tkR 0 0 [0, 0, 0, 0, 0, 0, 0, 0] := by
    have : (fun _ => 0 : Nat → Int) = ofL [0, 0, 0, 0, 0, 0, 0, 0] := by
      funext j; unfold ofL
      rcases (show j = 0 ∨ j = 1 ∨ j = 2 ∨ j = 3 ∨ j = 4 ∨ j = 5 ∨ j = 6 ∨ j = 7 ∨ 8 ≤ j by omega) with rfl | rfl | rfl | rfl | rfl | rfl | rfl | rfl | h <;> try rfl
      simp [List.getD, List.getElem?_eq_none (show ([0, 0, 0, 0, 0, 0, 0, 0] : List Int).length ≤ j by simpa using h)]
    rw [this, new_tkR]
  unfold TA; rw [← e]; rfl
theorem hidZ (n : Int) : ([0] : List Int).getD (n % (([0] : List Int).length : Int)).toNat 0 = ((0 : Nat) : Int) := by
  have : n % (([0] : List Int).length : Int) = 0 := Int.emod_one n
  rw [this]; rfl
theorem step_few {P : List (List Ins)} {st s : WS} {e : En} (h : st.step P e = some s) : s.ev.length ≤ 1000000 := by
  obtain ⟨_, s1, h1, h2, rfl, _⟩ := step_some h
  exact h2
def f3 : Nat → MT := fun i => if i = 0 then ⟨3, 0, [0, 1, 0, 0, 0, 0, 0, 0]⟩ else ⟨0, 5, []⟩
theorem f3_0 : f3 0 = ⟨3, 0, [0, 1, 0, 0, 0, 0, 0, 0]⟩ := rfl
theorem f3_s {i : Nat} (h : 1 ≤ i) : f3 i = ⟨0, 5, []⟩ := by unfold f3; rw [if_neg (by omega)]
theorem mi_three {n t : Nat} (hn1 : 1 ≤ n) : MI n t 1 f3 [0] [0] [] [] [] [] := by
  have hz : ∀ i, 1 ≤ i → holdN t (f3 i).pc = 0 := fun i h => by rw [f3_s h]; exact holdN_0 (.inl rfl)
  have hS : Ss n f3 = 0 := by
    have : sm (fun i => incN (f3 i).pc) n = n * 0 := sm_const fun i h1 _ => by rw [f3_s h1]; rfl
    exact this.trans (Nat.mul_zero n)
  have hH : Hs n t f3 = 0 := by
    have : sm (fun i => holdN t (f3 i).pc) n = n * 0 := sm_const fun i h1 _ => hz i h1
    exact this.trans (Nat.mul_zero n)
  have hD : Ds n t f3 = 0 := by
    have : sm (fun i => doneN t (f3 i).pc) n = n * 0 := sm_const fun i h1 _ => by rw [f3_s h1]; exact doneN_0 (by show 0 ≠ _; omega)
    exact this.trans (Nat.mul_zero n)
  have hno : ∀ c, c ≠ 0 → c ≠ 5 → IdM n f3 c [] := by
    intro c h0 h5
    refine ⟨by simp, fun x => ⟨fun e => (by cases e), ?_⟩⟩
    rintro ⟨i, _, _, e⟩
    by_cases hi : i = 0
    · subst hi; exact absurd e.symm h0
    · rw [f3_s (by omega)] at e; exact absurd e.symm h5
  refine ⟨rfl, ⟨by decide, by show 3 ≤ _; omega, .inl rfl⟩, ⟨rfl, rfl, rfl⟩, fun i h1 h2 => ?_, ⟨by simp, fun x => ?_⟩, hno 1 (by decide) (by decide), hno 2 (by decide) (by decide), hno 3 (by decide) (by decide), by simp, by simp, by simp, ?_, ?_, ?_, ?_, fun e => absurd rfl e, ?_, by decide⟩
  · rw [f3_s h1]
    exact ⟨⟨Nat.zero_le _, .inr (.inr (.inr (.inr ⟨rfl, rfl⟩)))⟩, ⟨fun _ => h1, fun _ => rfl⟩, fun e => by omega, fun e => absurd e (by rw [holdN_0 (.inl rfl)]; decide)⟩
  · rw [List.mem_singleton]
    constructor
    · rintro rfl; exact ⟨0, rfl, Nat.zero_le _, rfl⟩
    · rintro ⟨i, rfl, _, e⟩
      by_cases hi : i = 0
      · subst hi; rfl
      · rw [f3_s (by omega)] at e; cases e
  · rw [hH, f3_0, if_neg (by show ¬ _ ≤ 3; omega)]; rfl
  · intro v hv; rw [List.mem_singleton.1 hv, hS]; rfl
  · intro e; exfalso; have : 3 = 2 * n + 4 := e; omega
  · rw [hD, f3_0]; show 0 = min (3 - (n + 3)) n; omega
  · rw [f3_0, if_pos (by show 3 ≤ _; omega)]
theorem ws_three {n t : Nat} (hn : n ≤ 6) (ht : t ≤ 4) : Ws n t f3 + 3 ≤ 250 := by
  have : sm (fun i => wtN (4 * t + 1) (f3 i)) n ≤ n * 35 := sm_le fun i h1 _ => by
    rw [f3_s h1, wtN_1 (.inr rfl)]; dsimp only; omega
  unfold Ws
  rw [f3_0, wtN_1 (.inl rfl)]
  dsimp only
  omega
/-- Each pick keeps it. -/
theorem invMu_step {n t k : Nat} {st : WS} {T : List Int} (hn1 : 1 ≤ n) (hn : n ≤ 6) (ht : t ≤ 4) (hk : k < 10000) (h : InvMu n t k st T) (N dr : Int) : ∃ s, st.step (PMu n t) (1, N, dr) = some s ∧ InvMu n t (k + 1) s (T ++ toldL 0 s.ev) := by
  have hp0 : (PMu n t)[0]? = some (pM n) := rfl
  rcases h with ⟨rfl, rfl, rfl⟩ | ⟨rfl, rfl, rfl⟩ | ⟨rfl, rfl, rfl⟩ | ⟨m, f, line, b, q, r, s, ev, rfl, hI, hqb, hw⟩
  · refine ⟨TA 1 [0, 0, 0, 0, 0, 0, 0, 0] (Go.Proofs.YtcffplgimbbflaaGreat.upd (fun _ => none) 0 (some (cm0 [] []))) 1 1 1, ?_, .inr (.inl ⟨rfl, by simp [toldL, TA, ws0, ws00], rfl⟩)⟩
    rw [ws0_tk]
    have h := run_act (P := PMu n t) (st := TA 0 [0, 0, 0, 0, 0, 0, 0, 0] (fun _ => none) 0 0 0) (n := N) (dr := dr) (i := 0) (pi := 0) (k := 0) (p := pM n) (y := ins 9 0 1 0) (hidZ N) (by simp [TA, ws0]) (t := tkR 0 0 [0, 0, 0, 0, 0, 0, 0, 0]) (d := false) rfl rfl rfl rfl rfl (progB_pM hn) rfl rfl rfl (r := ofL [0, 0, 0, 0, 0, 0, 0, 0]) (s1 := TA 0 [0, 0, 0, 0, 0, 0, 0, 0] (Go.Proofs.YtcffplgimbbflaaGreat.upd (fun _ => none) 0 (some (cm0 [] []))) 1 1 0) (by
      rw [regs_tkR rfl]
      unfold WS.act
      rw [if_neg (by decide), if_pos rfl]
      unfold WS.actMake
      rw [if_neg (by simp [TA])]
      rw [show ((ins 9 0 1 0).1.2.1).toNat = 0 by rfl, updR_ofL _ _ _ (by decide)]
      rfl)
    rw [put_eq (t := tkR 0 0 [0, 0, 0, 0, 0, 0, 0, 0]) (d := false) rfl rfl, put_tkR rfl] at h
    exact step_run (s1 := TA 1 [0, 0, 0, 0, 0, 0, 0, 0] (Go.Proofs.YtcffplgimbbflaaGreat.upd (fun _ => none) 0 (some (cm0 [] []))) 1 1 0) rfl h (by decide) (by decide)
  · refine ⟨MW [(tkR (0 : Nat) (2 : Nat) [0, 1, 0, 0, 0, 0, 0, 0], false, [])] [0] [] [] [] [] 2 [], ?_, .inr (.inr (.inl ⟨rfl, by simp [toldL, MW], rfl⟩))⟩
    have h := run_act (P := PMu n t) (st := TA 1 [0, 0, 0, 0, 0, 0, 0, 0] (Go.Proofs.YtcffplgimbbflaaGreat.upd (fun _ => none) 0 (some (cm0 [] []))) 1 1 1) (n := N) (dr := dr) (i := 0) (pi := 0) (k := 1) (p := pM n) (y := ins 9 1 0 0) (hidZ N) (by simp [TA, ws0]) (t := tkR 0 1 [0, 0, 0, 0, 0, 0, 0, 0]) (d := false) rfl rfl rfl rfl rfl (progB_pM hn) rfl rfl rfl (r := ofL [0, 1, 0, 0, 0, 0, 0, 0]) (s1 := TA 1 [0, 0, 0, 0, 0, 0, 0, 0] (chM (cm0 [] []) (cm1 [] [])) 2 2 1) (by
      rw [regs_tkR rfl]
      unfold WS.act
      rw [if_neg (by decide), if_pos rfl]
      unfold WS.actMake
      rw [if_neg (by simp [TA])]
      rw [show ((ins 9 1 0 0).1.2.1).toNat = 1 by rfl, updR_ofL _ _ _ (by decide)]
      rfl)
    rw [put_eq (t := tkR 0 1 [0, 0, 0, 0, 0, 0, 0, 0]) (d := false) rfl rfl, put_tkR rfl] at h
    exact step_run (s1 := TA 2 [0, 1, 0, 0, 0, 0, 0, 0] (chM (cm0 [] []) (cm1 [] [])) 2 2 1) rfl h (by decide) (by decide)
  · refine ⟨MW (tsM n t 1 f3) [0] [0] [] [] [] 3 [], ?_, .inr (.inr (.inr ⟨1, f3, [0], [0], [], [], [], [], rfl, by simpa [toldL, MW] using mi_three hn1, fun e => absurd rfl e, .inr (ws_three hn ht)⟩))⟩
    exact mw_act (ts := [(tkR (0 : Nat) (2 : Nat) [0, 1, 0, 0, 0, 0, 0, 0], false, [])]) (ts' := [(tkR (0 : Nat) (2 : Nat) [0, 1, 0, 0, 0, 0, 0, 0], false, [])]) (line := [0]) (line' := [0]) (b := []) (q := []) (r := []) (s := []) (k := 2) (i := 0) (pi := 0) (pc := 2) (p := pM n) (y := ins 10 0 2 0) (hidZ N) (by simp) rfl hp0 (progB_pM hn) rfl hk (by decide) (by decide) (by decide) rfl rfl rfl rfl rfl (by decide) (a_put0 (x := [0, 1, 0, 0, 0, 0, 0, 0]) (A := 0) (B := 2) (C := 0) rfl)
  · by_cases hl : line = []
    · subst hl
      obtain ⟨c1, c2, c3, c4, c5⟩ := hI.few hn
      refine ⟨_, step_run (few_mw (by omega) (by omega) (by omega)) (run_idle' rfl) hk (by simp [MW]), .inr (.inr (.inr ⟨m, f, [], b, q, r, s, [], rfl, ?_, hqb, .inl rfl⟩))⟩
      simpa [toldL, MW] using hI
    · obtain ⟨m', f', line', b', q', r', s', ev', h1, ⟨h2, h3⟩, h4⟩ := mu_step (ev := ev) hI hqb hn1 hn ht hk hl N dr
      exact ⟨_, h1, .inr (.inr (.inr ⟨m', f', line', b', q', r', s', ev', rfl, h2, h3, .inr (by rcases hw with e | e; exact absurd e hl; omega)⟩))⟩
/-- After enough of them all is told. -/
theorem InvMu.last {n t k : Nat} {st : WS} {T : List Int} (h : InvMu n t k st T) (hk : 300 ≤ k) : T = [((n * t : Nat) : Int)] := by
  rcases h with ⟨rfl, _⟩ | ⟨rfl, _⟩ | ⟨rfl, _⟩ | ⟨m, f, line, b, q, r, s, ev, rfl, hI, hqb, hw⟩
  · omega
  · omega
  · omega
  · rcases hw with rfl | e
    · exact mu_last hI hqb
    · omega
/-- A row of entries. -/
theorem invMu_plays {n t : Nat} (hn1 : 1 ≤ n) (hn : n ≤ 6) (ht : t ≤ 4) : ∀ (es : List En) (k : Nat) (st : WS) (T : List Int), (∀ e ∈ es, e.1 = 1) → k + es.length ≤ 10000 → InvMu n t k st T → ∃ s l, plays (PMu n t) st es = some (s, l) ∧ InvMu n t (k + es.length) s (T ++ toldL 0 l) ∧ l.length ≤ es.length * 1000000
  | [], k, st, T, _, _, h => ⟨st, [], rfl, by simpa [toldL] using h, Nat.zero_le _⟩
  | e :: es, k, st, T, he, hk, h => by
    obtain ⟨a, N, dr⟩ := e
    have : a = 1 := he (a, N, dr) (List.mem_cons_self ..)
    subst this
    rw [List.length_cons] at hk
    obtain ⟨s, h1, h2⟩ := invMu_step hn1 hn ht (by omega) h N dr
    obtain ⟨u, l, h3, h4, h5⟩ := invMu_plays hn1 hn ht es (k + 1) s _ (fun e q => he e (List.mem_cons_of_mem _ q)) (by omega) h2
    refine ⟨u, s.ev ++ l, by unfold plays; rw [h1]; dsimp only; rw [h3], ?_, ?_⟩
    · rw [toldL_app, ← List.append_assoc, List.length_cons, show k + (es.length + 1) = k + 1 + es.length by omega]; exact h4
    · have := step_few h1
      rw [List.length_append, List.length_cons]; omega
theorem WAt.len {w : World} {S : Nat → Prop} {wb : Nat} {P : Pg} {st : WS} {nd nm : Nat} (h : WAt w S wb P st nd nm) {i : Nat} {c : ChS} (hi : st.ch i = some c) (hn : i < st.nch) (n : Nat) (hl : c.lenR = n) : Calls Tryz.prog 16 #[ptV (P.2 i)] w fun e w' => e = .returned (inV (n : Int)) ∧ w = w' := by
  obtain ⟨F, c', h, rfl, hS⟩ := h
  rw [← h.pad.2.2 i hn]
  exact pool_len (h.pool id) i hi n hl
theorem WAt.cap {w : World} {S : Nat → Prop} {wb : Nat} {P : Pg} {st : WS} {nd nm : Nat} (h : WAt w S wb P st nd nm) {i : Nat} {c : ChS} (hi : st.ch i = some c) (hn : i < st.nch) (n : Nat) (hl : c.capR = n) : Calls Tryz.prog 17 #[ptV (P.2 i)] w fun e w' => e = .returned (inV (n : Int)) ∧ w = w' := by
  obtain ⟨F, c', h, rfl, hS⟩ := h
  rw [← h.pad.2.2 i hn]
  exact pool_cap (h.pool id) i hi n hl
theorem topMutex_bad (a b : Int) (A : Option Addr) (n c : Nat) (w : World) (h : a < 1 ∨ 6 < a ∨ b < 1 ∨ 4 < b ∨ 300 < n) :
    Calls Tryz.prog 5 #[inV a, inV b, .slice A n c] w fun e w' => e = .returned (.bool true) ∧ Below w.heap.size w w' := by
  have Haw := Lib.hid (top_awake w)
  by_cases h1 : a < 1
  · go_enter Tryz.func5, Tryz.ntmps5
    go_wp2_with fail
    refine Haw.out.mono ?_
    rintro e w' ⟨rfl, hf⟩
    go_wp2_with fail
    go_ret
    exact ⟨rfl, hf.below (Nat.le_refl _) fun _ q => q.elim⟩
  · by_cases h2 : 6 < a
    · go_enter Tryz.func5, Tryz.ntmps5
      go_wp2_with fail
      refine Haw.out.mono ?_
      rintro e w' ⟨rfl, hf⟩
      go_wp2_with fail
      go_ret
      exact ⟨rfl, hf.below (Nat.le_refl _) fun _ q => q.elim⟩
    · by_cases h3 : b < 1
      · go_enter Tryz.func5, Tryz.ntmps5
        go_wp2_with fail
        refine Haw.out.mono ?_
        rintro e w' ⟨rfl, hf⟩
        go_wp2_with fail
        go_ret
        exact ⟨rfl, hf.below (Nat.le_refl _) fun _ q => q.elim⟩
      · by_cases h4 : 4 < b
        · go_enter Tryz.func5, Tryz.ntmps5
          go_wp2_with fail
          refine Haw.out.mono ?_
          rintro e w' ⟨rfl, hf⟩
          go_wp2_with fail
          go_ret
          exact ⟨rfl, hf.below (Nat.le_refl _) fun _ q => q.elim⟩
        · have h5 : (300 : Int) < n := by omega
          clear h
          go_enter Tryz.func5, Tryz.ntmps5
          go_wp2_with fail
          refine Haw.out.mono ?_
          rintro e w' ⟨rfl, hf⟩
          go_wp2_with fail
          go_ret
          exact ⟨rfl, hf.below (Nat.le_refl _) fun _ q => q.elim⟩
def pA1 (k : Nat) : List Ins := [ins 9 0 1 0, ins 9 1 0 0, ins 10 0 2 0] ++ List.replicate k (ins 8 7 1 0)
def pA2 (n k : Nat) : List Ins := pA1 n ++ List.replicate k (ins 11 1 3 4)
theorem pA1_succ (k : Nat) : pA1 (k + 1) = pA1 k ++ [ins 8 7 1 0] := by unfold pA1; rw [List.replicate_succ', List.append_assoc]
theorem pA2_succ (n k : Nat) : pA2 n (k + 1) = pA2 n k ++ [ins 11 1 3 4] := by unfold pA2; rw [List.replicate_succ', List.append_assoc]
theorem pA2_zero (n : Nat) : pA2 n 0 = pA1 n := by unfold pA2; simp
theorem pM_eq (n : Nat) : pM n = pA2 n n ++ [ins 11 0 3 4, ins 6 3 0 0] := rfl
theorem pWi_succ (t : Nat) : pWi (t + 1) = pWi t ++ [wI 0, wI 1, wI 2, wI 3] := by
  unfold pWi
  rw [show 4 * (t + 1) = 4 * t + 1 + 1 + 1 + 1 by omega, List.range_succ, List.range_succ, List.range_succ, List.range_succ]
  simp only [List.map_append, List.map_cons, List.map_nil, List.append_assoc, List.cons_append, List.nil_append]
  rw [show (4 * t) % 4 = 0 by omega, show (4 * t + 1) % 4 = 1 by omega, show (4 * t + 1 + 1) % 4 = 2 by omega, show (4 * t + 1 + 1 + 1) % 4 = 3 by omega]
theorem lit_one (p : List Ins) (h : ∀ y ∈ p, y.2.2.1 = [] ∧ y.2.1 = .slice none 0 0) : ∀ u ∈ p.flatMap insEn, u.oneCell' = true :=
  fun u hu => ins_one (w := default) (fun y hy => by unfold InsOk; rw [(h y hy).1, (h y hy).2]; exact rd_nil _ 3) u hu
theorem mem_pM {n : Nat} {y : Ins} (h : y ∈ pM n) : y = ins 9 0 1 0 ∨ y = ins 9 1 0 0 ∨ y = ins 10 0 2 0 ∨ y = ins 8 7 1 0 ∨ y = ins 11 1 3 4 ∨ y = ins 11 0 3 4 ∨ y = ins 6 3 0 0 := by
  unfold pM at h
  simp only [List.mem_append, List.mem_cons, List.not_mem_nil, or_false, List.mem_replicate] at h
  rcases h with (((h | h | h) | h) | h) | h | h
  · exact .inl h
  · exact .inr (.inl h)
  · exact .inr (.inr (.inl h))
  · exact .inr (.inr (.inr (.inl h.2)))
  · exact .inr (.inr (.inr (.inr (.inl h.2))))
  · exact .inr (.inr (.inr (.inr (.inr (.inl h)))))
  · exact .inr (.inr (.inr (.inr (.inr (.inr h)))))
theorem wI_mem (k : Nat) : wI k = ins 11 0 5 6 ∨ wI k = ins 3 5 1 0 ∨ wI k = ins 16 6 0 0 ∨ wI k = ins 10 0 5 0 := by
  unfold wI; split
  · exact .inl rfl
  · exact .inr (.inl rfl)
  · exact .inr (.inr (.inl rfl))
  · exact .inr (.inr (.inr rfl))
theorem mem_pW {t : Nat} {y : Ins} (h : y ∈ pW t) : y = ins 11 0 5 6 ∨ y = ins 3 5 1 0 ∨ y = ins 16 6 0 0 ∨ y = ins 10 0 5 0 ∨ y = ins 10 1 5 0 := by
  unfold pW pWi at h
  rw [List.mem_append, List.mem_map, List.mem_singleton] at h
  rcases h with ⟨k, _, rfl⟩ | h
  · rcases wI_mem (k % 4) with e | e | e | e
    · exact .inl e
    · exact .inr (.inl e)
    · exact .inr (.inr (.inl e))
    · exact .inr (.inr (.inr (.inl e)))
  · exact .inr (.inr (.inr (.inr h)))
theorem mem_PMu {n t : Nat} {p : List Ins} (h : p ∈ PMu n t) : p = pM n ∨ p = pW t := by simpa using h
theorem nocs_mu (n t : Nat) : NoCs (PMu n t) := by
  intro p hp y hy
  rcases mem_PMu hp with rfl | rfl
  · rcases mem_pM hy with rfl | rfl | rfl | rfl | rfl | rfl | rfl <;> exact ⟨rfl, rfl⟩
  · rcases mem_pW hy with rfl | rfl | rfl | rfl | rfl <;> exact ⟨rfl, rfl⟩
theorem plain_mu (n t : Nat) : ∀ p ∈ PMu n t, ∀ y ∈ p, plainB y = true := by
  intro p hp y hy
  rcases mem_PMu hp with rfl | rfl
  · rcases mem_pM hy with rfl | rfl | rfl | rfl | rfl | rfl | rfl <;> rfl
  · rcases mem_pW hy with rfl | rfl | rfl | rfl | rfl <;> rfl
theorem starts_mu {n t : Nat} (hn : n ≤ 6) (ht : t ≤ 4) : ∀ p ∈ PMu n t, progB p = true ∧ ∀ y ∈ p, startsI y < ((PMu n t).length : Int) := by
  intro p hp
  rcases mem_PMu hp with rfl | rfl
  · exact ⟨progB_pM hn, fun y hy => by rcases mem_pM hy with rfl | rfl | rfl | rfl | rfl | rfl | rfl <;> simp [startsI]⟩
  · exact ⟨progB_pW ht, fun y hy => by rcases mem_pW hy with rfl | rfl | rfl | rfl | rfl <;> simp [startsI]⟩
/-- Where the picks are done one by one. -/
def MuR (W wr : World) (wb : Nat) (n t : Nat) (lv : Value) (k : Nat) (st : WS) (lk : List Ev) : Prop :=
  InvMu n t k st (toldL 0 lk) ∧ Gath W wr Nob wb (PMu n t) st lv lk (k * 10000) (1 + k * 100) ∧ lk.length ≤ k * 1000000
end Go.Proofs.YtcffplgimbbflaaGreat
