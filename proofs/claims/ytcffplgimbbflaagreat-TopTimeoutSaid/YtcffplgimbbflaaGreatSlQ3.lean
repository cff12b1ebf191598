/- Who waits on a channel, from outside; what two laws need. -/
import Derived.Test.YtcffplgimbbflaaGreatSlQ2
set_option linter.unusedVariables false
set_option linter.unusedSimpArgs false
namespace Go.Proofs.YtcffplgimbbflaaGreat
open Go.RowKit
set_option maxRecDepth 100000
/-- What a channel is. -/
structure ChS where
  size : Nat
  q : List Int
  rv : List Wt
  sd : List Wt
  timed : Bool
  signal : Bool
  closed : Bool
/-- A wake: its task, case, value, whether it received, whether it panics. -/
abbrev Wk := Int × Int × Int × Bool × Bool
abbrev wkEn (x : Wk) : List Value := [.int .i64 x.1, .int .i64 x.2.1, .int .i64 x.2.2.1, .bool x.2.2.2.1, .bool x.2.2.2.2]
abbrev wks (l : List Wk) : List Value := l.flatMap wkEn
def chObj (rb qb sb : Nat) (t s c : Bool) : Obj := .cells #[.pointer (some ⟨rb, 0, none⟩), .pointer (some ⟨qb, 0, none⟩), .pointer (some ⟨sb, 0, none⟩), .bool t, .bool s, .bool c] 85 (0, 0)
/-- The parts of a channel: where they lie. -/
structure ChP (w : World) (S : Nat → Prop) (b rb qb sb : Nat) (R A B : Nat → Prop) (c : ChS) : Prop where
  own : S b
  lt : ∀ k, S k → k < w.heap.size
  subR : ∀ k, R k → S k ∧ k ≠ b
  subA : ∀ k, A k → S k ∧ k ≠ b ∧ ¬ R k
  subB : ∀ k, B k → S k ∧ k ≠ b ∧ ¬ R k ∧ ¬ A k
  blk : w.heap[b]? = some (chObj rb qb sb c.timed c.signal c.closed)
  ring : RingAt w R rb c.size c.q
  recv : WaitAt w A qb c.rv
  send : WaitAt w B sb c.sd
def ChanAt (w : World) (S : Nat → Prop) (b : Nat) (c : ChS) : Prop := ∃ (rb qb sb : Nat) (R A B : Nat → Prop), ChP w S b rb qb sb R A B c
section
variable {w w' : World} {S : Nat → Prop} {b rb qb sb : Nat} {R A B : Nat → Prop} {c : ChS}
theorem ChP.fr (h : ChP w S b rb qb sb R A B c) {F : Nat → Prop} (hf : Fr F w w') (hd : ∀ k, S k → F k → False) : ChP w' S b rb qb sb R A B c :=
  ⟨h.own, fun k q => by have := h.lt k q; have := hf.size; omega, h.subR, h.subA, h.subB, hf.blk (fun q => hd _ h.own q) h.blk, h.ring.fr hf fun k _ q => hd k (h.subR k q).1, h.recv.fr hf fun k q => hd k (h.subA k q).1, h.send.fr hf fun k q => hd k (h.subB k q).1⟩
theorem ChP.fr0 (h : ChP w S b rb qb sb R A B c) (hf : Fr Nob w w') : ChP w' S b rb qb sb R A B c := h.fr hf fun _ _ q => q
theorem ChP.toRing (h : ChP w S b rb qb sb R A B c) (hf : Fr R w w') {q : List Int} (hr : RingAt w' R rb c.size q) : ChP w' S b rb qb sb R A B { c with q := q } :=
  ⟨h.own, fun k q => by have := h.lt k q; have := hf.size; omega, h.subR, h.subA, h.subB, hf.blk (fun q => (h.subR _ q).2 rfl) h.blk, hr, h.recv.fr hf fun k q q' => (h.subA k q).2.2 q', h.send.fr hf fun k q q' => (h.subB k q).2.2.1 q'⟩
theorem ChP.toRecv (h : ChP w S b rb qb sb R A B c) (hf : Fr A w w') {l : List Wt} (hr : WaitAt w' A qb l) : ChP w' S b rb qb sb R A B { c with rv := l } :=
  ⟨h.own, fun k q => by have := h.lt k q; have := hf.size; omega, h.subR, h.subA, h.subB, hf.blk (fun q => (h.subA _ q).2.1 rfl) h.blk, h.ring.fr hf fun k _ q q' => (h.subA k q').2.2 q, hr, h.send.fr hf fun k q q' => (h.subB k q).2.2.2 q'⟩
theorem ChP.toSend (h : ChP w S b rb qb sb R A B c) (hf : Fr B w w') {l : List Wt} (hr : WaitAt w' B sb l) : ChP w' S b rb qb sb R A B { c with sd := l } :=
  ⟨h.own, fun k q => by have := h.lt k q; have := hf.size; omega, h.subR, h.subA, h.subB, hf.blk (fun q => (h.subB _ q).2.1 rfl) h.blk, h.ring.fr hf fun k _ q q' => (h.subB k q').2.2.1 q, h.recv.fr hf fun k q q' => (h.subB k q').2.2.2 q, hr⟩
/-- The set grows by what is new, and the receivers' queue with it. -/
theorem ChP.growRecv (h : ChP w S b rb qb sb R A B c) (hf : Fr A w w') {l : List Wt} (hr : WaitAt w' (And' A w w') qb l) : ChP w' (And' S w w') b rb qb sb R (And' A w w') B { c with rv := l } := by
  refine ⟨.inl h.own, fun k q => ?_, fun k q => ⟨.inl (h.subR k q).1, (h.subR k q).2⟩, fun k q => ?_, fun k q => ⟨.inl (h.subB k q).1, (h.subB k q).2.1, (h.subB k q).2.2.1, fun q' => ?_⟩, hf.blk (fun q => (h.subA _ q).2.1 rfl) h.blk, h.ring.fr hf fun k _ q q' => (h.subA k q').2.2 q, hr, h.send.fr hf fun k q q' => (h.subB k q).2.2.2 q'⟩
  · rcases q with q | q
    · have := h.lt k q; have := hf.size; omega
    · exact q.2
  · rcases q with q | q
    · exact ⟨.inl (h.subA k q).1, (h.subA k q).2⟩
    · exact ⟨.inr q, fun e => by have := h.lt b h.own; omega, fun e => by have := h.lt k (h.subR k e).1; omega⟩
  · rcases q' with q' | q'
    · exact (h.subB k q).2.2.2 q'
    · have := h.lt k (h.subB k q).1; omega
theorem ChP.growSend (h : ChP w S b rb qb sb R A B c) (hf : Fr B w w') {l : List Wt} (hr : WaitAt w' (And' B w w') sb l) : ChP w' (And' S w w') b rb qb sb R A (And' B w w') { c with sd := l } := by
  refine ⟨.inl h.own, fun k q => ?_, fun k q => ⟨.inl (h.subR k q).1, (h.subR k q).2⟩, fun k q => ⟨.inl (h.subA k q).1, (h.subA k q).2⟩, fun k q => ?_, hf.blk (fun q => (h.subB _ q).2.1 rfl) h.blk, h.ring.fr hf fun k _ q q' => (h.subB k q').2.2.1 q, h.recv.fr hf fun k q q' => (h.subB k q').2.2.2 q, hr⟩
  · rcases q with q | q
    · have := h.lt k q; have := hf.size; omega
    · exact q.2
  · rcases q with q | q
    · exact ⟨.inl (h.subB k q).1, (h.subB k q).2⟩
    · exact ⟨.inr q, fun e => by have := h.lt b h.own; omega, fun e => by have := h.lt k (h.subR k e).1; omega, fun e => by have := h.lt k (h.subA k e).1; omega⟩
theorem ChanAt.fr (h : ChanAt w S b c) {F : Nat → Prop} (hf : Fr F w w') (hd : ∀ k, S k → F k → False) : ChanAt w' S b c := by
  obtain ⟨rb, qb, sb, R, A, B, h⟩ := h; exact ⟨_, _, _, _, _, _, h.fr hf hd⟩
theorem ChanAt.fr0 (h : ChanAt w S b c) (hf : Fr Nob w w') : ChanAt w' S b c := h.fr hf fun _ _ q => q
theorem ChanAt.lt (h : ChanAt w S b c) : ∀ k, S k → k < w.heap.size := by
  obtain ⟨rb, qb, sb, R, A, B, h⟩ := h; exact h.lt
theorem ChanAt.own (h : ChanAt w S b c) : S b := by
  obtain ⟨rb, qb, sb, R, A, B, h⟩ := h; exact h.own
theorem ChanAt.few (h : ChanAt w S b c) : c.rv.length ≤ 100000 ∧ c.sd.length ≤ 100000 := by
  obtain ⟨rb, qb, sb, R, A, B, h⟩ := h; exact ⟨h.recv.few, h.send.few⟩
end
/-- What was made beside a channel: from block B on, and no block of it. -/
abbrev Off (B : Nat) (S : Nat → Prop) : Nat → Prop := fun k => B ≤ k ∧ ¬ S k
/-! What the document says a channel does. -/
abbrev wakeOf (x : Wt) (v : Int) (ok pn : Bool) : Wk := (x.1, x.2.1, v, ok, pn)
def ChS.mute (c : ChS) : Bool := c.timed || c.signal
def ChS.free (c : ChS) (send : Bool) : Bool := if send then decide (c.q.length < c.size) else decide (0 < c.q.length)
def ChS.queue (c : ChS) (send : Bool) : List Wt := if send then c.sd else c.rv
/-- Each who waits, by the first that it waits by. -/
def onceW (pn : Bool) : List Wk → List Wt → List Wk
  | acc, [] => acc
  | acc, x :: l => onceW pn (if acc.any (fun y => y.1 == x.1) then acc else acc ++ [wakeOf x 0 false pn]) l
def ChS.ends (c : ChS) : List Wk := onceW true (onceW false [] c.rv) c.sd
def ChS.shut (c : ChS) : ChS := { c with closed := true, rv := [], sd := [] }
def ChS.sendR (c : ChS) (v : Int) : Bool × List Wk × Int :=
  if c.mute then (false, [], 7) else if c.closed then (false, [], 5) else match c.rv with
    | x :: _ => (true, [wakeOf x v true false], 0)
    | [] => (decide (c.q.length < c.size), [], 0)
def ChS.sendS (c : ChS) (v : Int) : ChS :=
  if c.mute then c else if c.closed then c else match c.rv with
    | _ :: l => { c with rv := l }
    | [] => if c.q.length < c.size then { c with q := c.q ++ [v] } else c
def ChS.recvR (c : ChS) : Int × Bool × Bool × List Wk := match c.q, c.sd with
  | v :: _, [] => (v, true, true, [])
  | v :: _, x :: _ => (v, true, true, [wakeOf x 0 true false])
  | [], x :: _ => (x.2.2, true, true, [wakeOf x 0 true false])
  | [], [] => (0, false, c.closed, [])
def ChS.recvS (c : ChS) : ChS := match c.q, c.sd with
  | _ :: q, [] => { c with q := q }
  | _ :: q, x :: l => { c with q := q ++ [x.2.2], sd := l }
  | [], _ :: l => { c with sd := l }
  | [], [] => c
def ChS.endR (c : ChS) : List Wk := if !c.signal || c.closed then [] else c.ends
def ChS.endS (c : ChS) : ChS := if !c.signal || c.closed then c else c.shut
def ChS.waitR (c : ChS) (x : Wt) (send : Bool) : Int :=
  if c.mute && send then 7 else if c.closed then 5 else if c.free send || (c.queue (!send)).any (fun y => y.1 != x.1) then 1 else 0
def ChS.waitS (c : ChS) (x : Wt) (send : Bool) : ChS := if c.waitR x send = 0 then (if send then { c with sd := c.sd ++ [x] } else { c with rv := c.rv ++ [x] }) else c
def ChS.removeS (c : ChS) (t : Int) : ChS := { c with rv := notT c.rv t, sd := notT c.sd t }
def ChS.removeR (c : ChS) (t : Int) : Nat := (c.rv.length - (notT c.rv t).length) + (c.sd.length - (notT c.sd t).length)
def ChS.canR (c : ChS) (send : Bool) : Bool := if c.mute && send then false else c.closed || c.free send || decide (0 < (c.queue (!send)).length)
def ChS.putR (c : ChS) (v : Int) : List Wk × Bool := if !c.timed then ([], false) else match c.rv with
  | x :: _ => ([wakeOf x v true false], true)
  | [] => ([], decide (c.q.length < c.size))
def ChS.putS (c : ChS) (v : Int) : ChS := if !c.timed then c else match c.rv with
  | _ :: l => { c with rv := l }
  | [] => if c.q.length < c.size then { c with q := c.q ++ [v] } else c
def ChS.dropR (c : ChS) : Bool := c.timed && decide (0 < c.q.length)
def ChS.dropS (c : ChS) : ChS := if c.timed then { c with q := [] } else c
def ChS.lenR (c : ChS) : Nat := if c.timed then 0 else c.q.length
def ChS.capR (c : ChS) : Nat := if c.timed then 0 else c.size
theorem ChP.cells {w : World} {S : Nat → Prop} {b rb qb sb : Nat} {R A B : Nat → Prop} {c : ChS} (h : ChP w S b rb qb sb R A B c) :
    w.cell? ⟨b, 0, none⟩ = some (.pointer (some ⟨rb, 0, none⟩)) ∧ w.cell? ⟨b, 1, none⟩ = some (.pointer (some ⟨qb, 0, none⟩)) ∧ w.cell? ⟨b, 2, none⟩ = some (.pointer (some ⟨sb, 0, none⟩)) ∧ w.cell? ⟨b, 3, none⟩ = some (.bool c.timed) ∧ w.cell? ⟨b, 4, none⟩ = some (.bool c.signal) ∧ w.cell? ⟨b, 5, none⟩ = some (.bool c.closed) :=
  ⟨blk_cell h.blk 0 rfl, blk_cell h.blk 1 rfl, blk_cell h.blk 2 rfl, blk_cell h.blk 3 rfl, blk_cell h.blk 4 rfl, blk_cell h.blk 5 rfl⟩
section
variable (w : World) (S : Nat → Prop) (b : Nat) (c : ChS) (h : ChanAt w S b c)
include h
theorem chan_mute (m : Bool) (hm : c.mute = m) : Calls Tryz.prog 176 #[.pointer (some ⟨b, 0, none⟩)] w fun e w' => e = .returned (.bool m) ∧ w = w' := by
  obtain ⟨rb, qb, sb, R, A, B, h⟩ := h
  obtain ⟨_, _, _, p3, p4, _⟩ := h.cells
  have hm' : (c.timed || c.signal) = m := hm
  generalize c.timed = t at *
  generalize c.signal = s at *
  clear h hm
  have Hm := Lib.hid hm'
  clear hm'
  cases t with
  | true =>
    go_enter Tryz.func176, Tryz.ntmps176
    go_wp2_with fail
    go_ret
    exact ⟨by rw [← Hm.out]; rfl, rfl⟩
  | false =>
    go_enter Tryz.func176, Tryz.ntmps176
    go_wp2_with fail
    go_ret
    exact ⟨by rw [← Hm.out]; rfl, rfl⟩
theorem chan_len (n : Nat) (hn : c.lenR = n) : Calls Tryz.prog 16 #[.pointer (some ⟨b, 0, none⟩)] w fun e w' => e = .returned (.int .i64 (n : Int)) ∧ w = w' := by
  obtain ⟨rb, qb, sb, R, A, B, h⟩ := h
  obtain ⟨p0, _, _, p3, _, _⟩ := h.cells
  unfold ChS.lenR at hn
  by_cases ht : c.timed = true
  · rw [if_pos ht] at hn
    subst hn
    rw [ht] at p3
    clear h ht
    go_enter Tryz.func16, Tryz.ntmps16
    go_wp2_with fail
    go_ret
    exact ⟨rfl, rfl⟩
  · rw [if_neg ht] at hn
    have ht' : c.timed = false := by simpa using ht
    rw [ht'] at p3
    have Hl := Lib.hid (ring_len_n w R rb c.size c.q h.ring n hn)
    clear h ht ht' hn
    go_enter Tryz.func16, Tryz.ntmps16
    go_wp2_with fail
    refine Hl.out.mono ?_
    rintro e _ ⟨rfl, rfl⟩
    go_wp2_with fail
    go_ret
    exact ⟨rfl, rfl⟩
theorem chan_cap (n : Nat) (hn : c.capR = n) : Calls Tryz.prog 17 #[.pointer (some ⟨b, 0, none⟩)] w fun e w' => e = .returned (.int .i64 (n : Int)) ∧ w = w' := by
  obtain ⟨rb, qb, sb, R, A, B, h⟩ := h
  obtain ⟨p0, _, _, p3, _, _⟩ := h.cells
  unfold ChS.capR at hn
  by_cases ht : c.timed = true
  · rw [if_pos ht] at hn
    subst hn
    rw [ht] at p3
    clear h ht
    go_enter Tryz.func17, Tryz.ntmps17
    go_wp2_with fail
    go_ret
    exact ⟨rfl, rfl⟩
  · rw [if_neg ht] at hn
    have ht' : c.timed = false := by simpa using ht
    rw [ht'] at p3
    have hl := ring_size w R rb c.size c.q h.ring
    rw [hn] at hl
    have Hl := Lib.hid hl
    clear h ht ht' hn hl
    go_enter Tryz.func17, Tryz.ntmps17
    go_wp2_with fail
    refine Hl.out.mono ?_
    rintro e _ ⟨rfl, rfl⟩
    go_wp2_with fail
    go_ret
    exact ⟨rfl, rfl⟩
end
theorem chan_queue {w : World} {S : Nat → Prop} {b rb qb sb : Nat} {R A B : Nat → Prop} {c : ChS} (h : ChP w S b rb qb sb R A B c) (s : Bool) :
    Calls Tryz.prog 35 #[.pointer (some ⟨b, 0, none⟩), .bool s] w fun e w' => e = .returned (.pointer (some ⟨if s = true then sb else qb, 0, none⟩)) ∧ w = w' := by
  obtain ⟨_, p1, p2, _, _, _⟩ := h.cells
  clear h
  cases s with
  | true =>
    go_enter Tryz.func35, Tryz.ntmps35
    go_wp2_with fail
    go_ret
    exact ⟨rfl, rfl⟩
  | false =>
    go_enter Tryz.func35, Tryz.ntmps35
    go_wp2_with fail
    go_ret
    exact ⟨rfl, rfl⟩
section
variable (w : World) (S : Nat → Prop) (b : Nat) (c : ChS) (h : ChanAt w S b c)
include h
theorem chan_free (s f : Bool) (hf : c.free s = f) : Calls Tryz.prog 199 #[.pointer (some ⟨b, 0, none⟩), .bool s] w fun e w' => e = .returned (.bool f) ∧ ∃ m, w' = w.drewN m := by
  obtain ⟨rb, qb, sb, R, A, B, h⟩ := h
  obtain ⟨p0, _, _, _, _, _⟩ := h.cells
  have hl := fun W m (hw : W = w.drewN m) => ring_len_n W R rb c.size c.q (by rw [hw]; exact h.ring.fr ((Fr.refl Nob w).drewN m) (fun _ _ _ q => q)) c.q.length rfl
  have hz := fun W m (hw : W = w.drewN m) => ring_size W R rb c.size c.q (by rw [hw]; exact h.ring.fr ((Fr.refl Nob w).drewN m) (fun _ _ _ q => q))
  have hlen := h.ring.len
  unfold ChS.free at hf
  generalize c.q.length = n at *
  generalize c.size = sz at *
  have Hl := Lib.hid hl; have Hz := Lib.hid hz
  clear h hl hz
  cases s with
  | true =>
    rw [if_pos rfl] at hf
    have Hf := Lib.hid hf
    clear hf
    go_enter Tryz.func199, Tryz.ntmps199
    go_wp2_with fail
    go_quiet ((first | (go_at_call 33; exact Calls.quiet_of_same ((Hl.out _ _ rfl).mono fun e w' h => ⟨h.1, h.2.symm⟩)) | (go_at_call 34; exact Calls.quiet_of_same ((Hz.out _ _ rfl).mono fun e w' h => ⟨h.1, h.2.symm⟩))))
    go_wp2_with fail
    go_ret
    exact ⟨by rw [← Hf.out]; rfl, _, rfl⟩
  | false =>
    rw [if_neg (by simp)] at hf
    have Hf := Lib.hid hf
    clear hf
    go_enter Tryz.func199, Tryz.ntmps199
    go_wp2_with fail
    refine (Hl.out w 0 rfl).mono ?_
    rintro e _ ⟨rfl, rfl⟩
    go_wp2_with fail
    go_ret
    exact ⟨by rw [← Hf.out]; rfl, 0, rfl⟩
theorem chan_waiting (s : Bool) (l : List Wt) (n : Nat) (hl : c.queue s = l) (hn : l.length = n) : Calls Tryz.prog 18 #[.pointer (some ⟨b, 0, none⟩), .bool s] w fun e w' => ∃ v, e = .returned v ∧ Fr Nob w w' ∧ Sl w' (From w.heap.size) 154 3 v n (waits l) := by
  obtain ⟨rb, qb, sb, R, A, B, h⟩ := h
  have hq := chan_queue h s
  have ha : ∃ T : Nat → Prop, WaitAt w T (if s = true then sb else qb) l := by
    subst hl
    unfold ChS.queue
    cases s with
    | true => exact ⟨_, h.send⟩
    | false => exact ⟨_, h.recv⟩
  obtain ⟨T, ha⟩ := ha
  generalize (if s = true then sb else qb) = qq at *
  have Hq := Lib.hid hq; have Ha := Lib.hid (wait_all w T qq l n hn ha)
  clear h hq ha hl hn
  go_enter Tryz.func18, Tryz.ntmps18
  go_wp2_with fail
  refine Hq.out.mono ?_
  rintro e _ ⟨rfl, rfl⟩
  go_wp2_with fail
  refine Ha.out.mono ?_
  rintro e w1 ⟨v, rfl, hf, hs⟩
  have Hf := Lib.hid hf; have Hs := Lib.hid hs
  clear hf hs
  go_wp2_with fail
  go_ret
  exact ⟨v, rfl, Hf.out, Hs.out⟩
end
abbrev chNew (size : Nat) : ChS := ⟨size, [], [], [], false, false, false⟩
abbrev chTimed : ChS := ⟨1, [], [], [], true, false, false⟩
abbrev chSignal : ChS := ⟨0, [], [], [], false, true, false⟩
def NewP (w : World) (c : ChS) (e : Ending) (w' : World) : Prop := ∃ (b : Nat) (S : Nat → Prop), e = .returned (.tuple #[.pointer (some ⟨b, 0, none⟩), .int .i64 0]) ∧ Fr Nob w w' ∧ ChanAt w' S b c ∧ ∀ k, S k → w.heap.size ≤ k
def MadeP (w : World) (c : ChS) (e : Ending) (w' : World) : Prop := ∃ (b : Nat) (S : Nat → Prop), e = .returned (.pointer (some ⟨b, 0, none⟩)) ∧ Fr Nob w w' ∧ ChanAt w' S b c ∧ ∀ k, S k → w.heap.size ≤ k
theorem chan_new (w : World) (size : Nat) (hs : size ≤ 64) : Calls Tryz.prog 130 #[.int .i64 (size : Int)] w (NewP w (chNew size)) := by
  have H := Lib.hid (ring_new_good size w hs)
  have Hw := Lib.hid (fun W => wait_new W)
  go_enter Tryz.func130, Tryz.ntmps130
  go_wp2_with fail
  refine H.out.mono ?_
  rintro e w1 ⟨rb, rfl, hf1, hr1⟩
  have Hf1 := Lib.hid hf1; have Hr1 := Lib.hid hr1
  clear hf1 hr1
  go_wp2_with fail
  refine (Hw.out w1).mono ?_
  rintro e w2 ⟨qb, rfl, hf2, hq2⟩
  have Hf2 := Lib.hid hf2; have Hq2 := Lib.hid hq2
  clear hf2 hq2
  go_wp2_with fail
  refine (Hw.out w2).mono ?_
  rintro e w3 ⟨sb, rfl, hf3, hq3⟩
  have Hf3 := Lib.hid hf3; have Hq3 := Lib.hid hq3
  clear hf3 hq3
  go_wp2_with fail
  go_ret2
  have hfa : Fr Nob w3 (w3.alloc (.cells #[.pointer (some ⟨rb, 0, none⟩), .pointer (some ⟨qb, 0, none⟩), .pointer (some ⟨sb, 0, none⟩), .bool false, .bool false, .bool false] 85)) := (Fr.refl _ _).alloc _
  have z1 := Hf1.out.size; have z2 := Hf2.out.size; have z3 := Hf3.out.size
  refine ⟨w3.heap.size, fun k => w.heap.size ≤ k ∧ k < w3.heap.size + 1, rfl, ((Hf1.out.trans0 Hf2.out).trans0 Hf3.out).trans0 hfa, ⟨rb, qb, sb, (fun k => w.heap.size ≤ k ∧ k < w1.heap.size), (fun k => w1.heap.size ≤ k ∧ k < w2.heap.size), (fun k => w2.heap.size ≤ k ∧ k < w3.heap.size), ?_⟩, fun k q => q.1⟩
  refine ⟨⟨by omega, by omega⟩, fun k q => by simp; omega, fun k q => ⟨⟨by omega, by omega⟩, by omega⟩, fun k q => ⟨⟨by omega, by omega⟩, by omega, by omega⟩, fun k q => ⟨⟨by omega, by omega⟩, by omega, by omega, by omega⟩, heap_alloc_new _ _, ?_, ?_, ?_⟩
  · exact (Hr1.out.mono (S' := fun k => w.heap.size ≤ k ∧ k < w1.heap.size) fun k hk q => ⟨q, hk⟩).fr ((Hf2.out.trans0 Hf3.out).trans0 hfa) fun _ _ _ q => q
  · exact Hq2.out.fr0 (Hf3.out.trans0 hfa)
  · exact Hq3.out.fr0 hfa
theorem ChP.settle {w : World} {S : Nat → Prop} {b rb qb sb : Nat} {R A B : Nat → Prop} {c c' : ChS} (h : ChP w S b rb qb sb R A B c) (o : Nat) (v : Value) (hq : c'.q = c.q) (hs : c'.size = c.size) (hr : c'.rv = c.rv) (hd : c'.sd = c.sd)
    (ho : (#[.pointer (some ⟨rb, 0, none⟩), .pointer (some ⟨qb, 0, none⟩), .pointer (some ⟨sb, 0, none⟩), .bool c.timed, .bool c.signal, .bool c.closed] : Array Value).setIfInBounds o v = #[.pointer (some ⟨rb, 0, none⟩), .pointer (some ⟨qb, 0, none⟩), .pointer (some ⟨sb, 0, none⟩), .bool c'.timed, .bool c'.signal, .bool c'.closed]) : ChP (w.setCell ⟨b, o, none⟩ v) S b rb qb sb R A B c' := by
  have hf : Fr (fun k => k = b) w (w.setCell ⟨b, o, none⟩ v) := (Fr.refl (fun k => k = b) w).setCell (p := ⟨b, o, none⟩) (.inl rfl) _
  refine ⟨h.own, fun k q => by have := h.lt k q; have := hf.size; omega, h.subR, h.subA, h.subB, ?_, ?_, ?_, ?_⟩
  · have := blk_set h.blk o v
    rw [this, ho]; rfl
  · rw [hq, hs]; exact h.ring.fr hf fun k _ q e => (h.subR k q).2 e
  · rw [hr]; exact h.recv.fr hf fun k q e => (h.subA k q).2.1 e
  · rw [hd]; exact h.send.fr hf fun k q e => (h.subB k q).2.1 e
theorem chan_timed (w : World) : Calls Tryz.prog 204 #[] w (MadeP w chTimed) := by
  have H := Lib.hid (chan_new w 1 (by omega))
  go_enter Tryz.func204, Tryz.ntmps204
  go_wp2_with fail
  refine H.out.mono ?_
  rintro e w1 ⟨b, S, rfl, hf1, ⟨rb, qb, sb, R, A, B, hc1⟩, hS⟩
  obtain ⟨_, _, _, p3, _, _⟩ := hc1.cells
  have f3 := blk_froz hc1.blk 3
  have Hf1 := Lib.hid hf1; have Hc1 := Lib.hid hc1; have HS := Lib.hid hS
  clear hf1 hc1 hS
  go_wp2_with fail
  go_ret
  exact ⟨b, S, rfl, Hf1.out.setCell (p := ⟨b, 3, none⟩) (.inr (HS.out b Hc1.out.own)) _, ⟨rb, qb, sb, R, A, B, Hc1.out.settle (c' := chTimed) 3 _ rfl rfl rfl rfl rfl⟩, HS.out⟩
theorem one_wake (w : World) (S : Nat → Prop) (B : Nat) (x : Wk) (hB : B ≤ w.heap.size) (hS : ¬ S w.heap.size) :
    Sl (w.alloc (.cells #[.int .i64 x.1, .int .i64 x.2.1, .int .i64 x.2.2.1, .bool x.2.2.2.1, .bool x.2.2.2.2] 225)) (Off B S) 225 5 (.slice (some ⟨w.heap.size, 0, none⟩) 1 1) 1 (wks [x]) :=
  Sl.lit w 225 5 #[.int .i64 x.1, .int .i64 x.2.1, .int .i64 x.2.2.1, .bool x.2.2.2.1, .bool x.2.2.2.2] 1 (Off B S) ⟨hB, hS⟩ (by simp [maxLen]) rfl
def DelP (w : World) (S : Nat → Prop) (b : Nat) (c : ChS) (k : Wk) (e : Ending) (w' : World) : Prop := ∃ g : Nat, e = .returned (.slice (some ⟨g, 0, none⟩) 1 1) ∧ Fr S w w' ∧ ChanAt w' S b c ∧ Sl w' (Off w.heap.size S) 225 5 (.slice (some ⟨g, 0, none⟩) 1 1) 1 (wks [k])
theorem deliver_some {w : World} {S : Nat → Prop} {b : Nat} {c : ChS} (h : ChanAt w S b c) (v : Int) (x : Wt) (l : List Wt) (hx : c.rv = x :: l) :
    Calls Tryz.prog 114 #[.pointer (some ⟨b, 0, none⟩), .int .i64 v] w (DelP w S b { c with rv := l } (wakeOf x v true false)) := by
  obtain ⟨rb, qb, sb, R, A, B, h⟩ := h
  obtain ⟨_, p1, _, _, _, _⟩ := h.cells
  have hq := h.recv
  rw [hx] at hq
  have Hq := Lib.hid (wait_pop_some w A qb x l hq); have H := Lib.hid h
  clear hq h hx
  obtain ⟨t, k, y⟩ := x
  go_enter Tryz.func114, Tryz.ntmps114
  go_wp2_with fail
  refine Hq.out.mono ?_
  rintro e w1 ⟨rfl, hf1, hq1⟩
  have Hf1 := Lib.hid hf1; have Hq1 := Lib.hid hq1
  clear hf1 hq1
  go_wp2_with fail
  go_ret
  have hc := H.out.toRecv Hf1.out Hq1.out
  have hfa : Fr Nob w1 (w1.alloc (.cells #[.int .i64 t, .int .i64 k, .int .i64 y] 154)) := (Fr.refl _ _).alloc _
  have hfS : Fr S w w1 := Hf1.out.mono fun k _ q => (H.out.subA k q).1
  have hz := Hf1.out.size
  exact ⟨w1.heap.size + 1, by simp, (hfS.trans0 hfa.none).alloc _, ⟨rb, qb, sb, R, A, B, (hc.fr0 hfa).fr0 ((Fr.refl _ _).alloc _)⟩, by
    have := one_wake (w1.alloc (.cells #[.int .i64 t, .int .i64 k, .int .i64 y] 154)) S w.heap.size (t, k, v, true, false) (by simp; omega) (fun q => by have := H.out.lt _ q; simp at this; omega)
    rw [show (w1.alloc (.cells #[.int .i64 t, .int .i64 k, .int .i64 y] 154)).heap.size = w1.heap.size + 1 by simp] at this
    exact this⟩
theorem deliver_none {w : World} {S : Nat → Prop} {b : Nat} {c : ChS} (h : ChanAt w S b c) (v : Int) (hx : c.rv = []) :
    Calls Tryz.prog 114 #[.pointer (some ⟨b, 0, none⟩), .int .i64 v] w fun e w' => e = .returned (.slice none 0 0) ∧ Fr Nob w w' := by
  obtain ⟨rb, qb, sb, R, A, B, h⟩ := h
  obtain ⟨_, p1, _, _, _, _⟩ := h.cells
  have hq := h.recv
  rw [hx] at hq
  have Hq := Lib.hid (wait_pop_none w A qb hq)
  clear hq h hx
  go_enter Tryz.func114, Tryz.ntmps114
  go_wp2_with fail
  refine Hq.out.mono ?_
  rintro e w1 ⟨rfl, hf1⟩
  have Hf1 := Lib.hid hf1
  clear hf1
  go_wp2_with fail
  go_ret
  exact ⟨rfl, Hf1.out.alloc _⟩
def SendP (w : World) (S : Nat → Prop) (b : Nat) (c : ChS) (d : Bool) (l : List Wk) (n : Nat) (er : Int) (e : Ending) (w' : World) : Prop := ∃ (A : Option Addr) (cp : Nat), e = .returned (.tuple #[.bool d, .slice A n cp, .int .i64 er]) ∧ Fr S w w' ∧ ChanAt w' S b c ∧ Sl w' (Off w.heap.size S) 225 5 (.slice A n cp) n (wks l)
theorem chan_send {w : World} {S : Nat → Prop} {b : Nat} {c c' : ChS} (h : ChanAt w S b c) (v : Int) (d : Bool) (l : List Wk) (n : Nat) (er : Int) (hr : c.sendR v = (d, l, er)) (hs : c.sendS v = c') (hn : l.length = n) :
    Calls Tryz.prog 170 #[.pointer (some ⟨b, 0, none⟩), .int .i64 v] w (SendP w S b c' d l n er) := by
  have hm := fun m hm => chan_mute w S b c h m hm
  by_cases hmu : c.mute = true
  · unfold ChS.sendR at hr; unfold ChS.sendS at hs
    rw [if_pos hmu] at hr hs
    cases hr; subst hs; subst hn
    have Hm := Lib.hid (hm true hmu); have H := Lib.hid h
    clear hm h hmu
    go_enter Tryz.func170, Tryz.ntmps170
    go_wp2_with fail
    refine Hm.out.mono ?_
    rintro e _ ⟨rfl, rfl⟩
    go_wp2_with fail
    go_ret3
    exact ⟨none, 0, rfl, Fr.refl _ _, H.out, Sl.nil _ _ _ _⟩
  · have hmu' : c.mute = false := by simpa using hmu
    unfold ChS.sendR at hr; unfold ChS.sendS at hs
    rw [if_neg hmu] at hr hs
    have Hm := Lib.hid (hm false hmu')
    clear hm hmu hmu'
    by_cases hcl : c.closed = true
    · rw [if_pos hcl] at hr hs
      cases hr; subst hs; subst hn
      obtain ⟨rb, qb, sb, R, A, B, hp⟩ := id h
      obtain ⟨_, _, _, _, _, p5⟩ := hp.cells
      rw [hcl] at p5
      have H := Lib.hid h
      clear hp h hcl
      go_enter Tryz.func170, Tryz.ntmps170
      go_wp2_with fail
      refine Hm.out.mono ?_
      rintro e _ ⟨rfl, rfl⟩
      go_wp2_with fail
      go_ret3
      exact ⟨none, 0, rfl, Fr.refl _ _, H.out, Sl.nil _ _ _ _⟩
    · rw [if_neg hcl] at hr hs
      have hcl' : c.closed = false := by simpa using hcl
      obtain ⟨rb, qb, sb, R, A, B, hp⟩ := id h
      obtain ⟨p0, _, _, _, _, p5⟩ := hp.cells
      rw [hcl'] at p5
      clear hcl hcl'
      obtain ⟨rv, hrv⟩ : ∃ rv, c.rv = rv := ⟨_, rfl⟩
      rw [hrv] at hr hs
      cases rv with
      | cons x r =>
        dsimp only at hr hs
        cases hr; subst hs; subst hn
        have Hd := Lib.hid (deliver_some h v x r hrv)
        clear h hp hrv
        go_enter Tryz.func170, Tryz.ntmps170
        go_wp2_with fail
        refine Hm.out.mono ?_
        rintro e _ ⟨rfl, rfl⟩
        go_wp2_with fail
        refine Hd.out.mono ?_
        rintro e w1 ⟨g, rfl, hf, hc, hs⟩
        have Hf := Lib.hid hf; have Hc := Lib.hid hc; have Hs := Lib.hid hs
        clear hf hc hs
        go_wp2_with fail
        go_ret3
        exact ⟨_, _, rfl, Hf.out, Hc.out, Hs.out⟩
      | nil =>
        dsimp only at hr hs
        cases hr
        subst hn
        have Hd := Lib.hid (deliver_none h v hrv)
        have hring := fun W (hf : Fr Nob w W) => (hp.fr0 hf).ring
        have H := Lib.hid hp; have Hrv := Lib.hid hrv
        by_cases hfull : c.q.length < c.size
        · rw [if_pos hfull] at hs
          subst hs
          have hpush := fun W (hf : Fr Nob w W) => ring_push_yes W R rb c.size c.q v (hring W hf) hfull
          have Hp := Lib.hid hpush
          have hdec : decide (c.q.length < c.size) = true := decide_eq_true hfull
          rw [hdec]
          clear h hp hring hpush hfull hdec hrv
          go_enter Tryz.func170, Tryz.ntmps170
          go_wp2_with fail
          refine Hm.out.mono ?_
          rintro e _ ⟨rfl, rfl⟩
          go_wp2_with fail
          refine Hd.out.mono ?_
          rintro e w1 ⟨rfl, hf⟩
          have q0 := hf.cell (p := ⟨b, 0, none⟩) id p0
          have Hf := Lib.hid hf
          clear hf
          go_wp2_with fail
          refine (Hp.out w1 Hf.out).mono ?_
          rintro e w2 ⟨rfl, hf2, hr2⟩
          have Hf2 := Lib.hid hf2; have Hr2 := Lib.hid hr2
          clear hf2 hr2
          go_wp2_with fail
          go_ret3
          exact ⟨none, 0, rfl, Hf.out.none.trans0 (Hf2.out.mono fun k _ q => (H.out.subR k q).1), ⟨rb, qb, sb, R, A, B, by have q := (H.out.fr0 Hf.out).toRing Hf2.out Hr2.out; rw [Hrv.out] at q; exact q⟩, Sl.nil _ _ _ _⟩
        · rw [if_neg hfull] at hs
          subst hs
          have hpush := fun W (hf : Fr Nob w W) => ring_push_no W R rb c.size c.q v (hring W hf) (by have := hp.ring.len; omega)
          have Hp := Lib.hid hpush
          have hdec : decide (c.q.length < c.size) = false := decide_eq_false hfull
          rw [hdec]
          clear h hp hring hpush hfull hdec hrv
          go_enter Tryz.func170, Tryz.ntmps170
          go_wp2_with fail
          refine Hm.out.mono ?_
          rintro e _ ⟨rfl, rfl⟩
          go_wp2_with fail
          refine Hd.out.mono ?_
          rintro e w1 ⟨rfl, hf⟩
          have q0 := hf.cell (p := ⟨b, 0, none⟩) id p0
          have Hf := Lib.hid hf
          clear hf
          go_wp2_with fail
          refine (Hp.out w1 Hf.out).mono ?_
          rintro e w2 ⟨rfl, hf2⟩
          have Hf2 := Lib.hid (Fr.ofDrew hf2)
          clear hf2
          go_wp2_with fail
          go_ret3
          exact ⟨none, 0, rfl, (Hf.out.trans0 Hf2.out).none, ⟨rb, qb, sb, R, A, B, H.out.fr0 (Hf.out.trans0 Hf2.out)⟩, Sl.nil _ _ _ _⟩
def PutP (w : World) (S : Nat → Prop) (b : Nat) (c : ChS) (l : List Wk) (n : Nat) (k : Bool) (e : Ending) (w' : World) : Prop := ∃ (A : Option Addr) (cp : Nat), e = .returned (.tuple #[.slice A n cp, .bool k]) ∧ Fr S w w' ∧ ChanAt w' S b c ∧ Sl w' (Off w.heap.size S) 225 5 (.slice A n cp) n (wks l)
theorem chan_put {w : World} {S : Nat → Prop} {b : Nat} {c c' : ChS} (h : ChanAt w S b c) (v : Int) (l : List Wk) (n : Nat) (d : Bool) (hr : c.putR v = (l, d)) (hs : c.putS v = c') (hn : l.length = n) :
    Calls Tryz.prog 72 #[.pointer (some ⟨b, 0, none⟩), .int .i64 v] w (PutP w S b c' l n d) := by
  unfold ChS.putR at hr; unfold ChS.putS at hs
  obtain ⟨rb, qb, sb, R, A, B, hp⟩ := id h
  obtain ⟨p0, _, _, p3, _, _⟩ := hp.cells
  obtain ⟨t, ht⟩ : ∃ t, c.timed = t := ⟨_, rfl⟩
  rw [ht] at hr hs p3
  cases t with
  | false =>
    rw [if_pos (show (!false) = true from rfl)] at hr hs
    cases hr; subst hs; subst hn
    have H := Lib.hid h
    clear h hp ht
    go_enter Tryz.func72, Tryz.ntmps72
    go_wp2_with fail
    go_ret2
    exact ⟨none, 0, rfl, Fr.refl _ _, H.out, Sl.nil _ _ _ _⟩
  | true =>
    rw [if_neg (show ¬ (!true) = true from by simp)] at hr hs
    obtain ⟨rv, hrv⟩ : ∃ rv, c.rv = rv := ⟨_, rfl⟩
    rw [hrv] at hr hs
    cases rv with
    | cons x r =>
      dsimp only at hr hs
      cases hr; subst hs; subst hn
      have Hd := Lib.hid (deliver_some h v x r hrv)
      have Ht := Lib.hid ht
      clear h hp hrv ht
      go_enter Tryz.func72, Tryz.ntmps72
      go_wp2_with fail
      refine Hd.out.mono ?_
      rintro e w1 ⟨g, rfl, hf, hc, hs⟩
      have Hf := Lib.hid hf; have Hc := Lib.hid hc; have Hs := Lib.hid hs
      clear hf hc hs
      go_wp2_with fail
      go_ret2
      exact ⟨_, _, rfl, Hf.out, by have q := Hc.out; rw [Ht.out] at q; exact q, Hs.out⟩
    | nil =>
      dsimp only at hr hs
      cases hr
      subst hn
      have Hd := Lib.hid (deliver_none h v hrv)
      have hring := fun W (hf : Fr Nob w W) => (hp.fr0 hf).ring
      have H := Lib.hid hp; have Hrv := Lib.hid hrv; have Ht := Lib.hid ht
      by_cases hfull : c.q.length < c.size
      · rw [if_pos hfull] at hs
        subst hs
        have hpush := fun W (hf : Fr Nob w W) => ring_push_yes W R rb c.size c.q v (hring W hf) hfull
        have Hp := Lib.hid hpush
        have hdec : decide (c.q.length < c.size) = true := decide_eq_true hfull
        rw [hdec]
        clear h hp hring hpush hfull hdec hrv ht
        go_enter Tryz.func72, Tryz.ntmps72
        go_wp2_with fail
        refine Hd.out.mono ?_
        rintro e w1 ⟨rfl, hf⟩
        have q0 := hf.cell (p := ⟨b, 0, none⟩) id p0
        have Hf := Lib.hid hf
        clear hf
        go_wp2_with fail
        refine (Hp.out w1 Hf.out).mono ?_
        rintro e w2 ⟨rfl, hf2, hr2⟩
        have Hf2 := Lib.hid hf2; have Hr2 := Lib.hid hr2
        clear hf2 hr2
        go_wp2_with fail
        go_ret2
        exact ⟨none, 0, rfl, Hf.out.none.trans0 (Hf2.out.mono fun k _ q => (H.out.subR k q).1), ⟨rb, qb, sb, R, A, B, by have q := (H.out.fr0 Hf.out).toRing Hf2.out Hr2.out; rw [Hrv.out, Ht.out] at q; exact q⟩, Sl.nil _ _ _ _⟩
      · rw [if_neg hfull] at hs
        have hpush := fun W (hf : Fr Nob w W) => ring_push_no W R rb c.size c.q v (hring W hf) (by have := hp.ring.len; omega)
        have Hp := Lib.hid hpush
        have hdec : decide (c.q.length < c.size) = false := decide_eq_false hfull
        rw [hdec]
        subst hs
        clear h hp hring hpush hfull hdec hrv ht
        go_enter Tryz.func72, Tryz.ntmps72
        go_wp2_with fail
        refine Hd.out.mono ?_
        rintro e w1 ⟨rfl, hf⟩
        have q0 := hf.cell (p := ⟨b, 0, none⟩) id p0
        have Hf := Lib.hid hf
        clear hf
        go_wp2_with fail
        refine (Hp.out w1 Hf.out).mono ?_
        rintro e w2 ⟨rfl, hf2⟩
        have Hf2 := Lib.hid (Fr.ofDrew hf2)
        clear hf2
        go_wp2_with fail
        go_ret2
        exact ⟨none, 0, rfl, (Hf.out.trans0 Hf2.out).none, ⟨rb, qb, sb, R, A, B, H.out.fr0 (Hf.out.trans0 Hf2.out)⟩, Sl.nil _ _ _ _⟩
theorem chan_drop {w : World} {S : Nat → Prop} {b : Nat} {c c' : ChS} (h : ChanAt w S b c) (d : Bool) (hr : c.dropR = d) (hs : c.dropS = c') :
    Calls Tryz.prog 181 #[.pointer (some ⟨b, 0, none⟩)] w fun e w' => e = .returned (.bool d) ∧ Fr S w w' ∧ ChanAt w' S b c' := by
  unfold ChS.dropR at hr; unfold ChS.dropS at hs
  obtain ⟨rb, qb, sb, R, A, B, hp⟩ := id h
  obtain ⟨p0, _, _, p3, _, _⟩ := hp.cells
  obtain ⟨t, ht⟩ : ∃ t, c.timed = t := ⟨_, rfl⟩
  rw [ht] at hr hs p3
  cases t with
  | false =>
    rw [if_neg (by simp)] at hs
    subst hs; subst hr
    have H := Lib.hid h
    clear h hp ht
    go_enter Tryz.func181, Tryz.ntmps181
    go_wp2_with fail
    go_ret
    exact ⟨rfl, Fr.refl _ _, H.out⟩
  | true =>
    rw [if_pos rfl] at hs
    subst hs
    have hcl := ring_clear w R rb c.size c.q hp.ring
    have hr' : decide (0 < c.q.length) = d := by simpa using hr
    generalize c.q.length = n at *
    have Hcl := Lib.hid hcl; have H := Lib.hid hp; have Hr := Lib.hid hr'; have Ht := Lib.hid ht
    clear h hp hcl hr hr' ht
    go_enter Tryz.func181, Tryz.ntmps181
    go_wp2_with fail
    refine Hcl.out.mono ?_
    rintro e w1 ⟨rfl, hf, hr1⟩
    have Hf := Lib.hid hf; have Hr1 := Lib.hid hr1
    clear hf hr1
    go_wp2_with fail
    go_ret
    exact ⟨by rw [← Hr.out]; rfl, Hf.out.mono fun k _ q => (H.out.subR k q).1, rb, qb, sb, R, A, B, by have q := H.out.toRing Hf.out Hr1.out; rw [Ht.out] at q; exact q⟩
def RecvP (w : World) (S : Nat → Prop) (b : Nat) (c : ChS) (v : Int) (ok d : Bool) (l : List Wk) (n : Nat) (e : Ending) (w' : World) : Prop := ∃ (A : Option Addr) (cp : Nat), e = .returned (.tuple #[.int .i64 v, .bool ok, .bool d, .slice A n cp]) ∧ Fr S w w' ∧ ChanAt w' S b c ∧ Sl w' (Off w.heap.size S) 225 5 (.slice A n cp) n (wks l)
section
variable {w : World} {S : Nat → Prop} {b rb qb sb : Nat} {R A B : Nat → Prop} {c : ChS} (h : ChP w S b rb qb sb R A B c)
include h
theorem recv_none (hq : c.q = []) (hsd : c.sd = []) : Calls Tryz.prog 172 #[.pointer (some ⟨b, 0, none⟩)] w (RecvP w S b c 0 false c.closed [] 0) := by
  obtain ⟨p0, p1, p2, p3, p4, p5⟩ := h.cells
  have H := Lib.hid h
  have hr := h.ring; have hd := h.send
  rw [hq] at hr
  rw [hsd] at hd
  have Hr := Lib.hid (ring_pop_none w R rb c.size hr)
  have Hd := Lib.hid (fun W (hf : Fr Nob w W) => wait_pop_none W B sb (hd.fr0 hf))
  generalize c.closed = cl at *
  clear h hr hd hq hsd
  go_enter Tryz.func172, Tryz.ntmps172
  go_wp2_with fail
  refine Hr.out.mono ?_
  rintro e w1 ⟨rfl, hf1⟩
  have Hf1 := Lib.hid (Fr.ofDrew hf1)
  have q2 := Hf1.out.cell (p := ⟨b, 2, none⟩) id p2
  clear hf1
  go_wp2_with fail
  refine (Hd.out w1 Hf1.out).mono ?_
  rintro e w2 ⟨rfl, hf2⟩
  have Hf2 := Lib.hid (Hf1.out.trans0 hf2)
  have q5 := Hf2.out.cell (p := ⟨b, 5, none⟩) id p5
  have q5' := ((Fr.refl Nob w2).alloc (.cells #[.int .i64 0, .int .i64 0, .int .i64 0] 154)).cell (p := ⟨b, 5, none⟩) id q5
  clear hf2
  go_wp2_with fail
  go_quiet (fail)
  go_wp2_with fail
  exact bodyPost_ret (v := .tuple #[.int .i64 0, .bool false, .bool cl, .slice none 0 0]) (by simp [results, Tryz.results172, go_sem]) rfl ⟨none, 0, rfl, (((Hf2.out.alloc _).drewN _)).none, ⟨rb, qb, sb, R, A, B, H.out.fr0 ((Hf2.out.alloc _).drewN _)⟩, Sl.nil _ _ _ _⟩
theorem recv_val (v : Int) (r : List Int) (hq : c.q = v :: r) (hsd : c.sd = []) : Calls Tryz.prog 172 #[.pointer (some ⟨b, 0, none⟩)] w (RecvP w S b { c with q := r } v true true [] 0) := by
  obtain ⟨p0, p1, p2, p3, p4, p5⟩ := h.cells
  have H := Lib.hid h
  have hr := h.ring
  rw [hq] at hr
  have Hr := Lib.hid (ring_pop_some w R rb c.size v r hr)
  have Hd := Lib.hid (fun W (hf : Fr R w W) => wait_pop_none W B sb (by have := h.send; rw [hsd] at this; exact this.fr hf (fun k q q' => (h.subB k q).2.2.1 q')))
  have hb : ¬ R b := fun q => (h.subR b q).2 rfl
  have Hb := Lib.hid hb
  clear h hr hq hsd hb
  go_enter Tryz.func172, Tryz.ntmps172
  go_wp2_with fail
  refine Hr.out.mono ?_
  rintro e w1 ⟨rfl, hf1, hr1⟩
  have Hf1 := Lib.hid hf1; have Hr1 := Lib.hid hr1
  have q2 := Hf1.out.cell (p := ⟨b, 2, none⟩) Hb.out p2
  clear hf1 hr1
  go_wp2_with fail
  refine (Hd.out w1 Hf1.out).mono ?_
  rintro e w2 ⟨rfl, hf2⟩
  have Hf2 := Lib.hid hf2
  clear hf2
  go_wp2_with fail
  exact bodyPost_ret (v := .tuple #[.int .i64 v, .bool true, .bool true, .slice none 0 0]) (by simp [results, Tryz.results172, go_sem]) rfl ⟨none, 0, rfl, (((Hf1.out.mono fun k _ q => (H.out.subR k q).1).trans0 Hf2.out.none).alloc _), ⟨rb, qb, sb, R, A, B, (H.out.toRing Hf1.out Hr1.out).fr0 (Hf2.out.alloc _)⟩, Sl.nil _ _ _ _⟩
theorem recv_wait (x : Wt) (l : List Wt) (hq : c.q = []) (hsd : c.sd = x :: l) : Calls Tryz.prog 172 #[.pointer (some ⟨b, 0, none⟩)] w (RecvP w S b { c with sd := l } x.2.2 true true [wakeOf x 0 true false] 1) := by
  obtain ⟨p0, p1, p2, p3, p4, p5⟩ := h.cells
  have H := Lib.hid h
  have hr := h.ring
  rw [hq] at hr
  have Hr := Lib.hid (ring_pop_none w R rb c.size hr)
  have Hd := Lib.hid (fun W (hf : Fr Nob w W) => wait_pop_some W B sb x l (by have := h.send; rw [hsd] at this; exact this.fr0 hf))
  clear h hr hq hsd
  obtain ⟨t, k, y⟩ := x
  go_enter Tryz.func172, Tryz.ntmps172
  go_wp2_with fail
  refine Hr.out.mono ?_
  rintro e w1 ⟨rfl, hf1⟩
  have Hf1 := Lib.hid (Fr.ofDrew hf1)
  have q2 := Hf1.out.cell (p := ⟨b, 2, none⟩) id p2
  clear hf1
  go_wp2_with fail
  refine (Hd.out w1 Hf1.out).mono ?_
  rintro e w2 ⟨rfl, hf2, hq2⟩
  have Hf2 := Lib.hid hf2; have Hq2 := Lib.hid hq2
  clear hf2 hq2
  go_wp2_with fail
  have hz : w.heap.size ≤ w2.heap.size := Nat.le_trans Hf1.out.size Hf2.out.size
  have hfa : Fr Nob w2 (w2.alloc (.cells #[.int .i64 t, .int .i64 k, .int .i64 y] 154)) := (Fr.refl _ _).alloc _
  refine bodyPost_ret (v := .tuple #[.int .i64 y, .bool true, .bool true, .slice (some ⟨w2.heap.size + 1, 0, none⟩) 1 1]) (by simp [results, Tryz.results172, go_sem]) rfl ⟨_, _, rfl, ((Hf1.out.none.trans0 (Hf2.out.mono fun k _ q => (H.out.subB k q).1)).alloc _).alloc _, ⟨rb, qb, sb, R, A, B, (((H.out.fr0 Hf1.out).toSend Hf2.out Hq2.out).fr0 hfa).fr0 ((Fr.refl _ _).alloc _)⟩, ?_⟩
  have := one_wake (w2.alloc (.cells #[.int .i64 t, .int .i64 k, .int .i64 y] 154)) S w.heap.size (t, k, 0, true, false) (by simp; omega) (fun q => by have := H.out.lt _ q; simp at this; omega)
  rw [show (w2.alloc (.cells #[.int .i64 t, .int .i64 k, .int .i64 y] 154)).heap.size = w2.heap.size + 1 by simp] at this
  exact this
theorem recv_both (v : Int) (r : List Int) (x : Wt) (l : List Wt) (hq : c.q = v :: r) (hsd : c.sd = x :: l) : Calls Tryz.prog 172 #[.pointer (some ⟨b, 0, none⟩)] w (RecvP w S b { c with q := r ++ [x.2.2], sd := l } v true true [wakeOf x 0 true false] 1) := by
  obtain ⟨p0, p1, p2, p3, p4, p5⟩ := h.cells
  have H := Lib.hid h
  have hr := h.ring
  have hlen := h.ring.len
  rw [hq] at hr hlen
  simp only [List.length_cons] at hlen
  have Hr := Lib.hid (ring_pop_some w R rb c.size v r hr)
  have Hd := Lib.hid (fun W (hf : Fr R w W) => wait_pop_some W B sb x l (by have := h.send; rw [hsd] at this; exact this.fr hf (fun k q q' => (h.subB k q).2.2.1 q')))
  have hb : ¬ R b := fun q => (h.subR b q).2 rfl
  have hb2 : ¬ B b := fun q => (h.subB b q).2.1 rfl
  have Hb := Lib.hid hb; have Hb2 := Lib.hid hb2
  have hpu := fun W (hr : RingAt W R rb c.size r) => ring_push_yes W R rb c.size r x.2.2 hr (by omega)
  have Hpu := Lib.hid hpu
  clear h hr hq hsd hb hb2 hlen hpu
  obtain ⟨t, k, y⟩ := x
  go_enter Tryz.func172, Tryz.ntmps172
  go_wp2_with fail
  refine Hr.out.mono ?_
  rintro e w1 ⟨rfl, hf1, hr1⟩
  have Hf1 := Lib.hid hf1; have Hr1 := Lib.hid hr1
  have q2 := Hf1.out.cell (p := ⟨b, 2, none⟩) Hb.out p2
  have q0 := Hf1.out.cell (p := ⟨b, 0, none⟩) Hb.out p0
  clear hf1 hr1
  go_wp2_with fail
  refine (Hd.out w1 Hf1.out).mono ?_
  rintro e w2 ⟨rfl, hf2, hq2⟩
  have Hf2 := Lib.hid hf2; have Hq2 := Lib.hid hq2
  have u0 := hf2.cell (p := ⟨b, 0, none⟩) Hb2.out q0
  clear hf2 hq2
  obtain ⟨w3, hw3⟩ : ∃ w3, w3 = (w2.alloc (.cells #[.int .i64 t, .int .i64 k, .int .i64 y] 154)).alloc (.cells #[.int .i64 t, .int .i64 k, .int .i64 0, .bool true, .bool false] 225) := ⟨_, rfl⟩
  have hf3 : Fr Nob w2 w3 := by rw [hw3]; exact ((Fr.refl _ _).alloc _).alloc _
  have v0 := hf3.cell (p := ⟨b, 0, none⟩) id u0
  have v2 : w3.cell? ⟨w2.heap.size, 2, none⟩ = some (.int .i64 y) := by rw [hw3]; exact blk_cell (((Fr.refl Nob _).alloc _).blk id (heap_alloc_new w2 _)) 2 rfl
  have hz : w.heap.size ≤ w2.heap.size := Nat.le_trans Hf1.out.size Hf2.out.size
  have hs3 : Sl w3 (Off w.heap.size S) 225 5 (.slice (some ⟨w2.heap.size + 1, 0, none⟩) 1 1) 1 (wks [(t, k, 0, true, false)]) := by
    have := one_wake (w2.alloc (.cells #[.int .i64 t, .int .i64 k, .int .i64 y] 154)) S w.heap.size (t, k, 0, true, false) (by simp; omega) (fun q => by have := H.out.lt _ q; simp at this; omega)
    rw [show (w2.alloc (.cells #[.int .i64 t, .int .i64 k, .int .i64 y] 154)).heap.size = w2.heap.size + 1 by simp] at this
    rw [hw3]; exact this
  have Hf3 := Lib.hid hf3; have Hs3 := Lib.hid hs3
  clear hf3 hs3 u0 q0 q2 p0 p2
  go_wp2_with fail
  rw [← hw3]
  clear hw3
  go_still_tail 6, (by kernel_rfl)
  change wpList _ _ _ _ _ w3.drew
  have Hf4 := Lib.hid (Hf3.out.drew)
  have hr4 : RingAt w3.drew R rb c.size r := (Hr1.out.fr Hf2.out (fun k _ q q' => (H.out.subB k q').2.2.1 q)).fr Hf4.out (fun _ _ _ q => q)
  have Hp4 := Lib.hid (Hpu.out w3.drew hr4)
  clear hr4
  go_wp2_with fail
  refine Hp4.out.mono ?_
  rintro e w5 ⟨rfl, hf5, hr5⟩
  have Hf5 := Lib.hid hf5; have Hr5 := Lib.hid hr5
  clear hf5 hr5
  go_wp2_with fail
  refine bodyPost_ret (v := .tuple #[.int .i64 v, .bool true, .bool true, .slice (some ⟨w2.heap.size + 1, 0, none⟩) 1 1]) (by simp [results, Tryz.results172, go_sem]) rfl ⟨_, _, rfl, ?_, ⟨rb, qb, sb, R, A, B, ?_⟩, ?_⟩
  · exact (((Hf1.out.mono fun k _ q => (H.out.subR k q).1).trans0 (Hf2.out.mono fun k _ q => (H.out.subB k q).1)).trans0 Hf4.out.none).trans0 (Hf5.out.mono fun k _ q => (H.out.subR k q).1)
  · have h1 := (((H.out.toRing Hf1.out Hr1.out).toSend Hf2.out Hq2.out).fr0 Hf4.out).toRing Hf5.out Hr5.out
    exact h1
  · exact (Hs3.out.drew).fr Hf5.out fun k q q' => q.2 (H.out.subR k q').1
end
theorem chan_recv {w : World} {S : Nat → Prop} {b : Nat} {c c' : ChS} (h : ChanAt w S b c) (v : Int) (ok d : Bool) (l : List Wk) (n : Nat) (hr : c.recvR = (v, ok, d, l)) (hs : c.recvS = c') (hn : l.length = n) :
    Calls Tryz.prog 172 #[.pointer (some ⟨b, 0, none⟩)] w (RecvP w S b c' v ok d l n) := by
  obtain ⟨rb, qb, sb, R, A, B, h⟩ := h
  unfold ChS.recvR at hr; unfold ChS.recvS at hs
  obtain ⟨q, hq⟩ : ∃ q, c.q = q := ⟨_, rfl⟩
  obtain ⟨sd, hsd⟩ : ∃ sd, c.sd = sd := ⟨_, rfl⟩
  rw [hq, hsd] at hr hs
  cases q with
  | nil =>
    cases sd with
    | nil => cases hr; subst hs; subst hn; exact recv_none h hq hsd
    | cons x r => cases hr; subst hs; subst hn; have := recv_wait h x r hq hsd; rw [hq] at this; exact this
  | cons u q =>
    cases sd with
    | nil => cases hr; subst hs; subst hn; have := recv_val h v q hq hsd; rw [hsd] at this; exact this
    | cons x r => cases hr; subst hs; subst hn; exact recv_both h v q x r hq hsd
theorem rowsGet {α : Type} (en : α → List Value) {sz : Nat} (hen : ∀ a, (en a).length = sz) : ∀ (l : List α) (i j : Nat) (a : α), l[i]? = some a → j < sz → (l.flatMap en)[i * sz + j]? = (en a)[j]?
  | [], i, j, a, h, _ => by simp at h
  | x :: l, 0, j, a, h, hj => by
    simp at h; subst h
    rw [List.flatMap_cons, Nat.zero_mul, Nat.zero_add, List.getElem?_append_left (by rw [hen]; exact hj)]
  | x :: l, i + 1, j, a, h, hj => by
    rw [List.flatMap_cons, List.getElem?_append_right (by rw [hen, Nat.add_mul]; omega), hen, show (i + 1) * sz + j - sz = i * sz + j by rw [Nat.add_mul]; omega]
    exact rowsGet en hen l i j a (by simpa using h) hj
def IxQ (P : Bool) (w : World) (e : Ending) (w' : World) : Prop := ∃ r : Int, e = .returned (.int .i64 r) ∧ decide (0 ≤ r) = P ∧ Fr Nob w w'
/-- waits: the test. -/
theorem test_waits (w : World) (x : Wt) (t : Int) (pb : Nat) (hp : w.cell? ⟨pb, 0, none⟩ = some (.int .i64 t)) :
    Calls Tryz.prog 198 #[.agg #[.int .i64 x.1, .int .i64 x.2.1, .int .i64 x.2.2], .pointer (some ⟨pb, 0, none⟩)] w fun e w' => e = .returned (.bool (x.1 != t)) ∧ Fr Nob w w' := by
  obtain ⟨a, d, e⟩ := x
  have hp1 := ((Fr.refl Nob w).alloc (.cells #[.int .i64 a, .int .i64 d, .int .i64 e] 154)).cell (p := ⟨pb, 0, none⟩) id hp
  go_enter Tryz.func198, Tryz.ntmps198
  go_wp2_with fail
  go_ret
  exact ⟨by first | rfl | simp, (Fr.refl _ _).alloc _⟩
set_option maxHeartbeats 1000000 in
theorem index_waits (w : World) (v : Value) (l : List Wt) (n pb : Nat) (t : Int) (hn : l.length = n) (h : Rd w 3 v n (l.flatMap wtCells)) (hp : w.cell? ⟨pb, 0, none⟩ = some (.int .i64 t)) :
    Calls Tryz.prog 211 #[v, .func (.func 198) #[] #[.pointer (some ⟨pb, 0, none⟩)]] w (IxQ (l.any fun y => y.1 != t) w) := by
  obtain ⟨_, hl, A, c, rfl, hc1, hc2, hA⟩ := h
  unfold maxLen at hl
  have hyes : ∀ (k : Nat) (x : Wt), l[k]? = some x → (x.1 != t) = true → (l.any fun y => y.1 != t) = true := fun k x hk e => List.any_eq_true.2 ⟨x, List.mem_of_getElem? hk, e⟩
  have hno : (∀ (k : Nat) (x : Wt), k < n → l[k]? = some x → (x.1 != t) = false) → (l.any fun y => y.1 != t) = false := fun hh => by
    rw [List.any_eq_false]
    intro y hy
    obtain ⟨k, hk, e⟩ := List.mem_iff_getElem.1 hy
    rw [hh k y (by omega) (by rw [List.getElem?_eq_getElem hk, e])]; simp
  have hg : ∀ k, k < n → ∃ x : Wt, l[k]? = some x ∧ ∀ j u, j < 3 → (wtCells x)[j]? = some u → (l.flatMap wtCells)[k * 3 + j]? = some u := fun k hk => by
    have h0 : l[k]? = some (l[k]'(by omega)) := by simp
    exact ⟨_, h0, fun j u hj hu => (rowsGet wtCells (fun _ => rfl) l k j _ h0 hj).trans hu⟩
  have HA := Lib.hid hA; have Hyes := Lib.hid hyes; have Hno := Lib.hid hno; have Hg := Lib.hid hg; have Hp := Lib.hid hp
  generalize (l.any fun y => y.1 != t) = P at *
  clear hA hyes hno hg hp
  go_enter Tryz.func211, Tryz.ntmps211
  go_wp2_with fail
  go_loopw [8] (fun i wr => ∃ k : Nat, k ≤ n ∧ i = .int .i64 k ∧ Fr Nob w wr ∧ Hid (∀ (j : Nat) (x : Wt), j < k → l[j]? = some x → (x.1 != t) = false)) (fun i _ => n - (intOf i).toNat)
  case atStart => exact ⟨0, Nat.zero_le _, rfl, Fr.refl _ _, Lib.hid fun j x hj => by omega⟩
  case round =>
    obtain ⟨k, hk, rfl, hfr, hall⟩ := hrel
    have Hfr := Lib.hid hfr
    clear hfr
    by_cases hlt : k < n
    · obtain ⟨x, hx, hq⟩ := Hg.out k hlt
      obtain ⟨g, o, rfl, hgl, hc⟩ := HA.out (by omega)
      have hbc := fun W (hf : Fr Nob w W) => test_waits W x t pb (hf.cell id Hp.out)
      have hy := Hyes.out k x hx
      have hall2 : (x.1 != t) = false → ∀ (j : Nat) (y : Wt), j < k + 1 → l[j]? = some y → (y.1 != t) = false := fun hb j y hj hy => by
        by_cases hjk : j = k
        · subst hjk; rw [hx] at hy; cases hy; exact hb
        · exact hall.out j y (by omega) hy
      generalize (x.1 != t) = r at *
      have x0 := Hfr.out.cell (p := ⟨g, o + (k * 3 + 0), none⟩) id (hc _ _ (hq 0 _ (by omega) rfl))
      have x1 := Hfr.out.cell (p := ⟨g, o + (k * 3 + 1), none⟩) id (hc _ _ (hq 1 _ (by omega) rfl))
      have x2 := Hfr.out.cell (p := ⟨g, o + (k * 3 + 2), none⟩) id (hc _ _ (hq 2 _ (by omega) rfl))
      rw [← Nat.add_assoc] at x1 x2
      rw [Nat.add_zero] at x0
      obtain ⟨a, d, e⟩ := x
      dsimp only at x0 x1 x2 hbc
      have Hbc := Lib.hid hbc; have Hy := Lib.hid hy; have Hall2 := Lib.hid hall2
      have hki : (k : Int) < n := by omega
      clear hc hq hx hbc hy hall2
      cases r with
      | false =>
        have Hn2 := Lib.hid (Hall2.out rfl)
        go_wp2_with fail
        refine (Hbc.out _ Hfr.out).mono ?_
        rintro e w2 ⟨rfl, hf2⟩
        have Hf2 := Lib.hid (Hfr.out.trans0 hf2)
        clear hf2
        go_wp2_with fail
        go_roundw
        case rel => exact ⟨k + 1, by omega, by go_num, Hf2.out, Hn2⟩
        case measure => simp [intOf]; omega
      | true =>
        have hP := Hy.out rfl
        have HP := Lib.hid hP
        clear hP
        go_wp2_with fail
        refine (Hbc.out _ Hfr.out).mono ?_
        rintro e w2 ⟨rfl, hf2⟩
        have Hf2 := Lib.hid (Hfr.out.trans0 hf2)
        clear hf2
        go_wp2_with fail
        go_ret
        exact ⟨k, rfl, by rw [HP.out]; simp, Hf2.out⟩
    · obtain rfl : k = n := by omega
      have HP := Lib.hid (Hno.out fun j x hj hx => hall.out j x hj hx)
      go_wp2_with fail
      go_ret
      exact ⟨-1, rfl, by rw [HP.out]; rfl, Hfr.out⟩
theorem contains_waits (w : World) (v : Value) (l : List Wt) (n pb : Nat) (t : Int) (hn : l.length = n) (h : Rd w 3 v n (l.flatMap wtCells)) (hp : w.cell? ⟨pb, 0, none⟩ = some (.int .i64 t)) :
    Calls Tryz.prog 200 #[v, .func (.func 198) #[] #[.pointer (some ⟨pb, 0, none⟩)]] w fun e w' => e = .returned (.bool (l.any fun y => y.1 != t)) ∧ Fr Nob w w' := by
  have H := Lib.hid (index_waits w v l n pb t hn h hp)
  obtain ⟨_, _, A, c, rfl, _⟩ := h
  generalize (l.any fun y => y.1 != t) = P at *
  clear hp
  go_enter Tryz.func200, Tryz.ntmps200
  go_wp2_with fail
  refine H.out.mono ?_
  rintro e w' ⟨r, rfl, hr, hf⟩
  have Hf := Lib.hid hf; have Hr := Lib.hid hr
  clear hf hr
  go_wp2_with fail
  go_ret
  exact ⟨by rw [← Hr.out]; rfl, Hf.out⟩
theorem chan_remove {w : World} {S : Nat → Prop} {b : Nat} {c : ChS} (h : ChanAt w S b c) (t : Int) (n : Nat) (c' : ChS) (hn : c.removeR t = n) (hs : c.removeS t = c') :
    Calls Tryz.prog 165 #[.pointer (some ⟨b, 0, none⟩), .int .i64 t] w fun e w' => e = .returned (.int .i64 (n : Int)) ∧ Fr S w w' ∧ ChanAt w' S b c' := by
  obtain ⟨rb, qb, sb, R, A, B, h⟩ := h
  subst hs
  have h1 := chan_queue h false
  have h2 := fun W (hW : ChP W S b rb qb sb R A B { c with rv := notT c.rv t }) => chan_queue hW true
  have r1 := wait_remove w A qb c.rv t h.recv
  have r2 := fun W (hW : ChP W S b rb qb sb R A B { c with rv := notT c.rv t }) => wait_remove W B sb c.sd t hW.send
  have hb1 := h.recv.few; have hb2 := h.send.few
  unfold ChS.removeR at hn
  simp only [if_neg (show ¬ (false = true) from by simp)] at h1
  simp only [if_pos (show true = true from rfl)] at h2
  obtain ⟨m1, hm1⟩ : ∃ m, m = c.rv.length - (notT c.rv t).length := ⟨_, rfl⟩
  obtain ⟨m2, hm2⟩ : ∃ m, m = c.sd.length - (notT c.sd t).length := ⟨_, rfl⟩
  rw [← hm1] at r1
  rw [← hm1, ← hm2] at hn
  simp only [← hm2] at r2
  have hm1' : m1 ≤ 100000 := by omega
  have hm2' : m2 ≤ 100000 := by omega
  subst hn
  have H := Lib.hid h; have H1 := Lib.hid h1; have H2 := Lib.hid h2; have R1 := Lib.hid r1; have R2 := Lib.hid r2
  clear h h1 h2 r1 r2 hm1 hm2 hb1 hb2
  go_enter Tryz.func165, Tryz.ntmps165
  go_wp2_with fail
  refine H1.out.mono ?_
  rintro e _ ⟨rfl, rfl⟩
  go_wp2_with fail
  refine R1.out.mono ?_
  rintro e w1 ⟨rfl, hf1, hq1⟩
  have Hf1 := Lib.hid hf1
  have Hc1 := Lib.hid (H.out.toRecv hf1 hq1)
  clear hf1 hq1
  go_wp2_with fail
  refine (H2.out w1 Hc1.out).mono ?_
  rintro e _ ⟨rfl, rfl⟩
  go_wp2_with fail
  refine (R2.out w1 Hc1.out).mono ?_
  rintro e w2 ⟨rfl, hf2, hq2⟩
  have Hf2 := Lib.hid hf2
  have Hc2 := Lib.hid (Hc1.out.toSend hf2 hq2)
  clear hf2 hq2
  go_wp2_with fail
  go_ret
  exact ⟨by first | rfl | (push_cast; rfl), (Hf1.out.mono fun k _ q => (H.out.subA k q).1).trans0 (Hf2.out.mono fun k _ q => (H.out.subB k q).1), rb, qb, sb, R, A, B, Hc2.out⟩
theorem chan_can {w : World} {S : Nat → Prop} {b : Nat} {c : ChS} (h : ChanAt w S b c) (s r : Bool) (hr : c.canR s = r) :
    Calls Tryz.prog 203 #[.pointer (some ⟨b, 0, none⟩), .bool s] w fun e w' => e = .returned (.bool r) ∧ ∃ m, w' = w.drewN m := by
  have hm := chan_mute w S b c h _ rfl
  have hf := chan_free w S b c h s _ rfl
  obtain ⟨rb, qb, sb, R, A, B, hp⟩ := h
  obtain ⟨_, _, _, _, _, p5⟩ := hp.cells
  have hq := fun m : Nat => chan_queue (hp.fr0 ((Fr.refl Nob w).drewN m)) (!s)
  have hl : ∀ m : Nat, Calls Tryz.prog 212 #[.pointer (some ⟨if (!s) = true then sb else qb, 0, none⟩)] (w.drewN m) fun e w' => e = .returned (.int .i64 ((c.queue (!s)).length : Int)) ∧ (w.drewN m) = w' := fun m => by
    unfold ChS.queue
    cases s with
    | true => exact wait_len (w.drewN m) A qb c.rv _ rfl (hp.recv.fr0 ((Fr.refl Nob w).drewN m))
    | false => exact wait_len (w.drewN m) B sb c.sd _ rfl (hp.send.fr0 ((Fr.refl Nob w).drewN m))
  unfold ChS.canR at hr
  have hq5 := fun m : Nat => ((Fr.refl Nob w).drewN m).cell (p := ⟨b, 5, none⟩) id p5
  generalize (if (!s) = true then sb else qb) = qq at *
  generalize (c.queue (!s)).length = n at *
  generalize c.mute = mu at *
  generalize c.free s = fr at *
  generalize c.closed = cl at *
  have Hm := Lib.hid hm; have Hf := Lib.hid hf; have Hq := Lib.hid hq; have Hl := Lib.hid hl
  have Hr := Lib.hid hr
  clear hp hm hf hq hl hr hq5
  by_cases hms : (mu && s) = true
  · have Hr2 : Hid (r = false) := Lib.hid (by rw [← Hr.out, if_pos hms])
    obtain ⟨rfl, rfl⟩ := Bool.and_eq_true_iff.1 hms
    clear hms
    go_enter Tryz.func203, Tryz.ntmps203
    go_wp2_with fail
    refine Hm.out.mono ?_
    rintro e _ ⟨rfl, rfl⟩
    go_wp2_with fail
    go_ret
    exact ⟨by rw [Hr2.out]; rfl, 0, rfl⟩
  · have Hr2 : Hid (r = (cl || fr || decide (0 < n))) := Lib.hid (by rw [← Hr.out, if_neg hms])
    have hms' : (mu && s) = false := by simpa using hms
    clear hms
    cases cl with
    | true =>
      have Hr3 : Hid (r = true) := Lib.hid (by rw [Hr2.out]; rfl)
      cases mu with
      | true =>
        have hs0 : s = false := by simpa using hms'
        subst hs0
        clear hms'
        go_enter Tryz.func203, Tryz.ntmps203
        go_wp2_with fail
        refine Hm.out.mono ?_
        rintro e _ ⟨rfl, rfl⟩
        go_wp2_with fail
        go_ret
        exact ⟨by rw [Hr3.out]; rfl, 0, rfl⟩
      | false =>
        clear hms'
        go_enter Tryz.func203, Tryz.ntmps203
        go_wp2_with fail
        refine Hm.out.mono ?_
        rintro e _ ⟨rfl, rfl⟩
        go_wp2_with fail
        go_ret
        exact ⟨by rw [Hr3.out]; rfl, 0, rfl⟩
    | false =>
      cases mu with
      | true =>
        have hs0 : s = false := by simpa using hms'
        subst hs0
        clear hms'
        cases fr with
        | true =>
          have Hr3 : Hid (r = true) := Lib.hid (by rw [Hr2.out]; rfl)
          go_enter Tryz.func203, Tryz.ntmps203
          go_wp2_with fail
          refine Hm.out.mono ?_
          rintro e _ ⟨rfl, rfl⟩
          go_wp2_with fail
          refine Hf.out.mono ?_
          rintro e _ ⟨rfl, m, rfl⟩
          go_wp2_with fail
          go_ret
          exact ⟨by rw [Hr3.out]; rfl, m, rfl⟩
        | false =>
          have Hr3 : Hid (r = decide (0 < n)) := Lib.hid (by rw [Hr2.out]; rfl)
          go_enter Tryz.func203, Tryz.ntmps203
          go_wp2_with fail
          refine Hm.out.mono ?_
          rintro e _ ⟨rfl, rfl⟩
          go_wp2_with fail
          refine Hf.out.mono ?_
          rintro e _ ⟨rfl, m, rfl⟩
          go_wp2_with fail
          refine (Hq.out m).mono ?_
          rintro e _ ⟨rfl, rfl⟩
          go_wp2_with fail
          refine (Hl.out m).mono ?_
          rintro e _ ⟨rfl, rfl⟩
          go_wp2_with fail
          go_ret
          exact ⟨by rw [Hr3.out]; rfl, m, rfl⟩
      | false =>
        clear hms'
        cases fr with
        | true =>
          have Hr3 : Hid (r = true) := Lib.hid (by rw [Hr2.out]; rfl)
          go_enter Tryz.func203, Tryz.ntmps203
          go_wp2_with fail
          refine Hm.out.mono ?_
          rintro e _ ⟨rfl, rfl⟩
          go_wp2_with fail
          refine Hf.out.mono ?_
          rintro e _ ⟨rfl, m, rfl⟩
          go_wp2_with fail
          go_ret
          exact ⟨by rw [Hr3.out]; rfl, m, rfl⟩
        | false =>
          have Hr3 : Hid (r = decide (0 < n)) := Lib.hid (by rw [Hr2.out]; rfl)
          go_enter Tryz.func203, Tryz.ntmps203
          go_wp2_with fail
          refine Hm.out.mono ?_
          rintro e _ ⟨rfl, rfl⟩
          go_wp2_with fail
          refine Hf.out.mono ?_
          rintro e _ ⟨rfl, m, rfl⟩
          go_wp2_with fail
          refine (Hq.out m).mono ?_
          rintro e _ ⟨rfl, rfl⟩
          go_wp2_with fail
          refine (Hl.out m).mono ?_
          rintro e _ ⟨rfl, rfl⟩
          go_wp2_with fail
          go_ret
          exact ⟨by rw [Hr3.out]; rfl, m, rfl⟩
end Go.Proofs.YtcffplgimbbflaaGreat
