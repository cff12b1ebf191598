/- A channel: its values in a ring, and two queues of those who wait, as it lies in blocks of a set S. -/
import Derived.Test.YtdemeghhjnehbaaWaitEasyD
import Derived.Test.YtdemeghhjnehbaaRingD
set_option linter.unusedVariables false
set_option linter.unusedSimpArgs false
namespace Go.Proofs.Ytdemeghhjnehbaa
open Go.RowKit
set_option maxRecDepth 100000

/-- What a channel is. -/
structure ChS where
  size : Nat
  q : List Int
  rv : List Wt
  sd : List Wt
  timed : Bool
  signal : Bool
  closed : Bool
/-- A wake: its task, case, value, whether it received, whether it panics. -/
abbrev Wk := Int × Int × Int × Bool × Bool
abbrev wkEn (x : Wk) : List Value := [.int .i64 x.1, .int .i64 x.2.1, .int .i64 x.2.2.1, .bool x.2.2.2.1, .bool x.2.2.2.2]
abbrev wks (l : List Wk) : List Value := l.flatMap wkEn
def chObj (rb qb sb : Nat) (t s c : Bool) : Obj := .cells #[.pointer (some ⟨rb, 0, none⟩), .pointer (some ⟨qb, 0, none⟩), .pointer (some ⟨sb, 0, none⟩), .bool t, .bool s, .bool c] 85 (0, 0)
/-- The parts of a channel: where they lie. -/
structure ChP (w : World) (S : Nat → Prop) (b rb qb sb : Nat) (R A B : Nat → Prop) (c : ChS) : Prop where
  own : S b
  lt : ∀ k, S k → k < w.heap.size
  subR : ∀ k, R k → S k ∧ k ≠ b
  subA : ∀ k, A k → S k ∧ k ≠ b ∧ ¬ R k
  subB : ∀ k, B k → S k ∧ k ≠ b ∧ ¬ R k ∧ ¬ A k
  blk : w.heap[b]? = some (chObj rb qb sb c.timed c.signal c.closed)
  ring : RingAt w R rb c.size c.q
  recv : WaitAt w A qb c.rv
  send : WaitAt w B sb c.sd
def ChanAt (w : World) (S : Nat → Prop) (b : Nat) (c : ChS) : Prop := ∃ (rb qb sb : Nat) (R A B : Nat → Prop), ChP w S b rb qb sb R A B c
section
variable {w w' : World} {S : Nat → Prop} {b rb qb sb : Nat} {R A B : Nat → Prop} {c : ChS}
theorem ChP.fr (h : ChP w S b rb qb sb R A B c) {F : Nat → Prop} (hf : Fr F w w') (hd : ∀ k, S k → F k → False) : ChP w' S b rb qb sb R A B c :=
  ⟨h.own, fun k q => by have := h.lt k q; have := hf.size; omega, h.subR, h.subA, h.subB, hf.blk (fun q => hd _ h.own q) h.blk, h.ring.fr hf fun k _ q => hd k (h.subR k q).1, h.recv.fr hf fun k q => hd k (h.subA k q).1, h.send.fr hf fun k q => hd k (h.subB k q).1⟩
theorem ChP.fr0 (h : ChP w S b rb qb sb R A B c) (hf : Fr Nob w w') : ChP w' S b rb qb sb R A B c := h.fr hf fun _ _ q => q
theorem ChP.toRing (h : ChP w S b rb qb sb R A B c) (hf : Fr R w w') {q : List Int} (hr : RingAt w' R rb c.size q) : ChP w' S b rb qb sb R A B { c with q := q } :=
  ⟨h.own, fun k q => by have := h.lt k q; have := hf.size; omega, h.subR, h.subA, h.subB, hf.blk (fun q => (h.subR _ q).2 rfl) h.blk, hr, h.recv.fr hf fun k q q' => (h.subA k q).2.2 q', h.send.fr hf fun k q q' => (h.subB k q).2.2.1 q'⟩
theorem ChP.toRecv (h : ChP w S b rb qb sb R A B c) (hf : Fr A w w') {l : List Wt} (hr : WaitAt w' A qb l) : ChP w' S b rb qb sb R A B { c with rv := l } :=
  ⟨h.own, fun k q => by have := h.lt k q; have := hf.size; omega, h.subR, h.subA, h.subB, hf.blk (fun q => (h.subA _ q).2.1 rfl) h.blk, h.ring.fr hf fun k _ q q' => (h.subA k q').2.2 q, hr, h.send.fr hf fun k q q' => (h.subB k q).2.2.2 q'⟩
theorem ChP.toSend (h : ChP w S b rb qb sb R A B c) (hf : Fr B w w') {l : List Wt} (hr : WaitAt w' B sb l) : ChP w' S b rb qb sb R A B { c with sd := l } :=
  ⟨h.own, fun k q => by have := h.lt k q; have := hf.size; omega, h.subR, h.subA, h.subB, hf.blk (fun q => (h.subB _ q).2.1 rfl) h.blk, h.ring.fr hf fun k _ q q' => (h.subB k q').2.2.1 q, h.recv.fr hf fun k q q' => (h.subB k q').2.2.2 q, hr⟩
/-- The set grows by what is new, and the receivers' queue with it. -/
theorem ChP.growRecv (h : ChP w S b rb qb sb R A B c) (hf : Fr A w w') {l : List Wt} (hr : WaitAt w' (And' A w w') qb l) : ChP w' (And' S w w') b rb qb sb R (And' A w w') B { c with rv := l } := by
  refine ⟨.inl h.own, fun k q => ?_, fun k q => ⟨.inl (h.subR k q).1, (h.subR k q).2⟩, fun k q => ?_, fun k q => ⟨.inl (h.subB k q).1, (h.subB k q).2.1, (h.subB k q).2.2.1, fun q' => ?_⟩, hf.blk (fun q => (h.subA _ q).2.1 rfl) h.blk, h.ring.fr hf fun k _ q q' => (h.subA k q').2.2 q, hr, h.send.fr hf fun k q q' => (h.subB k q).2.2.2 q'⟩
  · rcases q with q | q
    · have := h.lt k q; have := hf.size; omega
    · exact q.2
  · rcases q with q | q
    · exact ⟨.inl (h.subA k q).1, (h.subA k q).2⟩
    · exact ⟨.inr q, fun e => by have := h.lt b h.own; omega, fun e => by have := h.lt k (h.subR k e).1; omega⟩
  · rcases q' with q' | q'
    · exact (h.subB k q).2.2.2 q'
    · have := h.lt k (h.subB k q).1; omega
theorem ChP.growSend (h : ChP w S b rb qb sb R A B c) (hf : Fr B w w') {l : List Wt} (hr : WaitAt w' (And' B w w') sb l) : ChP w' (And' S w w') b rb qb sb R A (And' B w w') { c with sd := l } := by
  refine ⟨.inl h.own, fun k q => ?_, fun k q => ⟨.inl (h.subR k q).1, (h.subR k q).2⟩, fun k q => ⟨.inl (h.subA k q).1, (h.subA k q).2⟩, fun k q => ?_, hf.blk (fun q => (h.subB _ q).2.1 rfl) h.blk, h.ring.fr hf fun k _ q q' => (h.subB k q').2.2.1 q, h.recv.fr hf fun k q q' => (h.subB k q').2.2.2 q, hr⟩
  · rcases q with q | q
    · have := h.lt k q; have := hf.size; omega
    · exact q.2
  · rcases q with q | q
    · exact ⟨.inl (h.subB k q).1, (h.subB k q).2⟩
    · exact ⟨.inr q, fun e => by have := h.lt b h.own; omega, fun e => by have := h.lt k (h.subR k e).1; omega, fun e => by have := h.lt k (h.subA k e).1; omega⟩
/-- It is closed. -/
theorem ChP.close (h : ChP w S b rb qb sb R A B c) : ChP (w.setCell ⟨b, 5, none⟩ (.bool true)) S b rb qb sb R A B { c with closed := true } := by
  have hf : Fr (fun k => k = b) w (w.setCell ⟨b, 5, none⟩ (.bool true)) := (Fr.refl (fun k => k = b) w).setCell (p := ⟨b, 5, none⟩) (.inl rfl) _
  refine ⟨h.own, fun k q => by have := h.lt k q; have := hf.size; omega, h.subR, h.subA, h.subB, ?_, h.ring.fr hf fun k _ q e => (h.subR k q).2 e, h.recv.fr hf fun k q e => (h.subA k q).2.1 e, h.send.fr hf fun k q e => (h.subB k q).2.1 e⟩
  have := blk_set h.blk 5 (.bool true)
  rw [this]; rfl
theorem ChanAt.fr (h : ChanAt w S b c) {F : Nat → Prop} (hf : Fr F w w') (hd : ∀ k, S k → F k → False) : ChanAt w' S b c := by
  obtain ⟨rb, qb, sb, R, A, B, h⟩ := h; exact ⟨_, _, _, _, _, _, h.fr hf hd⟩
theorem ChanAt.fr0 (h : ChanAt w S b c) (hf : Fr Nob w w') : ChanAt w' S b c := h.fr hf fun _ _ q => q
theorem ChanAt.lt (h : ChanAt w S b c) : ∀ k, S k → k < w.heap.size := by
  obtain ⟨rb, qb, sb, R, A, B, h⟩ := h; exact h.lt
theorem ChanAt.own (h : ChanAt w S b c) : S b := by
  obtain ⟨rb, qb, sb, R, A, B, h⟩ := h; exact h.own
theorem ChanAt.qlen (h : ChanAt w S b c) : c.q.length ≤ c.size ∧ c.size ≤ 64 := by
  obtain ⟨rb, qb, sb, R, A, B, h⟩ := h; exact h.ring.len
theorem ChanAt.few (h : ChanAt w S b c) : c.rv.length ≤ 100000 ∧ c.sd.length ≤ 100000 := by
  obtain ⟨rb, qb, sb, R, A, B, h⟩ := h; exact ⟨h.recv.few, h.send.few⟩
end
/-- What was made beside a channel: from block B on, and no block of it. -/
abbrev Off (B : Nat) (S : Nat → Prop) : Nat → Prop := fun k => B ≤ k ∧ ¬ S k

/-! What the document says a channel does. -/
abbrev wakeOf (x : Wt) (v : Int) (ok pn : Bool) : Wk := (x.1, x.2.1, v, ok, pn)
def ChS.mute (c : ChS) : Bool := c.timed || c.signal
def ChS.free (c : ChS) (send : Bool) : Bool := if send then decide (c.q.length < c.size) else decide (0 < c.q.length)
def ChS.queue (c : ChS) (send : Bool) : List Wt := if send then c.sd else c.rv
/-- Each who waits, by the first that it waits by. -/
def onceW (pn : Bool) : List Wk → List Wt → List Wk
  | acc, [] => acc
  | acc, x :: l => onceW pn (if acc.any (fun y => y.1 == x.1) then acc else acc ++ [wakeOf x 0 false pn]) l
def ChS.ends (c : ChS) : List Wk := onceW true (onceW false [] c.rv) c.sd
def ChS.shut (c : ChS) : ChS := { c with closed := true, rv := [], sd := [] }
def ChS.sendR (c : ChS) (v : Int) : Bool × List Wk × Int :=
  if c.mute then (false, [], 7) else if c.closed then (false, [], 5) else match c.rv with
    | x :: _ => (true, [wakeOf x v true false], 0)
    | [] => (decide (c.q.length < c.size), [], 0)
def ChS.sendS (c : ChS) (v : Int) : ChS :=
  if c.mute then c else if c.closed then c else match c.rv with
    | _ :: l => { c with rv := l }
    | [] => if c.q.length < c.size then { c with q := c.q ++ [v] } else c
def ChS.recvR (c : ChS) : Int × Bool × Bool × List Wk := match c.q, c.sd with
  | v :: _, [] => (v, true, true, [])
  | v :: _, x :: _ => (v, true, true, [wakeOf x 0 true false])
  | [], x :: _ => (x.2.2, true, true, [wakeOf x 0 true false])
  | [], [] => (0, false, c.closed, [])
def ChS.recvS (c : ChS) : ChS := match c.q, c.sd with
  | _ :: q, [] => { c with q := q }
  | _ :: q, x :: l => { c with q := q ++ [x.2.2], sd := l }
  | [], _ :: l => { c with sd := l }
  | [], [] => c
def ChS.closeR (c : ChS) : List Wk × Int := if c.mute then ([], 7) else if c.closed then ([], 5) else (c.ends, 0)
def ChS.closeS (c : ChS) : ChS := if c.mute then c else if c.closed then c else c.shut
def ChS.endR (c : ChS) : List Wk := if !c.signal || c.closed then [] else c.ends
def ChS.endS (c : ChS) : ChS := if !c.signal || c.closed then c else c.shut
def ChS.waitR (c : ChS) (x : Wt) (send : Bool) : Int :=
  if c.mute && send then 7 else if c.closed then 5 else if c.free send || (c.queue (!send)).any (fun y => y.1 != x.1) then 1 else 0
def ChS.waitS (c : ChS) (x : Wt) (send : Bool) : ChS := if c.waitR x send = 0 then (if send then { c with sd := c.sd ++ [x] } else { c with rv := c.rv ++ [x] }) else c
def ChS.removeS (c : ChS) (t : Int) : ChS := { c with rv := notT c.rv t, sd := notT c.sd t }
def ChS.removeR (c : ChS) (t : Int) : Nat := (c.rv.length - (notT c.rv t).length) + (c.sd.length - (notT c.sd t).length)
def ChS.canR (c : ChS) (send : Bool) : Bool := if c.mute && send then false else c.closed || c.free send || decide (0 < (c.queue (!send)).length)
def ChS.putR (c : ChS) (v : Int) : List Wk × Bool := if !c.timed then ([], false) else match c.rv with
  | x :: _ => ([wakeOf x v true false], true)
  | [] => ([], decide (c.q.length < c.size))
def ChS.putS (c : ChS) (v : Int) : ChS := if !c.timed then c else match c.rv with
  | _ :: l => { c with rv := l }
  | [] => if c.q.length < c.size then { c with q := c.q ++ [v] } else c
def ChS.dropR (c : ChS) : Bool := c.timed && decide (0 < c.q.length)
def ChS.dropS (c : ChS) : ChS := if c.timed then { c with q := [] } else c
def ChS.lenR (c : ChS) : Nat := if c.timed then 0 else c.q.length
def ChS.capR (c : ChS) : Nat := if c.timed then 0 else c.size
end Go.Proofs.Ytdemeghhjnehbaa
