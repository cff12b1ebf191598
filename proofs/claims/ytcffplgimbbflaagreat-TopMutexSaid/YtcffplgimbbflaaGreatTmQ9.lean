/- TopTimes answers true whatever its inputs are: no condition. -/
import Derived.Test.YtcffplgimbbflaaGreatTmQ8
set_option linter.unusedVariables false
set_option linter.unusedSimpArgs false
namespace Go.Proofs.YtcffplgimbbflaaGreat
open Go.RowKit
set_option maxRecDepth 100000
/-- A task: its numbers, its instruction's default, its instruction's cases. -/
abbrev TkS := (Nat → Int) × Bool × List ICs
/-- A timer: its kind, what it starts, the number of its channel, how often it was armed. -/
abbrev TmS := Int × Int × Nat × Int
/-- A context: its node, free, the number of its channel, error, cause, when, has, own; no timer. -/
structure CxS where
  node : Nat
  free : Bool
  ch : Option Nat
  err : Int
  cause : Int
  when' : Int
  has : Bool
  own : Bool
structure WS where
  now : Int
  ts : List TkS
  line : List Int
  ch : Nat → Option ChS
  nch : Nat
  made : Nat
  tm : List TmS
  named : Nat
  hp : List Hi
  seq : Nat
  per : Int → Option Int
  cx : List CxS
  tr : List Nd
  steps : Nat
  ev : List Ev
def bitI (b : Bool) : Int := if b then 1 else 0
def WS.tell (st : WS) (kind who a b c : Int) : WS := { st with ev := st.ev ++ [((st.steps : Int), kind, who, a, b, c)] }
/-- The same, while there are few. -/
def WS.tellO (st : WS) (kind who a b c : Int) : Option WS := if 1000 ≤ st.ev.length then none else some (st.tell kind who a b c)
def regsOf (t : Nat → Int) : Nat → Int := fun j => t (4 + j)
/-- A handle's channel; none: there is none. -/
def WS.chan (st : WS) (h : Int) : Option (Option Nat) :=
  if h < 0 ∨ (st.nch : Int) ≤ h then (if h = -1 then some none else none) else some (some h.toNat)
/-- A select's cases; none: one of them has no channel. -/
def WS.cases (st : WS) (r : Nat → Int) : List ICs → Option (List Cs)
  | [] => some []
  | c :: l => match st.chan (r c.2.1.toNat) with
    | none => none
    | some o => match st.cases r l with
      | none => none
      | some q => some ((o, c.1, r c.2.2.toNat) :: q)
/-- What a task that waited is told. -/
def toldT (t : Nat → Int) (cs : List ICs) (k v : Int) (ok : Bool) : Nat → Int :=
  if t 12 = 15 then
    (if (cs[k.toNat]?.getD (true, 0, 0)).1 then updT t (4 + (t 13).toNat) k else gotT (updT t (4 + (t 13).toNat) k) (t 14).toNat (t 15).toNat v ok)
  else if t 12 = 11 then gotT t (t 14).toNat (t 15).toNat v ok else t
def regs3 (t : Nat → Int) : Bool := regB (t 13) && regB (t 14) && regB (t 15)
/-- A task waits no more. -/
def WS.wake1 (st : WS) (x : Wk) : Option WS :=
  if x.1 < 0 then none else
  match st.ts[x.1.toNat]? with
  | none => none
  | some (t, d, cs) =>
    if !cs.isEmpty then none else
    if t 2 ≠ 1 then some st else
    if x.2.2.2.2 then none else
    if !(regs3 t) then none else
    if !(t 12 == 10 || (t 12 == 11 && x.2.2.2.1)) then none else
    if st.line.contains x.1 ∨ 100000 ≤ st.line.length then none else
    if t 1 < 0 ∨ 1000 < t 1 then none else
    match st.cases (regsOf t) cs with
    | none => none
    | some l => WS.tellO { st with
        ch := leaveF x.1 l st.ch
        ts := st.ts.set x.1.toNat (wakeT (toldT t cs x.2.1 x.2.2.1 x.2.2.2.1), false, [])
        line := st.line ++ [x.1] } 3 x.1 x.2.1 x.2.2.1 (bitI x.2.2.2.1)
def WS.wake (st : WS) : List Wk → Option WS
  | [] => some st
  | x :: l => match st.wake1 x with
    | none => none
    | some s => s.wake l
/-- A task starts. -/
def WS.start (st : WS) (p : Int) (r : Nat → Int) : Option WS :=
  if p < 0 ∨ 64 ≤ st.ts.length ∨ st.line.contains (st.ts.length : Int) ∨ 100000 ≤ st.line.length then none else
  WS.tellO { st with ts := st.ts ++ [(newT p r, false, [])], line := st.line ++ [(st.ts.length : Int)] } 5 st.ts.length p 0 0
def WS.put (st : WS) (id : Nat) (pc : Int) (r : Nat → Int) : Option WS := match st.ts[id]? with
  | none => none
  | some (t, d, cs) => if t 2 = 0 ∧ cs = [] then some { st with ts := st.ts.set id (putT t pc r, d, []) } else none
def WS.endT (st : WS) (id : Nat) (how : Int) : Option WS := match st.ts[id]? with
  | none => none
  | some (t, d, cs) => if t 2 = 2 ∨ cs ≠ [] then none else some { st with ts := st.ts.set id (Go.Proofs.YtcffplgimbbflaaGreat.endT t how, false, []), line := st.line.erase (id : Int) }
def WS.park (st : WS) (id : Nat) (y : Ins) : Option WS := match st.ts[id]? with
  | none => none
  | some (t, d, cs) => if t 2 = 0 ∧ cs = [] ∧ goodB y 1 = true ∧ (y.1.1 = 10 ∨ y.1.1 = 11 ∨ y.1.1 = 15) then
      WS.tellO { st with ts := st.ts.set id (parkT t y.1.1 y.1.2.1 y.1.2.2.1 y.1.2.2.2, y.2.2.2, y.2.2.1), line := st.line.erase (id : Int) } 2 id 0 0 0 else none
/-- What comes of an instruction that concerns others: it parks, or its registers. -/
abbrev Act' := WS × Option (Nat → Int)
def WS.wakes (st : WS) (l : List Wk) : Option WS := if 1000 ≤ l.length then none else st.wake l
/-- A value that was received is taken. -/
def WS.take (st : WS) (r : Nat → Int) (b c : Nat) (v : Int) (ok : Bool) (l : List Wk) : Option Act' := match st.wakes l with
  | none => none
  | some s => some (s, some (updR (updR (updR r b v) c 0) c (bitI ok)))
/-- A timer that has a channel. -/
def WS.timer (st : WS) (kind : Int) (d : Int) : Option WS :=
  if st.now < 0 ∨ maxT < st.now ∨ d < 1 ∨ 64 ≤ st.named ∨ 900 ≤ st.tm.length then none else
  match heapAdd (heapDel st.hp st.tm.length) ((st.tm.length : Int), addT st.now d, ((st.seq + 1 : Nat) : Int)) with
  | none => none
  | some h => some { st with tm := st.tm ++ [(kind, 0, st.nch, 1)], named := st.named + 1, ch := Go.Proofs.YtcffplgimbbflaaGreat.upd st.ch st.nch (some chTimed), nch := st.nch + 1, hp := h, seq := st.seq + 1, per := putP st.per st.tm.length (perOf kind d) }
/-- What is due next fires; none: they do not go there; some none: nothing is due. -/
def WS.fire (st : WS) : Option (Option WS) :=
  if st.now < 0 ∨ maxT < st.now then none else
  match st.hp with
  | [] => some none
  | x :: _ => if st.now < x.2.1 then some none else
    match st.tm[x.1.toNat]? with
    | none => none
    | some (kind, data, c, gen) =>
      if kind = 3 ∨ kind = 4 then none else
      match st.ch c with
      | none => none
      | some cc => match takeR st.hp st.seq st.per x st.now with
        | none => none
        | some (hp', seq', per') => if 1000 ≤ st.ev.length then none else match ({ st with hp := hp', seq := seq', per := per', ch := Go.Proofs.YtcffplgimbbflaaGreat.upd st.ch c (some (cc.putS st.now)) }.tell 6 (-1) x.1 x.2.1 0).wakes (cc.putR st.now).1 with
          | none => none
          | some s3 => some (some s3)
def WS.fires (st : WS) : Nat → Option WS
  | 0 => none
  | n + 1 => match st.fire with
    | none => none
    | some none => some st
    | some (some s) => s.fires n
/-- What hangs on a context lapses with it: here nothing does. -/
def WS.cancel (st : WS) (id : Nat) (err cause : Int) : Option WS := match st.cx[id]? with
  | none => none
  | some x => if x.free ∨ x.err ≠ 0 then some st else
    match x.ch with
    | none => none
    | some c => match st.ch c with
      | none => none
      | some cc => match st.tr[x.node]? with
        | none => none
        | some (par, linked) => if kids st.tr x.node ≠ [] ∨ !linked ∨ par < 0 ∨ 1000 ≤ st.ev.length then none else
          ({ st with
              cx := st.cx.set id { x with err := err, cause := cause }
              ch := Go.Proofs.YtcffplgimbbflaaGreat.upd st.ch c (some cc.endS)
              tr := st.tr.set x.node (par, false) }.tell 7 (-1) id err cause).wakes cc.endR
/-- A context is made. -/
def WS.newCx (st : WS) (parent : Int) (free : Bool) : Option (WS × Int) :=
  if parent < 0 ∨ 64 ≤ st.cx.length ∨ 900 ≤ st.tr.length then none else
  match st.cx[parent.toNat]? with
  | none => none
  | some up => if up.err ≠ 0 ∨ st.tr.length ≤ up.node then none else
    let s1 : WS := { st with
      cx := st.cx ++ [if free then ⟨st.tr.length, true, none, 0, 0, 0, false, false⟩ else ⟨st.tr.length, false, some st.nch, 0, 0, up.when', up.has, false⟩]
      tr := st.tr ++ [((up.node : Int), !free)] }
    some (if free then s1 else { s1 with ch := Go.Proofs.YtcffplgimbbflaaGreat.upd st.ch st.nch (some chSignal), nch := st.nch + 1 }, (st.cx.length : Int))
/-- A task starts another. -/
def WS.actGo (st : WS) (y : Ins) (r : Nat → Int) : Option Act' := match st.start y.1.2.2.1 r with
  | none => none
  | some s => some (s, some (updR r y.1.2.1.toNat st.ts.length))
/-- A channel is made. -/
def WS.actMake (st : WS) (y : Ins) (r : Nat → Int) : Option Act' :=
  if y.1.2.2.1 < 0 ∨ 64 < y.1.2.2.1 ∨ 64 ≤ st.made ∨ 90000 ≤ st.nch then none else
    some ({ st with ch := Go.Proofs.YtcffplgimbbflaaGreat.upd st.ch st.nch (some (chNew y.1.2.2.1.toNat)), nch := st.nch + 1, made := st.made + 1 }, some (updR r y.1.2.1.toNat st.nch))
/-- A timer is stopped. -/
def WS.actStop (st : WS) (y : Ins) (r : Nat → Int) : Option Act' :=
  let a := r y.1.2.1.toNat
  if a < 0 ∨ 900 < st.tm.length then none else match st.tm[a.toNat]? with
    | none => none
    | some (kind, data, c, gen) => if kind = 4 ∨ kind = 0 then none else match st.ch c with
      | none => none
      | some cc => some ({ st with hp := heapDel st.hp a, per := delP st.per a, ch := Go.Proofs.YtcffplgimbbflaaGreat.upd st.ch c (some cc.dropS) }, some (updR r y.1.2.2.1.toNat (bitI (cc.dropR || heapHas st.hp a))))
/-- A timer is made. -/
def WS.actTimer (st : WS) (kind : Int) (y : Ins) (r : Nat → Int) : Option Act' :=
  if 90000 ≤ st.nch then none else match st.timer kind (r y.1.2.2.1.toNat) with
  | none => none
  | some s => some (s, some (updR (updR r y.1.2.1.toNat st.tm.length) y.1.2.2.2.toNat st.nch))
/-- A value is sent on channel i. -/
def WS.actSend (st : WS) (id : Nat) (i : Nat) (c : ChS) (v : Int) (r : Nat → Int) : Option Act' :=
  if (c.sendR v).2.2 ≠ 0 then none
  else if (c.sendR v).1 then (match ({ st with ch := Go.Proofs.YtcffplgimbbflaaGreat.upd st.ch i (some (c.sendS v)) } : WS).wakes (c.sendR v).2.1 with
    | none => none
    | some s => some (s, some r))
  else some ({ st with ch := Go.Proofs.YtcffplgimbbflaaGreat.upd st.ch i (some ((c.sendS v).waitS ((id : Int), 0, v) true)) }, none)
/-- A value is received of channel i. -/
def WS.actRecv (st : WS) (id : Nat) (i : Nat) (c : ChS) (b d : Nat) (r : Nat → Int) : Option Act' :=
  if c.recvR.2.2.1 then ({ st with ch := Go.Proofs.YtcffplgimbbflaaGreat.upd st.ch i (some c.recvS) } : WS).take r b d c.recvR.1 c.recvR.2.1 c.recvR.2.2.2
  else some ({ st with ch := Go.Proofs.YtcffplgimbbflaaGreat.upd st.ch i (some (c.recvS.waitS ((id : Int), 0, 0) false)) }, none)
/-- What concerns one channel. -/
def WS.actChan (st : WS) (id : Nat) (y : Ins) (r : Nat → Int) : Option Act' :=
  match st.chan (r y.1.2.1.toNat) with
  | some (some i) => (match st.ch i with
    | none => none
    | some c =>
      if y.1.1 = 13 then some (st, some (updR r y.1.2.2.1.toNat c.lenR))
      else if y.1.1 = 14 then some (st, some (updR r y.1.2.2.1.toNat c.capR))
      else if y.1.1 = 10 then st.actSend id i c (r y.1.2.2.1.toNat) r
      else if y.1.1 = 11 then st.actRecv id i c y.1.2.2.1.toNat y.1.2.2.2.toNat r
      else none)
  | _ => none
/-- One of several. -/
def WS.actChoose (st : WS) (id : Nat) (y : Ins) (r : Nat → Int) (draw : Int) : Option Act' :=
  match st.cases r y.2.2.1 with
  | none => none
  | some l => if l.any (fun x => x.2.1 && muteC st.ch x) then none else
    match rdy (fun k => canC st.ch (l.getD k (none, false, 0))) l.length with
    | [] => if y.2.2.2 then some (st, some (updR r y.1.2.1.toNat (-1))) else some ({ st with ch := parkF (id : Int) l 0 st.ch }, none)
    | q => (let k := (q.getD (draw % (q.length : Int)).toNat 0).toNat
      match l[k]? with
      | none => none
      | some x => match x.1 with
        | none => none
        | some i => match st.ch i with
          | none => none
          | some c => if (oneR c x).2.2.1 then none else
            if x.2.1 then (match ({ st with ch := Go.Proofs.YtcffplgimbbflaaGreat.upd st.ch i (some (oneS c x)) } : WS).wakes (oneR c x).2.2.2 with
              | none => none
              | some s => some (s, some (updR r y.1.2.1.toNat k)))
            else ({ st with ch := Go.Proofs.YtcffplgimbbflaaGreat.upd st.ch i (some (oneS c x)) } : WS).take (updR r y.1.2.1.toNat k) y.1.2.2.1.toNat y.1.2.2.2.toNat (oneR c x).1 (oneR c x).2.1 (oneR c x).2.2.2)
/-- A context is made. -/
def WS.actCx (st : WS) (y : Ins) (r : Nat → Int) : Option Act' := match st.newCx (r y.1.2.2.1.toNat) (y.1.1 = 25) with
  | none => none
  | some (s, n) => some (s, some (updR r y.1.2.1.toNat n))
/-- A context is cancelled. -/
def WS.actCancel (st : WS) (y : Ins) (r : Nat → Int) : Option Act' :=
  let a := r y.1.2.1.toNat
  if a < 0 ∨ r y.1.2.2.1.toNat < 1 then none else match st.cx[a.toNat]? with
    | none => none
    | some x => if x.free then none else match st.cancel a.toNat 1 (r y.1.2.2.1.toNat) with
      | none => none
      | some s => some (s, some r)
/-- A context is asked. -/
def WS.actAsk (st : WS) (y : Ins) (r : Nat → Int) : Option Act' :=
  let a := r y.1.2.1.toNat
  let B := y.1.2.2.1.toNat
  if a < 0 then none else match st.cx[a.toNat]? with
    | none => none
    | some x => if y.1.1 = 27 then some (st, some (updR r B x.err))
      else if y.1.1 = 28 then some (st, some (updR r B x.cause))
      else if y.1.1 = 29 then (match x.ch with
        | none => some (st, some (updR r B (-1)))
        | some i => some (st, some (updR r B i)))
      else some (st, some (updR (updR r B x.when') y.1.2.2.2.toNat (bitI x.has)))
/-- An instruction that concerns others. -/
def WS.act (st : WS) (id : Nat) (y : Ins) (r : Nat → Int) (draw : Int) : Option Act' :=
  if y.1.1 = 8 then st.actGo y r
  else if y.1.1 = 9 then st.actMake y r
  else if y.1.1 = 20 then st.actStop y r
  else if y.1.1 = 17 then st.actTimer 1 y r
  else if y.1.1 = 18 then st.actTimer 2 y r
  else if y.1.1 = 10 ∨ y.1.1 = 11 ∨ y.1.1 = 13 ∨ y.1.1 = 14 then st.actChan id y r
  else if y.1.1 = 15 then st.actChoose id y r draw
  else if y.1.1 = 22 ∨ y.1.1 = 25 then st.actCx y r
  else if y.1.1 = 26 then st.actCancel y r
  else if y.1.1 = 27 ∨ y.1.1 = 28 ∨ y.1.1 = 29 ∨ y.1.1 = 30 then st.actAsk y r
  else none
/-- Registers are named where they are used. -/
def regsOk (y : Ins) : Bool := regB y.1.2.1 && (y.1.1 == 8 || y.1.1 == 9 || (regB y.1.2.2.1 && regB y.1.2.2.2))
/-- A task does its next instruction. -/
def WS.run (P : List (List Ins)) (st : WS) (n draw : Int) : Option WS :=
  match st.line with
  | [] => some st
  | _ =>
    let id := st.line.getD (n % (st.line.length : Int)).toNat 0
    if id < 0 then none else
    match st.ts[id.toNat]? with
    | none => none
    | some (t, d, cs) => if t 0 < 0 ∨ t 2 ≠ 0 ∨ cs ≠ [] ∨ t 1 < 0 then none else
      match P[(t 0).toNat]? with
      | none => none
      | some p =>
        if progB p = false ∨ (p.length : Int) < t 1 then none
        else if t 1 = p.length then
          (match st.endT id.toNat 0 with
            | none => none
            | some s => s.tellO 4 id 0 0 0)
        else match p[(t 1).toNat]? with
          | none => none
          | some y =>
            if mineB y.1.1 then
              (let o := stepR y.1.1 y.1.2.1 y.1.2.2.1 (t 1).toNat (regsOf t) st.now
              match st.put id.toNat o.1 o.2.1 with
              | none => none
              | some s =>
                match (if o.2.2.1 then s.tellO 1 id o.2.2.2.1 0 0 else some s) with
                | none => none
                | some s => if o.2.2.2.2 then (match s.endT id.toNat 0 with
                  | none => none
                  | some s => s.tellO 4 id 0 0 0) else some s)
            else if regsOk y = false then none else match st.act id.toNat y (regsOf t) draw with
              | none => none
              | some (s, none) => s.park id.toNat y
              | some (s, some r) => s.put id.toNat (t 1 + 1) r
def WS.few (st : WS) : Bool := (List.range st.nch).all fun i => match st.ch i with
  | some c => decide (c.rv.length ≤ 900) && decide (c.sd.length ≤ 900)
  | none => true
/-- An entry: its kind, its number, its draw. -/
abbrev En := Int × Int × Int
def WS.step (P : List (List Ins)) (st : WS) (e : En) : Option WS :=
  if st.few = false then none else
  let s := { st with ev := [] }
  let out := if e.1 = 1 then s.run P e.2.1 e.2.2
    else if e.1 = 2 ∧ 0 ≤ e.2.1 ∧ e.2.2 = 0 then ({ s with now := addT s.now e.2.1 }).fires 9
    else some (s.tell 8 0 0 0 0)
  match out with
  | none => none
  | some s => if 10000 ≤ s.steps ∨ 1000000 < s.ev.length then none else some { s with steps := s.steps + 1 }
abbrev enEn (p : En) : List Value := [.int .i64 p.1, .int .i64 p.2.1, .int .i64 p.2.2]
def IsEntries (w : World) (v : Value) (l : List En) : Prop := Rd w 3 v l.length (l.flatMap enEn) ∧ ∀ x ∈ l, True
theorem cells_int : Tryz.prog.cellsOf 3 = 1 := by kernel_rfl
theorem opn_entries {H : Type} {enc : TypeId × Value → H} {W : World} {base : Nat} {v : Value} {d : DataW H} {p : List MemPlace} (hv : Value.okWide Tryz.prog W .any base 47 v) (h : DataW.Trod enc Tryz.prog W 0 (fun _ => true) true 47 v d p) : ∃ l, IsEntries W v l := by
  refine opn_slice (sz := 3) enEn (fun _ => True) (by omega) Tryz.underlying47 (by kernel_rfl) (fun _ => rfl) ?_ hv h
  refine (dec_struct Tryz.underlying38 (sz := 3) (by kernel_rfl) (fun i cs => ∃ x, cs = [.int .i64 x] ∧ (Lit.int .i64 x).wf = true) ?_).mono ?_
  · intro i f hf
    have hi := (Array.getElem?_eq_some_iff.1 hf).1
    have hi' : i = 0 ∨ i = 1 ∨ i = 2 := by simp at hi; omega
    rcases hi' with rfl | rfl | rfl <;> (cases hf; exact dec_int Tryz.underlying3)
  · rintro cs ⟨hl, hk⟩
    obtain ⟨x, hx, _⟩ := hk 0 _ rfl
    obtain ⟨y, hy, _⟩ := hk 1 _ rfl
    obtain ⟨z, hz, _⟩ := hk 2 _ rfl
    match cs, hl with
    | [a, b, c], _ =>
      simp at hx hy hz
      rw [cells_int] at hx hy hz
      simp at hx hy hz
      exact ⟨(x, y, z), by simp [hx, hy, hz], trivial⟩
def startsI (y : Ins) : Int := if y.1.1 = 8 then y.1.2.2.1 else if y.1.1 = 19 ∨ y.1.1 = 31 then y.1.2.2.2 else -1
theorem prog_starts (w : World) (y : Ins) (h : InsOk w y) : Calls Tryz.prog 40 #[insV y] w fun e w' => e = .returned (.int .i64 (startsI y)) ∧ Fr Nob w w' := by
  obtain ⟨⟨op, a, b, c⟩, v, cs, d⟩ := y
  obtain ⟨_, _, A2, c2, hv, _⟩ := h
  dsimp only at hv
  subst hv
  unfold startsI
  dsimp only
  by_cases h8 : op = 8
  · subst h8
    rw [if_pos rfl]
    go_enter Tryz.func40, Tryz.ntmps40
    go_wp2_with fail
    go_ret
    exact ⟨rfl, (Fr.refl Nob w).alloc _⟩
  · have e8 : (op == 8) = false := by simpa using h8
    rw [if_neg h8]
    by_cases h19 : op = 19
    · subst h19
      rw [if_pos (.inl rfl)]
      clear h8 e8
      go_enter Tryz.func40, Tryz.ntmps40
      go_wp2_with fail
      go_ret
      exact ⟨rfl, (Fr.refl Nob w).alloc _⟩
    · have e19 : (op == 19) = false := by simpa using h19
      by_cases h31 : op = 31
      · subst h31
        rw [if_pos (.inr rfl)]
        clear h8 e8 h19 e19
        go_enter Tryz.func40, Tryz.ntmps40
        go_wp2_with fail
        go_ret
        exact ⟨rfl, (Fr.refl Nob w).alloc _⟩
      · have e31 : (op == 31) = false := by simpa using h31
        rw [if_neg (by omega)]
        clear h8 h19 h31
        go_enter Tryz.func40, Tryz.ntmps40
        go_wp2_with fail
        go_ret
        exact ⟨rfl, (Fr.refl Nob w).alloc _⟩
/-- Of an instruction: that it starts none that is not there. -/
theorem all_instr (w : World) (y : Ins) (pb m : Nat) (A : Option Addr) (c : Nat) (hp : w.cell? ⟨pb, 0, none⟩ = some (.slice A m c)) (h : InsOk w y) (hs : startsI y < m) :
    Calls Tryz.prog 39 #[insV y, .pointer (some ⟨pb, 0, none⟩)] w fun e w' => e = .returned (.bool false) ∧ Fr Nob w w' := by
  have hst := fun W (hf : Fr Nob w W) => prog_starts W y (h.fr hf)
  obtain ⟨⟨op, a, b, k⟩, v, cs, d⟩ := y
  obtain ⟨_, _, A2, c2, hv, _⟩ := id h
  dsimp only at hv
  subst hv
  generalize startsI _ = r at *
  have hr : ¬ (m : Int) ≤ r := by omega
  have Hst := Lib.hid hst
  have hf1 : Fr Nob w (w.alloc (.cells #[.int .i64 op, .int .i64 a, .int .i64 b, .int .i64 k, .slice A2 cs.length c2, .bool d] 25)) := (Fr.refl Nob w).alloc _
  have hb1 := heap_alloc_new w (.cells #[.int .i64 op, .int .i64 a, .int .i64 b, .int .i64 k, .slice A2 cs.length c2, .bool d] 25)
  have key : ∀ W, Fr Nob (w.alloc (.cells #[.int .i64 op, .int .i64 a, .int .i64 b, .int .i64 k, .slice A2 cs.length c2, .bool d] 25)) W → W.cell? ⟨pb, 0, none⟩ = some (.slice A m c) ∧ W.cell? ⟨w.heap.size, 0, none⟩ = some (.int .i64 op) ∧ W.cell? ⟨w.heap.size, 1, none⟩ = some (.int .i64 a) ∧ W.cell? ⟨w.heap.size, 2, none⟩ = some (.int .i64 b) ∧ W.cell? ⟨w.heap.size, 3, none⟩ = some (.int .i64 k) ∧ W.cell? ⟨w.heap.size, 4, none⟩ = some (.slice A2 cs.length c2) ∧ W.cell? ⟨w.heap.size, 5, none⟩ = some (.bool d) := fun W hW => by
    have q := hW.blk (fun q => q) hb1
    exact ⟨(hf1.trans0 hW).cell (fun q => q) hp, blk_cell q 0 rfl, blk_cell q 1 rfl, blk_cell q 2 rfl, blk_cell q 3 rfl, blk_cell q 4 rfl, blk_cell q 5 rfl⟩
  have Key := Lib.hid key; have Hf1 := Lib.hid hf1
  clear hst h hs hb1 key hf1
  go_enter Tryz.func39, Tryz.ntmps39
  go_wp2_with fail
  obtain ⟨w1, hw1⟩ : ∃ w1, w1 = w.alloc (.cells #[.int .i64 op, .int .i64 a, .int .i64 b, .int .i64 k, .slice A2 cs.length c2, .bool d] 25) := ⟨_, rfl⟩
  rw [← hw1] at Key Hf1 ⊢
  generalize w.heap.size = xb at *
  clear hw1 hp
  have hf0 : Fr Nob w1 w1 := Fr.refl _ _
  go_region_held3 (fun W => W.cell? ⟨pb, 0, none⟩ = some (.slice A m c) ∧ W.cell? ⟨xb, 0, none⟩ = some (.int .i64 op) ∧ W.cell? ⟨xb, 1, none⟩ = some (.int .i64 a) ∧ W.cell? ⟨xb, 2, none⟩ = some (.int .i64 b) ∧ W.cell? ⟨xb, 3, none⟩ = some (.int .i64 k) ∧ W.cell? ⟨xb, 4, none⟩ = some (.slice A2 cs.length c2) ∧ W.cell? ⟨xb, 5, none⟩ = some (.bool d))
    ((first | (refine Key.out _ ?_; with_reducible exact hf2) | exact Key.out _ hf0 | exact Key.out _ hf0.drew))
    ((go_at_call 40; refine (Hst.out w1.drew (Hf1.out.drew)).mono ?_; rintro e w2 ⟨rfl, hf2'⟩; have hf2 : Fr Nob w1 w2 := (hf0.drew).trans0 hf2'))
  all_goals
    go_wp2_with fail
    go_ret
    exact ⟨by simp [hr], Hf1.out.trans0 hf2⟩
set_option maxHeartbeats 1000000 in
theorem index_starts (w : World) (v : Value) (ps : List Ins) (n pb m : Nat) (A0 : Option Addr) (c0 : Nat) (hn : ps.length = n) (h : Rd w 6 v n (ps.flatMap insEn)) (hok : ∀ i ∈ ps, InsOk w i) (hp : w.cell? ⟨pb, 0, none⟩ = some (.slice A0 m c0)) (hst : ∀ y ∈ ps, startsI y < m) :
    Calls Tryz.prog 65 #[v, .func (.func 39) #[] #[.pointer (some ⟨pb, 0, none⟩)]] w fun e w' => e = .returned (.int .i64 (-1)) ∧ Fr Nob w w' := by
  obtain ⟨_, hl, A, c, rfl, hc1, hc2, hA⟩ := h
  unfold maxLen at hl
  have hg : ∀ k, k < n → ∃ x : Ins, ps[k]? = some x ∧ InsOk w x ∧ startsI x < m ∧ ∀ j u, j < 6 → (insEn x)[j]? = some u → (ps.flatMap insEn)[k * 6 + j]? = some u := fun k hk => by
    have h0 : ps[k]? = some (ps[k]'(by omega)) := by simp
    exact ⟨_, h0, hok _ (List.mem_of_getElem? h0), hst _ (List.mem_of_getElem? h0), fun j u hj hu => (insGet ps k j _ h0 hj).trans hu⟩
  have HA := Lib.hid hA; have Hg := Lib.hid hg; have Hp := Lib.hid hp
  clear hA hg hok hp hst
  go_enter Tryz.func65, Tryz.ntmps65
  go_wp2_with fail
  go_loopw [8] (fun i wr => ∃ k : Nat, k ≤ n ∧ i = .int .i64 k ∧ Fr Nob w wr) (fun i _ => n - (intOf i).toNat)
  case atStart => exact ⟨0, Nat.zero_le _, rfl, Fr.refl _ _⟩
  case round =>
    obtain ⟨k, hk, rfl, hfr⟩ := hrel
    have Hfr := Lib.hid hfr
    clear hfr
    by_cases hlt : k < n
    · obtain ⟨x, hx, hio, hsx, hq⟩ := Hg.out k hlt
      obtain ⟨g, o, rfl, hgl, hc⟩ := HA.out (by omega)
      have hbc := fun W (hf : Fr Nob w W) => all_instr W x pb m A0 c0 (hf.cell id Hp.out) (hio.fr hf) hsx
      obtain ⟨⟨op, a, b, e⟩, v, cs, d⟩ := x
      obtain ⟨_, _, A2, c2, hv, _⟩ := id hio
      dsimp only at hv
      subst hv
      have x0 := Hfr.out.cell (p := ⟨g, o + (k * 6 + 0), none⟩) id (hc _ _ (hq 0 _ (by omega) rfl))
      have x1 := Hfr.out.cell (p := ⟨g, o + (k * 6 + 1), none⟩) id (hc _ _ (hq 1 _ (by omega) rfl))
      have x2 := Hfr.out.cell (p := ⟨g, o + (k * 6 + 2), none⟩) id (hc _ _ (hq 2 _ (by omega) rfl))
      have x3 := Hfr.out.cell (p := ⟨g, o + (k * 6 + 3), none⟩) id (hc _ _ (hq 3 _ (by omega) rfl))
      have x4 := Hfr.out.cell (p := ⟨g, o + (k * 6 + 4), none⟩) id (hc _ _ (hq 4 _ (by omega) rfl))
      have x5 := Hfr.out.cell (p := ⟨g, o + (k * 6 + 5), none⟩) id (hc _ _ (hq 5 _ (by omega) rfl))
      rw [← Nat.add_assoc] at x1 x2 x3 x4 x5
      rw [Nat.add_zero] at x0
      dsimp only at x0 x1 x2 x3 x4 x5 hbc
      have Hbc := Lib.hid hbc
      have hki : (k : Int) < n := by omega
      clear hc hq hx hbc hio hsx
      go_wp2_with fail
      refine (Hbc.out _ Hfr.out).mono ?_
      rintro e w2 ⟨rfl, hf2⟩
      have Hf2 := Lib.hid (Hfr.out.trans0 hf2)
      clear hf2
      go_wp2_with fail
      go_roundw
      case rel => exact ⟨k + 1, by omega, by go_num, Hf2.out⟩
      case measure => simp [intOf]; omega
    · obtain rfl : k = n := by omega
      go_wp2_with fail
      go_ret
      exact ⟨rfl, Hfr.out⟩
theorem contains_starts (w : World) (v : Value) (ps : List Ins) (n pb m : Nat) (A0 : Option Addr) (c0 : Nat) (hn : ps.length = n) (h : Rd w 6 v n (ps.flatMap insEn)) (hok : ∀ i ∈ ps, InsOk w i) (hp : w.cell? ⟨pb, 0, none⟩ = some (.slice A0 m c0)) (hst : ∀ y ∈ ps, startsI y < m) :
    Calls Tryz.prog 38 #[v, .func (.func 39) #[] #[.pointer (some ⟨pb, 0, none⟩)]] w fun e w' => e = .returned (.bool false) ∧ Fr Nob w w' := by
  have H := Lib.hid (index_starts w v ps n pb m A0 c0 hn h hok hp hst)
  obtain ⟨_, _, A, c, rfl, _⟩ := h
  clear hp hok hst
  go_enter Tryz.func38, Tryz.ntmps38
  go_wp2_with fail
  refine H.out.mono ?_
  rintro e w' ⟨rfl, hf⟩
  have Hf := Lib.hid hf
  clear hf
  go_wp2_with fail
  go_ret
  exact ⟨rfl, Hf.out⟩
/-- Programs as they come in. -/
structure PgIn (w : World) (v : Value) (P : List (List Ins)) (rows : List Value) : Prop where
  len : rows.length = P.length
  rd : Rd w 1 v P.length rows
  row : ∀ (i : Nat) (p : List Ins), P[i]? = some p → ∃ r, rows[i]? = some r ∧ Rd w 6 r p.length (p.flatMap insEn)
  ok : ∀ p ∈ P, ∀ y ∈ p, InsOk w y
  nil : ∀ p ∈ P, ∀ y ∈ p, y.2.2.1 = [] → y.2.1 = .slice none 0 0
  fit : 1 ≤ P.length ∧ P.length ≤ 16
  good : ∀ p ∈ P, progB p = true ∧ ∀ y ∈ p, startsI y < P.length
theorem PgIn.fr {w w' : World} {v : Value} {P : List (List Ins)} {rows : List Value} (h : PgIn w v P rows) (hf : Fr Nob w w') : PgIn w' v P rows :=
  ⟨h.len, h.rd.fr hf, fun i p hp => by obtain ⟨r, a, b⟩ := h.row i p hp; exact ⟨r, a, b.fr hf⟩, fun p hp y hy => (h.ok p hp y hy).fr hf, h.nil, h.fit, h.good⟩
set_option maxHeartbeats 1000000 in
theorem prog_all {w : World} {v : Value} {P : List (List Ins)} {rows : List Value} (h : PgIn w v P rows) : Calls Tryz.prog 19 #[v] w fun e w' => e = .returned (.int .i64 0) ∧ Fr Nob w w' := by
  obtain ⟨hl, _, A, c, rfl, hc1, hc2, hA⟩ := h.rd
  have hfit := h.fit
  generalize hn : P.length = n at *
  have hf0 : Fr Nob w (w.alloc (.cells #[.slice A n c] 33)) := (Fr.refl Nob w).alloc _
  have hp0 : ∀ W, Fr Nob (w.alloc (.cells #[.slice A n c] 33)) W → W.cell? ⟨w.heap.size, 0, none⟩ = some (.slice A n c) := fun W hW => blk_cell (hW.blk (fun q => q) (heap_alloc_new w _)) 0 rfl
  have HA := Lib.hid hA; have H := Lib.hid h; have Hf0 := Lib.hid hf0; have Hp0 := Lib.hid hp0; have Hn := Lib.hid hn
  have e1 : ¬ (n : Int) < 1 := by omega
  have e2 : ¬ (16 : Int) < (n : Int) := by omega
  clear h hA hf0 hp0 hl hn
  go_enter Tryz.func19, Tryz.ntmps19
  go_wp2_with fail
  obtain ⟨w1, hw1⟩ : ∃ w1, w1 = w.alloc (.cells #[.slice A n c] 33) := ⟨_, rfl⟩
  rw [← hw1] at Hf0 Hp0 ⊢
  generalize w.heap.size = xb at *
  clear hw1
  go_loopw [15] (fun i wr => ∃ k : Nat, k ≤ n ∧ i = .int .i64 k ∧ Fr Nob w1 wr) (fun i _ => n - (intOf i).toNat)
  case atStart => exact ⟨0, Nat.zero_le _, rfl, Fr.refl _ _⟩
  case round =>
    obtain ⟨k, hk, rfl, hfr⟩ := hrel
    have Hfr := Lib.hid hfr
    clear hfr
    by_cases hlt : k < n
    · obtain ⟨p, hp⟩ : ∃ p, P[k]? = some p := ⟨P[k]'(by rw [Hn.out]; exact hlt), by simp⟩
      obtain ⟨r, hr, hrd⟩ := H.out.row k p hp
      obtain ⟨g, o, rfl, hgl, hc⟩ := HA.out (by omega)
      have hfw := Hf0.out.trans0 Hfr.out
      have q0 := hfw.cell (p := ⟨g, o + k, none⟩) id (hc k r hr)
      have hmem := List.mem_of_getElem? hp
      have hgood := H.out.good p hmem
      have Hck := Lib.hid (fun W (hW : Fr Nob wr W) => check_any W r p p.length rfl (hrd.fr (hfw.trans0 hW)) (fun i hi => (H.out.ok p hmem i hi).fr (hfw.trans0 hW)))
      have Hcs := Lib.hid (fun W (hW : Fr Nob wr W) => contains_starts W r p p.length xb n _ _ rfl (hrd.fr (hfw.trans0 hW)) (fun i hi => (H.out.ok p hmem i hi).fr (hfw.trans0 hW)) (Hp0.out W (Hfr.out.trans0 hW)) (fun y hy => by have := hgood.2 y hy; rw [Hn.out] at this; exact this))
      have hpb := hgood.1
      have hki : (k : Int) < n := by omega
      clear hc hr hrd hp hmem hgood hfw
      go_wp2_with fail
      refine (Hck.out _ (Fr.refl _ _)).mono ?_
      rintro e w2 ⟨rfl, hf2⟩
      rw [if_pos hpb]
      have Hf2 := Lib.hid hf2
      clear hf2 q0 Hck
      go_wp2_with fail
      refine (Hcs.out _ Hf2.out).mono ?_
      rintro e w3 ⟨rfl, hf3⟩
      have Hf3 := Lib.hid (Hfr.out.trans0 (Hf2.out.trans0 hf3))
      clear hf3
      go_wp2_with fail
      go_roundw
      case rel => exact ⟨k + 1, by omega, by go_num, Hf3.out⟩
      case measure => simp [intOf]; omega
    · obtain rfl : k = n := by omega
      go_wp2_with fail
      go_ret
      exact ⟨rfl, Hf0.out.trans0 Hfr.out⟩
theorem Tryz.info_clone_evs : (Tryz.prog.info? 43).map (fun i => (i.zero, i.size, i.bytes)) = some (some (.agg #[.int .i64 0, .int .i64 0, .int .i64 0, .int .i64 0, .int .i64 0, .int .i64 0]), 6, 48) := by kernel_rfl
set_option maxHeartbeats 800000 in
theorem clone_evs (w : World) (v : Value) (cs : List Value) (n : Nat) (hb : n ≤ 1000000) (h : Rd w 6 v n cs) (h1 : ∀ u ∈ cs, u.oneCell' = true) :
    Calls Tryz.prog 31 #[v] w fun e w' => ∃ v', e = .returned v' ∧ Fr Nob w w' ∧ Sl w' (fun k => w.heap.size ≤ k ∧ k < w'.heap.size) 43 6 v' n cs := by
  obtain ⟨hl, _, A, c, rfl, hc1, hc2, hA⟩ := h
  cases A with
  | none =>
    obtain rfl : n = 0 := by
      rcases Nat.eq_zero_or_pos n with h | h
      · exact h
      · obtain ⟨g, o, h1, _⟩ := hA h; cases h1
    obtain rfl : cs = [] := List.eq_nil_of_length_eq_zero (by omega)
    have hk := fun w : World => Lib.run_eql_slice_nil (P := Tryz.prog) w 34 43 none 0 c 0 0 Tryz.underlying34
    clear hA h1
    go_enter Tryz.func31, Tryz.ntmps31
    go_wp2_with fail
    go_ret
    exact ⟨_, rfl, Fr.refl _ _, Sl.nil _ _ _ _⟩
  | some ad =>
    have hk := fun w : World => Lib.run_eql_slice_nil (P := Tryz.prog) w 34 43 (some ad) n c 0 0 Tryz.underlying34
    have hnews : ∀ j u, cs[j]? = some u → (w.alloc (.cells #[] 43)).cell? (ad.add j) = some u := fun j u hj => by
      have hjl := (List.getElem?_eq_some_iff.1 hj).1
      obtain ⟨g, o, h1, h2, h3⟩ := hA (by rcases Nat.eq_zero_or_pos n with e | e; subst e; omega; exact e)
      cases h1
      rw [Addr.add_lit]
      exact ((Fr.refl Nob w).alloc _).cell (p := ⟨g, o + j, none⟩) (fun q => q) (h3 j u hj)
    have h0 : Sl (w.alloc (.cells #[] 43)) (From w.heap.size) 43 6 (.slice (some ⟨w.heap.size, 0, none⟩) 0 0) 0 [] :=
      Sl.lit w 43 6 #[] 0 (From w.heap.size) (by simp [From]) (by simp [maxLen]) rfl
    have Hnews := Lib.hid hnews; have H0 := Lib.hid h0; have Hl := Lib.hid hl; have H1 := Lib.hid h1
    clear hA hnews h0 hl h1
    go_enter Tryz.func31, Tryz.ntmps31
    go_wp2_with (at_builtin; refine wpList_append_sl _ rfl _ _ _ rfl (From w.heap.size) 43 _ 6 48 Tryz.underlying34 Tryz.info_clone_evs rfl (by omega) (.slice (some ⟨w.heap.size, 0, none⟩) 0 0) 0 [] rfl H0.out ad n c cs rfl Hl.out Hnews.out H1.out (by unfold maxLen; omega) (by omega) ?_; intro v1 w1 hs1 hf1)
    obtain ⟨A1, c1, rfl⟩ := hs1.slice
    go_ret
    have hz := hf1.size
    simp at hz
    refine ⟨_, rfl, (((Fr.refl Nob w).alloc (.cells #[] 43)).none.trans0 hf1).mono fun k hk q => by unfold From at q; omega, ?_⟩
    rw [Nat.zero_add] at hs1 ⊢
    exact hs1.mono fun k hk q => by rcases q with q | q; exact ⟨q, hk⟩; simp at q; exact ⟨by omega, hk⟩
theorem Tryz.info_clone_ics : (Tryz.prog.info? 27).map (fun i => (i.zero, i.size, i.bytes)) = some (some (.agg #[.bool false, .int .i64 0, .int .i64 0]), 3, 24) := by kernel_rfl
set_option maxHeartbeats 800000 in
theorem clone_ics (w : World) (v : Value) (cs : List Value) (n : Nat) (hb : n ≤ 1000000) (h : Rd w 3 v n cs) (h1 : ∀ u ∈ cs, u.oneCell' = true) :
    Calls Tryz.prog 47 #[v] w fun e w' => ∃ v', e = .returned v' ∧ Fr Nob w w' ∧ Sl w' (fun k => w.heap.size ≤ k ∧ k < w'.heap.size) 27 3 v' n cs := by
  obtain ⟨hl, _, A, c, rfl, hc1, hc2, hA⟩ := h
  cases A with
  | none =>
    obtain rfl : n = 0 := by
      rcases Nat.eq_zero_or_pos n with h | h
      · exact h
      · obtain ⟨g, o, h1, _⟩ := hA h; cases h1
    obtain rfl : cs = [] := List.eq_nil_of_length_eq_zero (by omega)
    have hk := fun w : World => Lib.run_eql_slice_nil (P := Tryz.prog) w 23 27 none 0 c 0 0 Tryz.underlying23
    clear hA h1
    go_enter Tryz.func47, Tryz.ntmps47
    go_wp2_with fail
    go_ret
    exact ⟨_, rfl, Fr.refl _ _, Sl.nil _ _ _ _⟩
  | some ad =>
    have hk := fun w : World => Lib.run_eql_slice_nil (P := Tryz.prog) w 23 27 (some ad) n c 0 0 Tryz.underlying23
    have hnews : ∀ j u, cs[j]? = some u → (w.alloc (.cells #[] 27)).cell? (ad.add j) = some u := fun j u hj => by
      have hjl := (List.getElem?_eq_some_iff.1 hj).1
      obtain ⟨g, o, h1, h2, h3⟩ := hA (by rcases Nat.eq_zero_or_pos n with e | e; subst e; omega; exact e)
      cases h1
      rw [Addr.add_lit]
      exact ((Fr.refl Nob w).alloc _).cell (p := ⟨g, o + j, none⟩) (fun q => q) (h3 j u hj)
    have h0 : Sl (w.alloc (.cells #[] 27)) (From w.heap.size) 27 3 (.slice (some ⟨w.heap.size, 0, none⟩) 0 0) 0 [] :=
      Sl.lit w 27 3 #[] 0 (From w.heap.size) (by simp [From]) (by simp [maxLen]) rfl
    have Hnews := Lib.hid hnews; have H0 := Lib.hid h0; have Hl := Lib.hid hl; have H1 := Lib.hid h1
    clear hA hnews h0 hl h1
    go_enter Tryz.func47, Tryz.ntmps47
    go_wp2_with (at_builtin; refine wpList_append_sl _ rfl _ _ _ rfl (From w.heap.size) 27 _ 3 24 Tryz.underlying23 Tryz.info_clone_ics rfl (by omega) (.slice (some ⟨w.heap.size, 0, none⟩) 0 0) 0 [] rfl H0.out ad n c cs rfl Hl.out Hnews.out H1.out (by unfold maxLen; omega) (by omega) ?_; intro v1 w1 hs1 hf1)
    obtain ⟨A1, c1, rfl⟩ := hs1.slice
    go_ret
    have hz := hf1.size
    simp at hz
    refine ⟨_, rfl, (((Fr.refl Nob w).alloc (.cells #[] 27)).none.trans0 hf1).mono fun k hk q => by unfold From at q; omega, ?_⟩
    rw [Nat.zero_add] at hs1 ⊢
    exact hs1.mono fun k hk q => by rcases q with q | q; exact ⟨q, hk⟩; simp at q; exact ⟨by omega, hk⟩
theorem Tryz.info_clone_ins : (Tryz.prog.info? 25).map (fun i => (i.zero, i.size, i.bytes)) = some (some (.agg #[.int .i64 0, .int .i64 0, .int .i64 0, .int .i64 0, .slice none 0 0, .bool false]), 6, 64) := by kernel_rfl
set_option maxHeartbeats 800000 in
theorem clone_ins (w : World) (v : Value) (cs : List Value) (n : Nat) (hb : n ≤ 1000000) (h : Rd w 6 v n cs) (h1 : ∀ u ∈ cs, u.oneCell' = true) :
    Calls Tryz.prog 46 #[v] w fun e w' => ∃ v', e = .returned v' ∧ Fr Nob w w' ∧ Sl w' (fun k => w.heap.size ≤ k ∧ k < w'.heap.size) 25 6 v' n cs := by
  obtain ⟨hl, _, A, c, rfl, hc1, hc2, hA⟩ := h
  cases A with
  | none =>
    obtain rfl : n = 0 := by
      rcases Nat.eq_zero_or_pos n with h | h
      · exact h
      · obtain ⟨g, o, h1, _⟩ := hA h; cases h1
    obtain rfl : cs = [] := List.eq_nil_of_length_eq_zero (by omega)
    have hk := fun w : World => Lib.run_eql_slice_nil (P := Tryz.prog) w 28 25 none 0 c 0 0 Tryz.underlying28
    clear hA h1
    go_enter Tryz.func46, Tryz.ntmps46
    go_wp2_with fail
    go_ret
    exact ⟨_, rfl, Fr.refl _ _, Sl.nil _ _ _ _⟩
  | some ad =>
    have hk := fun w : World => Lib.run_eql_slice_nil (P := Tryz.prog) w 28 25 (some ad) n c 0 0 Tryz.underlying28
    have hnews : ∀ j u, cs[j]? = some u → (w.alloc (.cells #[] 25)).cell? (ad.add j) = some u := fun j u hj => by
      have hjl := (List.getElem?_eq_some_iff.1 hj).1
      obtain ⟨g, o, h1, h2, h3⟩ := hA (by rcases Nat.eq_zero_or_pos n with e | e; subst e; omega; exact e)
      cases h1
      rw [Addr.add_lit]
      exact ((Fr.refl Nob w).alloc _).cell (p := ⟨g, o + j, none⟩) (fun q => q) (h3 j u hj)
    have h0 : Sl (w.alloc (.cells #[] 25)) (From w.heap.size) 25 6 (.slice (some ⟨w.heap.size, 0, none⟩) 0 0) 0 [] :=
      Sl.lit w 25 6 #[] 0 (From w.heap.size) (by simp [From]) (by simp [maxLen]) rfl
    have Hnews := Lib.hid hnews; have H0 := Lib.hid h0; have Hl := Lib.hid hl; have H1 := Lib.hid h1
    clear hA hnews h0 hl h1
    go_enter Tryz.func46, Tryz.ntmps46
    go_wp2_with (at_builtin; refine wpList_append_sl _ rfl _ _ _ rfl (From w.heap.size) 25 _ 6 64 Tryz.underlying28 Tryz.info_clone_ins rfl (by omega) (.slice (some ⟨w.heap.size, 0, none⟩) 0 0) 0 [] rfl H0.out ad n c cs rfl Hl.out Hnews.out H1.out (by unfold maxLen; omega) (by omega) ?_; intro v1 w1 hs1 hf1)
    obtain ⟨A1, c1, rfl⟩ := hs1.slice
    go_ret
    have hz := hf1.size
    simp at hz
    refine ⟨_, rfl, (((Fr.refl Nob w).alloc (.cells #[] 25)).none.trans0 hf1).mono fun k hk q => by unfold From at q; omega, ?_⟩
    rw [Nat.zero_add] at hs1 ⊢
    exact hs1.mono fun k hk q => by rcases q with q | q; exact ⟨q, hk⟩; simp at q; exact ⟨by omega, hk⟩
theorem evs_one (l : List Ev) : ∀ u ∈ evs l, u.oneCell' = true := by
  intro u hu
  obtain ⟨x, _, hx⟩ := List.mem_flatMap.1 hu
  simp only [evEn, List.mem_cons, List.not_mem_nil, or_false] at hx
  rcases hx with rfl | rfl | rfl | rfl | rfl | rfl <;> rfl
/-- The same instruction, its cases maybe elsewhere. -/
def SameI (y y' : Ins) : Prop := y'.1 = y.1 ∧ y'.2.2 = y.2.2 ∧ (y.2.2.1 = [] → y' = y)
theorem SameI.refl (y : Ins) : SameI y y := ⟨rfl, rfl, fun _ => rfl⟩
theorem ins_one {w : World} {p : List Ins} (h : ∀ y ∈ p, InsOk w y) : ∀ u ∈ p.flatMap insEn, u.oneCell' = true := by
  intro u hu
  obtain ⟨x, hx0, hx⟩ := List.mem_flatMap.1 hu
  obtain ⟨_, _, A, c, hv, _⟩ := h x hx0
  simp only [insEn, List.mem_cons, List.not_mem_nil, or_false] at hx
  rcases hx with rfl | rfl | rfl | rfl | rfl | rfl
  · rfl
  · rfl
  · rfl
  · rfl
  · rw [hv]; rfl
  · rfl
theorem ics_one (cs : List ICs) : ∀ u ∈ cs.flatMap icsEn, u.oneCell' = true := by
  intro u hu
  obtain ⟨x, _, hx⟩ := List.mem_flatMap.1 hu
  simp only [icsEn, List.mem_cons, List.not_mem_nil, or_false] at hx
  rcases hx with rfl | rfl | rfl <;> rfl
theorem insSet : ∀ (q : List Ins) (k : Nat) (y : Ins) (v : Value), q[k]? = some y → (q.flatMap insEn).set (k * 6 + 4) v = (q.set k (y.1, v, y.2.2)).flatMap insEn
  | [], k, y, v, h => by simp at h
  | x :: q, 0, y, v, h => by simp at h; subst h; simp [List.flatMap_cons, insEn]
  | x :: q, k + 1, y, v, h => by
    have ih := insSet q k y v (by simpa using h)
    rw [List.set_cons_succ, List.flatMap_cons, List.flatMap_cons, List.set_append, if_neg (by simp; omega), show (k + 1) * 6 + 4 - (insEn x).length = k * 6 + 4 by simp; omega, ih]
/-- How far own is. -/
structure OwnSt (w w1 wr : World) (v1 : Value) (p q : List Ins) (n k : Nat) : Prop where
  fr : Fr Nob w wr
  sz : w1.heap.size ≤ wr.heap.size
  len : q.length = n
  same : ∀ (j : Nat) (y : Ins), p[j]? = some y → ∃ y', q[j]? = some y' ∧ SameI y y'
  rest : ∀ j : Nat, k ≤ j → q[j]? = p[j]?
  done : ∀ (j : Nat) (y : Ins), j < k → q[j]? = some y → Sl wr (fun b => w1.heap.size ≤ b ∧ b < wr.heap.size) 27 3 y.2.1 y.2.2.1.length (y.2.2.1.flatMap icsEn) ∧ (y.2.2.1 = [] → y.2.1 = .slice none 0 0)
  sl : Sl wr (fun b => w.heap.size ≤ b ∧ b < w1.heap.size) 25 6 v1 n (q.flatMap insEn)
def OwnP (w : World) (p : List Ins) (n : Nat) (e : Ending) (w' : World) : Prop := ∃ (v' : Value) (q : List Ins), e = .returned v' ∧ Fr Nob w w' ∧ q.length = n ∧ (∀ (j : Nat) (y : Ins), p[j]? = some y → ∃ y', q[j]? = some y' ∧ SameI y y') ∧ Sl w' (fun b => w.heap.size ≤ b ∧ b < w'.heap.size) 25 6 v' n (q.flatMap insEn) ∧ ∀ y ∈ q, Sl w' (fun b => w.heap.size ≤ b ∧ b < w'.heap.size) 27 3 y.2.1 y.2.2.1.length (y.2.2.1.flatMap icsEn) ∧ (y.2.2.1 = [] → y.2.1 = .slice none 0 0)
set_option maxHeartbeats 2000000 in
theorem world_own {w : World} {v : Value} {p : List Ins} (n : Nat) (hn : p.length = n) (hb : n ≤ 100) (h : Rd w 6 v n (p.flatMap insEn)) (hok : ∀ y ∈ p, InsOk w y) (hnil : ∀ y ∈ p, y.2.2.1 = [] → y.2.1 = .slice none 0 0) (hcs : ∀ y ∈ p, y.2.2.1.length ≤ 16) :
    Calls Tryz.prog 25 #[v] w (OwnP w p n) := by
  have Hcl := Lib.hid (clone_ins w v (p.flatMap insEn) n (by omega) h (ins_one hok))
  have Hok := Lib.hid hok; have Hnil := Lib.hid hnil; have Hn := Lib.hid hn; have Hcs := Lib.hid hcs
  clear h hok hnil hn hcs
  go_enter Tryz.func25, Tryz.ntmps25
  go_wp2_with fail
  refine Hcl.out.mono ?_
  rintro e w1 ⟨v1, rfl, hf1, hs1⟩
  obtain ⟨A1, c1, rfl⟩ := hs1.slice
  have hst : OwnSt w w1 w1 (.slice A1 n c1) p p n 0 := ⟨hf1, Nat.le_refl _, Hn.out, fun j y hj => ⟨y, hj, SameI.refl y⟩, fun _ _ => rfl, fun j y hj => by omega, hs1⟩
  have Hst := Lib.hid hst; have Hf1 := Lib.hid hf1
  clear hf1 hs1 hst
  go_wp2_with fail
  go_loopw [8] (fun i wr => ∃ (k : Nat) (q : List Ins), k ≤ n ∧ i = .int .i64 k ∧ Hid (OwnSt w w1 wr (.slice A1 n c1) p q n k)) (fun i _ => n - (intOf i).toNat)
  case atStart => exact ⟨0, p, Nat.zero_le _, rfl, Hst⟩
  case round =>
    obtain ⟨k, q, hk, rfl, hr⟩ := hrel
    by_cases hlt : k < n
    · obtain ⟨y, hy⟩ : ∃ y, q[k]? = some y := ⟨q[k]'(by rw [hr.out.len]; exact hlt), by simp⟩
      have hyp : p[k]? = some y := by rw [← hr.out.rest k (Nat.le_refl _)]; exact hy
      have hmem := List.mem_of_getElem? hyp
      obtain ⟨g, off, cp, hv, hg, hgl, hc1, hc2, hc, hfz⟩ := hr.out.sl.form (by omega)
      injection hv with hA hn' hcp
      subst hA; subst hcp
      have q4 := hc _ _ ((insGet q k 4 y hy (by omega)).trans rfl)
      rw [← Nat.add_assoc] at q4
      have f4 := hfz (off + k * 6 + 4)
      have hki : (k : Int) < n := by omega
      have hio := (Hok.out y hmem).fr hr.out.fr
      have Hr := hr
      have Hy := Lib.hid hy; have Hyp := Lib.hid hyp; have Hg := Lib.hid hg; have Hgl := Lib.hid hgl
      by_cases he : y.2.2.1 = []
      · have hv0 := Hnil.out y hmem he
        rw [hv0] at q4
        clear hc hfz hn' hr hmem hio hy hyp hg hgl
        go_wp2_with fail
        refine (clone_nil wr).mono ?_
        rintro e _ ⟨rfl, rfl⟩
        go_wp2_with fail
        obtain ⟨w3, hw3⟩ : ∃ w3, w3 = wr.setCell ⟨g, off + k * 6 + 4, none⟩ (.slice none 0 0) := ⟨_, rfl⟩
        rw [← hw3]
        have hf3 : Fr (fun b => b = g) wr w3 := by rw [hw3]; exact (Fr.refl (fun b => b = g) wr).setCell (p := ⟨g, off + k * 6 + 4, none⟩) (.inl rfl) _
        have hsl : Sl w3 (fun b => w.heap.size ≤ b ∧ b < w1.heap.size) 25 6 (.slice (some ⟨g, off, none⟩) n c1) n (q.flatMap insEn) := by
          have e1 := Hr.out.sl.set (k * 6 + 4) (by omega) (.slice none 0 0)
          rw [insSet q k y _ Hy.out, show (y.1, Value.slice none 0 0, y.2.2) = y by rw [← hv0]] at e1
          have e2 : q.set k y = q := by
            have hlt := (List.getElem?_eq_some_iff.1 Hy.out)
            obtain ⟨hlt, he⟩ := hlt
            rw [← he, List.set_getElem_self]
          rw [e2, ← Nat.add_assoc, ← hw3] at e1
          exact e1
        have hz3 := hf3.size
        have hst : OwnSt w w1 w3 (.slice (some ⟨g, off, none⟩) n c1) p q n (k + 1) := ⟨Hr.out.fr.trans hf3 fun b hb e => by have := Hg.out.1; omega, by have := Hr.out.sz; omega, Hr.out.len, Hr.out.same, fun j hj => Hr.out.rest j (by omega), fun j y' hj hy' => by
          by_cases e : j = k
          · subst e
            rw [Hy.out] at hy'
            cases hy'
            rw [hv0, he]
            exact ⟨Sl.nil _ _ _ _, fun _ => rfl⟩
          · obtain ⟨a, b⟩ := Hr.out.done j y' (by omega) hy'
            exact ⟨(a.fr hf3 fun b q e => by have := Hg.out.2; omega).mono fun b hb q => ⟨q.1, hb⟩, b⟩, hsl⟩
        have Hst2 := Lib.hid hst
        clear hst hsl hf3 hw3 q4 f4
        go_wp2_with fail
        go_roundw
        case rel => exact ⟨k + 1, q, by omega, by go_num, Hst2⟩
        case measure => simp [intOf]; omega
      · have Hc2 := Lib.hid (clone_ics wr y.2.1 (y.2.2.1.flatMap icsEn) y.2.2.1.length (by have := Hcs.out y hmem; omega) hio (ics_one _))
        have hvs : ∃ A2 c2, y.2.1 = .slice A2 y.2.2.1.length c2 := by obtain ⟨_, _, A2, c2, hv, _⟩ := hio; exact ⟨A2, c2, hv⟩
        obtain ⟨A2, c2, hvs⟩ := hvs
        clear hc hfz hn' hr hmem hio hy hyp hg hgl
        rw [hvs] at q4 Hc2
        go_wp2_with fail
        refine Hc2.out.mono ?_
        rintro e w2 ⟨v2, rfl, hf2, hs2⟩
        obtain ⟨A3, c3, rfl⟩ := hs2.slice
        have q42 := hf2.cell (p := ⟨g, off + k * 6 + 4, none⟩) (fun q => q) q4
        have f42 : w2.frozen? ⟨g, off + k * 6 + 4, none⟩ = false := by rw [hf2.frozen (p := ⟨g, off + k * 6 + 4, none⟩) (fun q => q) Hgl.out]; exact f4
        have Hf2 := Lib.hid hf2; have Hs2 := Lib.hid hs2
        clear hf2 hs2 q4 f4
        go_wp2_with fail
        obtain ⟨w3, hw3⟩ : ∃ w3, w3 = w2.setCell ⟨g, off + k * 6 + 4, none⟩ (.slice A3 y.2.2.1.length c3) := ⟨_, rfl⟩
        rw [← hw3]
        have hf3 : Fr (fun b => b = g) w2 w3 := by rw [hw3]; exact (Fr.refl (fun b => b = g) w2).setCell (p := ⟨g, off + k * 6 + 4, none⟩) (.inl rfl) _
        have hsl : Sl w3 (fun b => w.heap.size ≤ b ∧ b < w1.heap.size) 25 6 (.slice (some ⟨g, off, none⟩) n c1) n ((q.set k (y.1, .slice A3 y.2.2.1.length c3, y.2.2)).flatMap insEn) := by
          have e1 := (Hr.out.sl.fr Hf2.out fun _ _ q => q).set (k * 6 + 4) (by omega) (.slice A3 y.2.2.1.length c3)
          rw [insSet q k y _ Hy.out, ← Nat.add_assoc, ← hw3] at e1
          exact e1
        have hz2 := Hf2.out.size
        have hz3 := hf3.size
        have hgw := Hg.out
        have hst : OwnSt w w1 w3 (.slice (some ⟨g, off, none⟩) n c1) p (q.set k (y.1, .slice A3 y.2.2.1.length c3, y.2.2)) n (k + 1) := ⟨(Hr.out.fr.trans0 Hf2.out).trans hf3 fun b hb e => by omega, by have := Hr.out.sz; omega, by rw [List.length_set]; exact Hr.out.len, fun j y' hj => by
          by_cases e : j = k
          · subst e
            rw [Hyp.out] at hj
            cases hj
            exact ⟨_, List.getElem?_set_self (by rw [Hr.out.len]; exact hlt), rfl, rfl, fun q => absurd q he⟩
          · rw [List.getElem?_set_ne (by omega)]; exact Hr.out.same j y' hj, fun j hj => by rw [List.getElem?_set_ne (by omega)]; exact Hr.out.rest j (by omega), fun j y' hj hy' => by
          by_cases e : j = k
          · subst e
            rw [List.getElem?_set_self (by rw [Hr.out.len]; exact hlt)] at hy'
            cases hy'
            refine ⟨(Hs2.out.fr hf3 fun b q e => by have := Hr.out.sz; omega).mono fun b hb q => ⟨by have := Hr.out.sz; omega, hb⟩, fun q => absurd q he⟩
          · rw [List.getElem?_set_ne (by omega)] at hy'
            obtain ⟨a, b⟩ := Hr.out.done j y' (by omega) hy'
            exact ⟨((a.fr Hf2.out fun _ _ q => q).fr hf3 fun b q e => by omega).mono fun b hb q => ⟨q.1, hb⟩, b⟩, hsl⟩
        have Hst2 := Lib.hid hst
        clear hst hsl hf3 hw3 q42 f42
        go_wp2_with fail
        go_roundw
        case rel => exact ⟨k + 1, _, by omega, by go_num, Hst2⟩
        case measure => simp [intOf]; omega
    · obtain rfl : k = n := by omega
      go_wp2_with fail
      go_ret
      refine ⟨_, q, rfl, hr.out.fr, hr.out.len, hr.out.same, hr.out.sl.mono fun b hb q => ⟨q.1, hb⟩, fun y hy => ?_⟩
      obtain ⟨j, hj, e⟩ := List.mem_iff_getElem.1 hy
      obtain ⟨a, b⟩ := hr.out.done j y (by have := hr.out.len; omega) (by rw [List.getElem?_eq_getElem hj, e])
      exact ⟨a.mono fun b hb q => ⟨by have := Hf1.out.size; omega, q.2⟩, b⟩
end Go.Proofs.YtcffplgimbbflaaGreat
