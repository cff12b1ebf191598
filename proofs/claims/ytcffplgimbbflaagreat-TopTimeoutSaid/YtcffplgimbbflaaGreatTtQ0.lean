/- TopTimeout answers true whatever its inputs are: no condition. -/
import Derived.Test.YtcffplgimbbflaaGreatSlQ27
set_option linter.unusedVariables false
set_option linter.unusedSimpArgs false
namespace Go.Proofs.YtcffplgimbbflaaGreat
open Go.RowKit
set_option maxRecDepth 100000
theorem Fr.below {S : Nat → Prop} {w w' : World} (h : Fr S w w') {B : Nat} (hB : B ≤ w.heap.size) (hs : ∀ k, S k → B ≤ k) : Below B w w' :=
  ⟨h.os, h.tape, h.output, h.size, fun k hk => h.block k (by omega) (fun q => by have := hs k q; omega)⟩
theorem Fr.ofBelow {w w' : World} {B : Nat} (h : Below B w w') : Fr (From B) w w' := ⟨h.os, h.tape, h.output, h.size, fun k _ hn => h.block k (by unfold From at hn; omega)⟩
/-! Blocks that are known whole -/
/-! A slice that lies in a block of S (nil let in): n elements of sz cells each, the cells cs -/
/-! A slice that is read: its elements' cells are there (nil let in) -/
theorem Rd.below {w w' : World} {B sz : Nat} {v : Value} {n : Nat} {cs : List Value} (h : Rd w sz v n cs) (hf : Below w.heap.size w w') : Rd w' sz v n cs := h.fr ((Fr.ofBelow hf).mono fun k hk q => absurd q (by unfold From; omega))
/-! xs[m:k] -/
/-! Lists of whole numbers as cells -/
/-! Two arrays of whole numbers that are alike -/
theorem run_idle' {P : List (List Ins)} {st : WS} {n dr : Int} (h : st.line = []) : st.run P n dr = some st := by
  unfold WS.run; rw [h]
/-- Entries that run, with what they tell; the numbers that are still to be looked at stand aside. -/
def playsU (P : List (List Ins)) : WS → List En → Option (WS × List Ev × List Nat)
  | st, [] => some (st, [], [])
  | st, e :: es => if st.few = false then none else match ({ st with ev := [] } : WS).run P e.2.1 e.2.2 with
    | none => none
    | some s => if 1000000 < s.ev.length then none else match playsU P { s with steps := s.steps + 1 } es with
      | none => none
      | some (u, l, ks) => some (u, s.ev ++ l, s.steps :: ks)
theorem playsU_plays {P : List (List Ins)} : ∀ {es : List En} {st u : WS} {l : List Ev} {ks : List Nat}, playsU P st es = some (u, l, ks) → (∀ e ∈ es, e.1 = 1) → (∀ k ∈ ks, k < 10000) → plays P st es = some (u, l)
  | [], st, u, l, ks, h, _, _ => by
    unfold playsU at h
    cases h
    rfl
  | e :: es, st, u, l, ks, h, he, hk => by
    unfold playsU at h
    split at h
    · cases h
    · next hf =>
      split at h
      · cases h
      · next s hs =>
        split at h
        · cases h
        · next hl =>
          split at h
          · cases h
          · next u' l' ks' hp =>
            cases h
            have hst : st.step P e = some { s with steps := s.steps + 1 } := by
              have e1 : e = (1, e.2.1, e.2.2) := by rw [← he e List.mem_cons_self]
              rw [e1]
              exact step_run (by simpa using hf) hs (hk _ List.mem_cons_self) (by omega)
            unfold plays
            rw [hst]
            dsimp only
            rw [playsU_plays hp (fun x hx => he x (List.mem_cons_of_mem _ hx)) (fun x hx => hk x (List.mem_cons_of_mem _ hx))]
/-- What is due fires. -/
def WS.fireU (st : WS) : Option WS :=
  match st.hp with
  | [] => none
  | x :: _ => match st.tm[x.1.toNat]? with
    | none => none
    | some (kind, data, c, gen) =>
      if kind = 3 ∨ kind = 4 then none else
      match st.ch c with
      | none => none
      | some cc => match takeR st.hp st.seq st.per x st.now with
        | none => none
        | some (hp', seq', per') => if 1000 ≤ st.ev.length then none else match ({ st with hp := hp', seq := seq', per := per', ch := Go.Proofs.YtcffplgimbbflaaGreat.upd st.ch c (some (cc.putS st.now)) }.tell 6 (-1) x.1 x.2.1 0).wakes (cc.putR st.now).1 with
          | none => none
          | some s3 => some s3
theorem fire_of {st s : WS} (h0 : 0 ≤ st.now) (hm : st.now ≤ maxT) (hd : ∀ x r, st.hp = x :: r → x.2.1 ≤ st.now) (h : st.fireU = some s) : st.fire = some (some s) := by
  unfold WS.fireU at h
  unfold WS.fire
  rw [if_neg (by omega)]
  split at h
  · cases h
  · next x r hx =>
    rw [hx]
    dsimp only
    rw [if_neg (by have := hd x r hx; omega)]
    rw [hx] at h
    split at h
    · cases h
    · next kind data c gen ht =>
      rw [ht]
      dsimp only
      split at h
      · cases h
      · next hk =>
        rw [if_neg hk]
        split at h
        · cases h
        · next cc hcc =>
          rw [hcc]
          dsimp only
          split at h
          · cases h
          · next hp' seq' per' htk =>
            rw [htk]
            dsimp only
            split at h
            · cases h
            · next hev =>
              rw [if_neg hev]
              split at h
              · cases h
              · next s3 hw =>
                cases h
                rw [hw]
theorem fires_two {st s1 s : WS} {n : Nat} (h1 : st.fire = some (some s1)) (h : s1.fires (n + 1) = some s) : st.fires (n + 2) = some s := by
  unfold WS.fires
  rw [h1]
  exact h
theorem fires_stop {st : WS} {n : Nat} (h0 : 0 ≤ st.now) (h1 : st.now ≤ maxT) (h : ∀ x r, st.hp = x :: r → st.now < x.2.1) : st.fires (n + 1) = some st := by
  have : st.fire = some none := by
    unfold WS.fire
    rw [if_neg (by omega)]
    split
    · rfl
    · next x r hx => rw [if_pos (h x r hx)]
  unfold WS.fires
  rw [this]
theorem plays_next {P : List (List Ins)} {st s u : WS} {e : En} {es : List En} {l : List Ev} (h : st.step P e = some s) (hp : plays P s es = some (u, l)) : plays P st (e :: es) = some (u, s.ev ++ l) := by
  unfold plays; rw [h]; dsimp only; rw [hp]
theorem plays_app {P : List (List Ins)} : ∀ {a b : List En} {st s u : WS} {l m : List Ev}, plays P st a = some (s, l) → plays P s b = some (u, m) → plays P st (a ++ b) = some (u, l ++ m)
  | [], b, st, s, u, l, m, h, h2 => by unfold plays at h; cases h; exact h2
  | e :: a, b, st, s, u, l, m, h, h2 => by
    obtain ⟨s1, l', g1, g2, rfl⟩ := plays_cons h
    rw [List.append_assoc]
    exact plays_next g1 (plays_app g2 h2)
/-- A state at a time, at a step, told nothing. -/
def WS.at (X : WS) (t : Int) (k : Nat) : WS := { X with now := t, steps := k, ev := [] }
theorem at_self {X : WS} (h : X.ev = []) : X = X.at X.now X.steps := by unfold WS.at; rw [← h]
theorem runs_idle {P : List (List Ins)} {X : WS} {t : Int} (hl : X.line = []) (hf : X.few = true) : ∀ (es : List En) (k : Nat), (∀ e ∈ es, e.1 = 1) → k + es.length ≤ 10000 → plays P (X.at t k) es = some (X.at t (k + es.length), [])
  | [], k, _, _ => rfl
  | e :: es, k, he, hk => by
    rw [List.length_cons] at hk ⊢
    have e1 : e = (1, e.2.1, e.2.2) := by rw [← he e List.mem_cons_self]
    have hs : (X.at t k).step P e = some (X.at t (k + 1)) := by
      rw [e1]
      exact step_run (s1 := X.at t k) hf (run_idle' hl) (by show k < 10000; omega) (by show 0 ≤ 1000000; omega)
    have := plays_next hs (runs_idle hl hf es (k + 1) (fun x hx => he x (List.mem_cons_of_mem _ hx)) (by omega))
    rw [show k + 1 + es.length = k + (es.length + 1) by omega] at this
    exact this
theorem runsE_one (n : Nat) : ∀ e ∈ runsE n, e.1 = 1 := by
  intro e he
  unfold runsE at he
  obtain ⟨i, _, rfl⟩ := List.mem_map.1 he
  rfl
/-- A round: time goes on, and all runs. -/
def roundE : List En := (2, 1, 0) :: runsE 30
/-- Many rounds. -/
def roundsE : Nat → List En
  | 0 => []
  | n + 1 => roundE ++ roundsE n
theorem round_of {P : List (List Ins)} {X s u : WS} {t : Int} {k : Nat} {l : List Ev} {ks : List Nat} (hf : X.few = true) (ht : addT t 1 = t + 1) (hfi : (X.at (t + 1) k).fires 9 = some s) (hk : s.steps < 10000) (he : s.ev.length ≤ 1000000) (hu : playsU P { s with steps := s.steps + 1 } (runsE 30) = some (u, l, ks)) (hks : ∀ k ∈ ks, k < 10000) :
    plays P (X.at t k) roundE = some (u, s.ev ++ l) := by
  unfold roundE
  have h1 : (X.at t k).step P (2, 1, 0) = some { s with steps := s.steps + 1 } := by
    refine step_adv (st := X.at t k) hf (by omega) ?_ hk he
    show ({ X.at t k with ev := [], now := addT t 1 } : WS).fires 9 = some s
    rw [ht]
    exact hfi
  exact plays_next (s := { s with steps := s.steps + 1 }) h1 (playsU_plays hu (runsE_one 30) hks)
theorem round_idle {P : List (List Ins)} {X : WS} {t : Int} {k : Nat} (hl : X.line = []) (hf : X.few = true) (h0 : 0 ≤ t) (ht : t ≤ 100000) (hn : ∀ x r, X.hp = x :: r → t + 1 < x.2.1) (hk : k + 31 ≤ 10000) :
    plays P (X.at t k) roundE = some (X.at (t + 1) (k + 31), []) := by
  have ea : addT t 1 = t + 1 := by unfold addT heldT; omega
  unfold roundE
  have h1 : (X.at t k).step P (2, 1, 0) = some (X.at (t + 1) (k + 1)) := by
    refine step_adv (st := X.at t k) (s1 := X.at (t + 1) k) hf (by omega) ?_ (by show k < 10000; omega) (by show 0 ≤ 1000000; omega)
    show ({ X.at t k with ev := [], now := addT t 1 } : WS).fires 9 = some _
    rw [ea]
    exact fires_stop (st := X.at (t + 1) k) (by show 0 ≤ t + 1; omega) (by show t + 1 ≤ maxT; unfold maxT; omega) hn
  have := plays_next h1 (runs_idle (t := t + 1) hl hf (runsE 30) (k + 1) (runsE_one 30) (by simp [runsE]; omega))
  rw [show k + 1 + (runsE 30).length = k + 31 by simp [runsE]] at this
  exact this
theorem rounds_idle {P : List (List Ins)} {X : WS} (hl : X.line = []) (hf : X.few = true) : ∀ (n : Nat) (t : Int) (k : Nat), 0 ≤ t → t + (n : Int) ≤ 100000 → (∀ x r, X.hp = x :: r → t + (n : Int) < x.2.1) → k + 31 * n ≤ 10000 → plays P (X.at t k) (roundsE n) = some (X.at (t + (n : Int)) (k + 31 * n), [])
  | 0, t, k, _, _, _, _ => by
    rw [show t + ((0 : Nat) : Int) = t by omega, show k + 31 * 0 = k by omega]
    rfl
  | n + 1, t, k, h0, ht, hn, hk => by
    have h1 := round_idle (P := P) (X := X) (t := t) (k := k) hl hf h0 (by omega) (fun x r hx => by have := hn x r hx; omega) (by omega)
    have h2 := rounds_idle (P := P) hl hf n (t + 1) (k + 31) (by omega) (by omega) (fun x r hx => by have := hn x r hx; omega) (by omega)
    rw [show t + 1 + (n : Int) = t + ((n + 1 : Nat) : Int) by omega, show k + 31 + 31 * n = k + 31 * (n + 1) by omega] at h2
    exact plays_app h1 h2
theorem roundsE_add (a b : Nat) : roundsE (a + b) = roundsE a ++ roundsE b := by
  induction a with
  | zero => rw [Nat.zero_add]; rfl
  | succ a ih => rw [show a + 1 + b = (a + b) + 1 by omega]; show roundE ++ roundsE (a + b) = (roundE ++ roundsE a) ++ roundsE b; rw [ih, List.append_assoc]
theorem roundsE_one : roundsE 1 = roundE := by unfold roundsE; simp [roundsE]
def yP (v : Value) : Ins := ((15, 4, 5, 6), v, [(false, 0, 0), (false, 2, 0)], false)
def yQ (v : Value) : Ins := ((15, 5, 6, 7), v, [(true, 0, 4)], true)
def pT (d : Int) (v : Value) : List Ins := [ins 9 0 0 0, ins 8 7 1 0, ins 1 1 d 0, ins 17 3 1 2, yP v, ins 6 4 0 0, ins 6 5 0 0, ins 20 3 6 0, ins 6 6 0 0]
def qT (a x : Int) (v : Value) : List Ins := [ins 1 1 a 0, ins 17 3 1 2, ins 11 2 4 5, ins 1 4 x 0, yQ v, ins 6 5 0 0]
theorem goodPT (d : Int) (v : Value) : progB (pT d v) = true := rfl
theorem goodQT (a x : Int) (v : Value) : progB (qT a x v) = true := rfl
def PT (d a x : Int) (v v2 : Value) : List (List Ins) := [pT d v, qT a x v2]
def uOf (o : Option (WS × List Ev × List Nat)) : WS := (o.map fun z => z.1).getD ws0
/-- Both wait. -/
def sT0 (d a x : Int) (v v2 : Value) : WS := uOf (playsU (PT d a x v v2) ws0 (runsE 40))
/-- Nobody waits on a channel. -/
def quietC (st : WS) (i : Nat) : Bool := match st.ch i with
  | some c => c.rv.isEmpty && c.sd.isEmpty
  | none => false
def factsU (o : Option (WS × List Ev × List Nat)) := o.map fun z => (z.1.now, z.1.steps, z.1.ev, z.1.line, z.1.hp, z.1.few, toldL 0 z.2.1, toldL 1 z.2.1, z.2.1.length, z.2.2, z.1.nch, quietC z.1 0, quietC z.1 1, quietC z.1 2)
theorem facts0 (i j : Nat) (x : Int) (v v2 : Value) : factsU (playsU (PT ((i + 1 : Nat) : Int) ((j + 1 : Nat) : Int) x v v2) ws0 (runsE 40)) = some (0, 40, [], [], (if aheadI (1, addT 0 ((j + 1 : Nat) : Int), 2) (0, addT 0 ((i + 1 : Nat) : Int), 1) then [(1, addT 0 ((j + 1 : Nat) : Int), 2), (0, addT 0 ((i + 1 : Nat) : Int), 1)] else [(0, addT 0 ((i + 1 : Nat) : Int), 1), (1, addT 0 ((j + 1 : Nat) : Int), 2)]), true, [], [], 3, List.range 40, 3, false, false, false) := by kernel_rfl
/-- A round in which one is due; two. -/
def fireR (P : List (List Ins)) (st : WS) : Option (WS × List Ev × List Nat × List Hi × Int) := match st.fireU with
  | none => none
  | some s => match playsU P { s with steps := s.steps + 1 } (runsE 30) with
    | none => none
    | some (u, l, ks) => some (u, s.ev ++ l, s.steps :: ks, s.hp, s.now)
def fireR2 (P : List (List Ins)) (st : WS) : Option (WS × List Ev × List Nat × List Hi × Int × List Hi × Int) := match st.fireU with
  | none => none
  | some s1 => match fireR P s1 with
    | none => none
    | some (u, l, ks, hp, now) => some (u, l, ks, hp, now, s1.hp, s1.now)
theorem round_fire {P : List (List Ins)} {X u : WS} {t : Int} {k : Nat} {l : List Ev} {ks : List Nat} {hp : List Hi} (hf : X.few = true) (h0 : 0 ≤ t) (ht : t ≤ 100000) (hd : ∀ x r, X.hp = x :: r → x.2.1 ≤ t + 1) (h : fireR P (X.at (t + 1) k) = some (u, l, ks, hp, t + 1)) (hno : ∀ x r, hp = x :: r → t + 1 < x.2.1) (hks : ∀ k ∈ ks, k < 10000) (hl : l.length ≤ 1000) : plays P (X.at t k) roundE = some (u, l) := by
  have ea : addT t 1 = t + 1 := by unfold addT heldT; omega
  unfold fireR at h
  split at h
  · cases h
  · next s hs =>
    split at h
    · cases h
    · next u' l' ks' hu =>
      simp only [Option.some.injEq, Prod.mk.injEq] at h
      obtain ⟨rfl, rfl, rfl, rfl, hnow⟩ := h
      have h1 : (X.at (t + 1) k).fire = some (some s) := fire_of (by show 0 ≤ t + 1; omega) (by show t + 1 ≤ maxT; unfold maxT; omega) hd hs
      rw [List.length_append] at hl
      exact round_of hf ea (fires_two h1 (fires_stop (by rw [hnow]; omega) (by rw [hnow]; unfold maxT; omega) (by rw [hnow]; exact hno))) (hks _ List.mem_cons_self) (by omega) hu (fun k hk => hks k (List.mem_cons_of_mem _ hk))
theorem round_fire2 {P : List (List Ins)} {X u : WS} {t : Int} {k : Nat} {l : List Ev} {ks : List Nat} {hp hp1 : List Hi} (hf : X.few = true) (h0 : 0 ≤ t) (ht : t ≤ 100000) (hd : ∀ x r, X.hp = x :: r → x.2.1 ≤ t + 1) (h : fireR2 P (X.at (t + 1) k) = some (u, l, ks, hp, t + 1, hp1, t + 1)) (hd1 : ∀ x r, hp1 = x :: r → x.2.1 ≤ t + 1) (hno : ∀ x r, hp = x :: r → t + 1 < x.2.1) (hks : ∀ k ∈ ks, k < 10000) (hl : l.length ≤ 1000) : plays P (X.at t k) roundE = some (u, l) := by
  have ea : addT t 1 = t + 1 := by unfold addT heldT; omega
  unfold fireR2 at h
  split at h
  · cases h
  · next s1 hs1 =>
    split at h
    · cases h
    · next u2 l2 ks2 hp2 now2 hr =>
      simp only [Option.some.injEq, Prod.mk.injEq] at h
      obtain ⟨rfl, rfl, rfl, rfl, rfl, rfl, hnow1⟩ := h
      unfold fireR at hr
      split at hr
      · cases hr
      · next s hs =>
        split at hr
        · cases hr
        · next u' l' ks' hu =>
          simp only [Option.some.injEq, Prod.mk.injEq] at hr
          obtain ⟨rfl, rfl, rfl, rfl, hnow⟩ := hr
          have h1 : (X.at (t + 1) k).fire = some (some s1) := fire_of (by show 0 ≤ t + 1; omega) (by show t + 1 ≤ maxT; unfold maxT; omega) hd hs1
          have h2 : s1.fire = some (some s) := fire_of (by rw [hnow1]; omega) (by rw [hnow1]; unfold maxT; omega) (by rw [hnow1]; exact hd1) hs
          rw [List.length_append] at hl
          exact round_of hf ea (fires_two h1 (fires_two h2 (fires_stop (by rw [hnow]; omega) (by rw [hnow]; unfold maxT; omega) (by rw [hnow]; exact hno)))) (hks _ List.mem_cons_self) (by omega) hu (fun k hk => hks k (List.mem_cons_of_mem _ hk))
def factsS (u : WS) (l : List Ev) := (u.now, u.steps, u.ev, u.line, u.hp, u.few, toldL 0 l, toldL 1 l, l.length, u.nch, quietC u 0, quietC u 1, quietC u 2)
def factsF (o : Option (WS × List Ev × List Nat × List Hi × Int)) := o.map fun z => (factsS z.1 z.2.1, z.2.2)
def factsF2 (o : Option (WS × List Ev × List Nat × List Hi × Int × List Hi × Int)) := o.map fun z => (factsS z.1 z.2.1, z.2.2)
def uOfF (o : Option (WS × List Ev × List Nat × List Hi × Int)) : WS := (o.map fun z => z.1).getD ws0
def sH (d a x : Int) (v v2 : Value) (H : List Hi) : WS := { sT0 d a x v v2 with hp := H }
/-- The other comes first. -/
theorem factsA (i j : Nat) (x t : Int) (v v2 : Value) (k : Nat) (e1 e2 : Int) : factsF (fireR (PT ((i + 1 : Nat) : Int) ((j + 1 : Nat) : Int) x v v2) ((sH ((i + 1 : Nat) : Int) ((j + 1 : Nat) : Int) x v v2 [(1, e1, 2), (0, e2, 1)]).at t k)) = some ((t, k + 31, [], [], [], true, [0, x, 1], [0], 9, 3, true, true, true), (List.range 31).map (fun i => k + i), [(0, e2, 1)], t) := by kernel_rfl
/-- The timer comes first. -/
theorem factsB (i j : Nat) (x t : Int) (v v2 : Value) (k : Nat) (e1 e2 : Int) : factsF (fireR (PT ((i + 1 : Nat) : Int) ((j + 1 : Nat) : Int) x v v2) ((sH ((i + 1 : Nat) : Int) ((j + 1 : Nat) : Int) x v v2 [(0, e2, 1), (1, e1, 2)]).at t k)) = some ((t, k + 31, [], [], [(1, e1, 2)], true, [1, t, 0], [], 6, 3, true, true, false), (List.range 31).map (fun i => k + i), [(1, e1, 2)], t) := by kernel_rfl
def sB (d a x t : Int) (v v2 : Value) (k : Nat) (H : List Hi) : WS := uOfF (fireR (PT d a x v v2) ((sH d a x v v2 H).at t k))
theorem factsB2 (i j : Nat) (x t t2 : Int) (v v2 : Value) (k k2 : Nat) (e1 e2 : Int) : factsF (fireR (PT ((i + 1 : Nat) : Int) ((j + 1 : Nat) : Int) x v v2) ((sB ((i + 1 : Nat) : Int) ((j + 1 : Nat) : Int) x t v v2 k [(0, e2, 1), (1, e1, 2)]).at t2 k2)) = some ((t2, k2 + 31, [], [], [], true, [], [-1], 4, 3, true, true, true), (List.range 31).map (fun i => k2 + i), [], t2) := by kernel_rfl
/-- Both at once. -/
theorem factsC (i j : Nat) (x t : Int) (v v2 : Value) (k : Nat) (e1 e2 : Int) : factsF2 (fireR2 (PT ((i + 1 : Nat) : Int) ((j + 1 : Nat) : Int) x v v2) ((sH ((i + 1 : Nat) : Int) ((j + 1 : Nat) : Int) x v v2 [(0, e2, 1), (1, e1, 2)]).at t k)) = some ((t, k + 31, [], [], [], true, [1, t, 0], [-1], 10, 3, true, true, true), (List.range 31).map (fun i => k + i), [], t, [(1, e1, 2)], t) := by kernel_rfl
def TtEnd (d a x : Int) (s : WS) (L : List Ev) : Prop := L.length ≤ 100 ∧ (toldL 0 L).length = 3 ∧ (toldL 1 L).length = 1 ∧ (a < d → toldL 0 L = [0, x, 1] ∧ toldL 1 L = [0]) ∧ (d < a → toldL 0 L = [1, d, 0] ∧ toldL 1 L = [-1]) ∧ s.nch = 3 ∧ quietC s 0 = true ∧ quietC s 1 = true ∧ quietC s 2 = true
theorem map_some {α β : Type} {o : Option α} {f : α → β} {b : β} (h : o.map f = some b) : ∃ a, o = some a ∧ f a = b := by
  cases o with
  | none => cases h
  | some a => exact ⟨a, rfl, by simpa using h⟩
theorem ranged {k n : Nat} {b : Nat} (h : k + n ≤ b) : ∀ j ∈ (List.range n).map (fun i => k + i), j < b := by
  intro j hj
  obtain ⟨i, hi, rfl⟩ := List.mem_map.1 hj
  rw [List.mem_range] at hi; omega
theorem sH_of {d a x : Int} {v v2 : Value} {H : List Hi} (h : (sT0 d a x v v2).hp = H) : sT0 d a x v v2 = sH d a x v v2 H := by unfold sH; rw [← h]
theorem tt_rest {P : List (List Ins)} {u : WS} {t : Int} {k n : Nat} (he : u.ev = []) (hn : u.now = t) (hk : u.steps = k) (hl : u.line = []) (hf : u.few = true) (hp : u.hp = []) (h0 : 0 ≤ t) (ht : t + (n : Int) ≤ 100000) (hb : k + 31 * n ≤ 10000) : plays P u (roundsE n) = some (u.at (t + (n : Int)) (k + 31 * n), []) := by
  have := rounds_idle (P := P) hl hf n t k h0 ht (fun x r hx => by rw [hp] at hx; cases hx) hb
  have e := at_self he
  rw [hn, hk] at e
  rw [← e] at this
  exact this
theorem addT0 {e : Int} (h0 : 0 ≤ e) (h1 : e ≤ 100000) : addT 0 e = e := by unfold addT heldT; omega
theorem tt_start (d a x : Int) (v v2 : Value) (hd : 1 ≤ d) (ha : 1 ≤ a) (hd2 : d ≤ 100) (ha2 : a ≤ 200) : ∃ l, plays (PT d a x v v2) ws0 (runsE 40) = some (sT0 d a x v v2, l) ∧ toldL 0 l = [] ∧ toldL 1 l = [] ∧ l.length = 3 ∧ (sT0 d a x v v2).now = 0 ∧ (sT0 d a x v v2).steps = 40 ∧ (sT0 d a x v v2).ev = [] ∧ (sT0 d a x v v2).line = [] ∧ (sT0 d a x v v2).few = true ∧ (sT0 d a x v v2).hp = (if a < d then [(1, a, 2), (0, d, 1)] else [(0, d, 1), (1, a, 2)]) := by
  obtain ⟨i, rfl⟩ : ∃ i : Nat, d = ((i + 1 : Nat) : Int) := ⟨(d - 1).toNat, by omega⟩
  obtain ⟨j, rfl⟩ : ∃ j : Nat, a = ((j + 1 : Nat) : Int) := ⟨(a - 1).toNat, by omega⟩
  obtain ⟨⟨u, l, ks⟩, ho, hz⟩ := map_some (facts0 i j x v v2)
  have hu : sT0 ((i + 1 : Nat) : Int) ((j + 1 : Nat) : Int) x v v2 = u := by unfold sT0 uOf; rw [ho]; rfl
  simp only [Prod.mk.injEq] at hz
  obtain ⟨z1, z2, z3, z4, z5, z6, z7, z8, z9, z10, z11, _⟩ := hz
  rw [hu]
  refine ⟨l, playsU_plays ho (runsE_one 40) (by rw [z10]; intro k hk; rw [List.mem_range] at hk; omega), z7, z8, z9, z1, z2, z3, z4, z6, ?_⟩
  rw [z5]
  have e1 : addT 0 ((i + 1 : Nat) : Int) = ((i + 1 : Nat) : Int) := addT0 (by omega) (by omega)
  have e2 : addT 0 ((j + 1 : Nat) : Int) = ((j + 1 : Nat) : Int) := addT0 (by omega) (by omega)
  rw [e1, e2]
  by_cases h : ((j + 1 : Nat) : Int) < ((i + 1 : Nat) : Int)
  · have : aheadI (1, ((j + 1 : Nat) : Int), 2) (0, ((i + 1 : Nat) : Int), 1) = true := by unfold aheadI; simp only [decide_eq_true h, Bool.true_or]
    rw [if_pos this, if_pos h]
  · have : ¬ aheadI (1, ((j + 1 : Nat) : Int), 2) (0, ((i + 1 : Nat) : Int), 1) = true := by unfold aheadI; simp; omega
    rw [if_neg this, if_neg h]
/-- All of it. -/
theorem tt_all (d a x : Int) (v v2 : Value) (hd : 1 ≤ d) (ha : 1 ≤ a) (hd2 : d ≤ 100) (ha2 : a ≤ 200) : ∃ s L, plays (PT d a x v v2) ws0 (runsE 40 ++ roundsE 210) = some (s, L) ∧ TtEnd d a x s L := by
  obtain ⟨l0, h0, q1, q2, q3, q4, q5, q6, q7, q8, q9⟩ := tt_start d a x v v2 hd ha hd2 ha2
  obtain ⟨i, rfl⟩ : ∃ i : Nat, d = ((i + 1 : Nat) : Int) := ⟨(d - 1).toNat, by omega⟩
  obtain ⟨j, rfl⟩ : ∃ j : Nat, a = ((j + 1 : Nat) : Int) := ⟨(a - 1).toNat, by omega⟩
  have ht0 : ∀ l : List Ev, toldL 0 (l0 ++ l) = toldL 0 l := fun l => by rw [toldL_app, q1]; rfl
  have ht1 : ∀ l : List Ev, toldL 1 (l0 ++ l) = toldL 1 l := fun l => by rw [toldL_app, q2]; rfl
  have he := at_self q6
  rw [q4, q5] at he
  rcases (show j < i ∨ i < j ∨ i = j by omega) with hc | hc | hc
  · rw [if_pos (by omega)] at q9
    have hs := sH_of q9
    rw [hs] at he q7 q8
    have r1 := rounds_idle (P := PT ((i + 1 : Nat) : Int) ((j + 1 : Nat) : Int) x v v2) q7 q8 j 0 40 (by omega) (by omega) (fun y r hy => by
      have e : [((1 : Int), ((j + 1 : Nat) : Int), (2 : Int)), (0, ((i + 1 : Nat) : Int), 1)] = y :: r := hy
      cases e; show 0 + (j : Int) < ((j + 1 : Nat) : Int); omega) (by omega)
    obtain ⟨⟨u, l, ks, hp, now⟩, ho, hz⟩ := map_some (factsA i j x (0 + (j : Int) + 1) v v2 (40 + 31 * j) ((j + 1 : Nat) : Int) ((i + 1 : Nat) : Int))
    simp only [factsS, Prod.mk.injEq] at hz
    obtain ⟨⟨z1, z2, z3, z4, z5, z6, z7, z8, z9, z10, z11⟩, y1, y2, y3⟩ := hz
    rw [y1, y2, y3] at ho
    have r2 := round_fire (P := PT ((i + 1 : Nat) : Int) ((j + 1 : Nat) : Int) x v v2) q8 (show 0 ≤ 0 + (j : Int) by omega) (by omega) (fun y r hy => by
      have e : [((1 : Int), ((j + 1 : Nat) : Int), (2 : Int)), (0, ((i + 1 : Nat) : Int), 1)] = y :: r := hy
      cases e; show ((j + 1 : Nat) : Int) ≤ 0 + (j : Int) + 1; omega) ho (fun y r hy => by cases hy; show 0 + (j : Int) + 1 < ((i + 1 : Nat) : Int); omega) (ranged (by omega)) (by omega)
    have r3 := tt_rest (P := PT ((i + 1 : Nat) : Int) ((j + 1 : Nat) : Int) x v v2) (n := 209 - j) z3 z1 z2 z4 z6 z5 (by omega) (by omega) (by omega)
    rw [show (210 : Nat) = j + (1 + (209 - j)) by omega, roundsE_add, roundsE_add, roundsE_one]
    rw [← he] at r1
    rw [hs] at h0
    refine ⟨_, _, plays_app h0 (plays_app r1 (plays_app r2 r3)), ?_⟩
    unfold TtEnd
    rw [ht0, ht1, List.nil_append, List.append_nil, z7, z8, List.length_append, q3, z9]
    exact ⟨by omega, rfl, rfl, fun _ => ⟨rfl, rfl⟩, fun e => absurd e (by omega), z10, z11.1, z11.2.1, z11.2.2⟩
  · rw [if_neg (by omega)] at q9
    have hs := sH_of q9
    rw [hs] at he q7 q8
    have r1 := rounds_idle (P := PT ((i + 1 : Nat) : Int) ((j + 1 : Nat) : Int) x v v2) q7 q8 i 0 40 (by omega) (by omega) (fun y r hy => by
      have e : [((0 : Int), ((i + 1 : Nat) : Int), (1 : Int)), (1, ((j + 1 : Nat) : Int), 2)] = y :: r := hy
      cases e; show 0 + (i : Int) < ((i + 1 : Nat) : Int); omega) (by omega)
    obtain ⟨⟨u, l, ks, hp, now⟩, ho, hz⟩ := map_some (factsB i j x (0 + (i : Int) + 1) v v2 (40 + 31 * i) ((j + 1 : Nat) : Int) ((i + 1 : Nat) : Int))
    simp only [factsS, Prod.mk.injEq] at hz
    obtain ⟨⟨z1, z2, z3, z4, z5, z6, z7, z8, z9, z10, z11⟩, y1, y2, y3⟩ := hz
    rw [y1, y2, y3] at ho
    have r2 := round_fire (P := PT ((i + 1 : Nat) : Int) ((j + 1 : Nat) : Int) x v v2) q8 (show 0 ≤ 0 + (i : Int) by omega) (by omega) (fun y r hy => by
      have e : [((0 : Int), ((i + 1 : Nat) : Int), (1 : Int)), (1, ((j + 1 : Nat) : Int), 2)] = y :: r := hy
      cases e; show ((i + 1 : Nat) : Int) ≤ 0 + (i : Int) + 1; omega) ho (fun y r hy => by cases hy; show 0 + (i : Int) + 1 < ((j + 1 : Nat) : Int); omega) (ranged (by omega)) (by omega)
    have hu : sB ((i + 1 : Nat) : Int) ((j + 1 : Nat) : Int) x (0 + (i : Int) + 1) v v2 (40 + 31 * i) [(0, ((i + 1 : Nat) : Int), 1), (1, ((j + 1 : Nat) : Int), 2)] = u := by unfold sB uOfF; rw [ho]; rfl
    have f2 := fun t2 k2 => factsB2 i j x (0 + (i : Int) + 1) t2 v v2 (40 + 31 * i) k2 ((j + 1 : Nat) : Int) ((i + 1 : Nat) : Int)
    simp only [hu] at f2
    have r3 := rounds_idle (P := PT ((i + 1 : Nat) : Int) ((j + 1 : Nat) : Int) x v v2) z4 z6 (j - i - 1) (0 + (i : Int) + 1) (40 + 31 * i + 31) (by omega) (by omega) (fun y r hy => by
      rw [z5] at hy; cases hy; show 0 + (i : Int) + 1 + ((j - i - 1 : Nat) : Int) < ((j + 1 : Nat) : Int); omega) (by omega)
    have hue := at_self z3
    rw [z1, z2] at hue
    rw [← hue] at r3
    rw [show 0 + (i : Int) + 1 + ((j - i - 1 : Nat) : Int) = (j : Int) by omega, show 40 + 31 * i + 31 + 31 * (j - i - 1) = 40 + 31 * j by omega] at r3
    obtain ⟨⟨u2, l2, ks2, hp2, now2⟩, ho2, hz2⟩ := map_some (f2 ((j : Int) + 1) (40 + 31 * j))
    simp only [factsS, Prod.mk.injEq] at hz2
    obtain ⟨⟨x1, x2, x3, x4, x5, x6, x7, x8, x9, x10, x11⟩, w1, w2, w3⟩ := hz2
    rw [w1, w2, w3] at ho2
    have r4 := round_fire (P := PT ((i + 1 : Nat) : Int) ((j + 1 : Nat) : Int) x v v2) z6 (show 0 ≤ (j : Int) by omega) (by omega) (fun y r hy => by
      rw [z5] at hy; cases hy; show ((j + 1 : Nat) : Int) ≤ (j : Int) + 1; omega) ho2 (fun y r hy => by cases hy) (ranged (by omega)) (by omega)
    have r5 := tt_rest (P := PT ((i + 1 : Nat) : Int) ((j + 1 : Nat) : Int) x v v2) (n := 209 - j) x3 x1 x2 x4 x6 x5 (by omega) (by omega) (by omega)
    rw [show (210 : Nat) = i + (1 + ((j - i - 1) + (1 + (209 - j)))) by omega, roundsE_add, roundsE_add, roundsE_add, roundsE_add, roundsE_one]
    rw [← he] at r1
    rw [hs] at h0
    refine ⟨_, _, plays_app h0 (plays_app r1 (plays_app r2 (plays_app r3 (plays_app r4 r5)))), ?_⟩
    unfold TtEnd
    rw [ht0, ht1, List.nil_append, List.nil_append, List.append_nil, toldL_app, toldL_app, z7, z8, x7, x8, List.length_append, List.length_append, q3, z9, x9]
    exact ⟨by omega, rfl, rfl, fun e => absurd e (by omega), fun _ => ⟨by rw [show ((i + 1 : Nat) : Int) = 0 + (i : Int) + 1 by omega]; rfl, rfl⟩, x10, x11.1, x11.2.1, x11.2.2⟩
  · subst hc
    rw [if_neg (by omega)] at q9
    have hs := sH_of q9
    rw [hs] at he q7 q8
    have r1 := rounds_idle (P := PT ((i + 1 : Nat) : Int) ((i + 1 : Nat) : Int) x v v2) q7 q8 i 0 40 (by omega) (by omega) (fun y r hy => by
      have e : [((0 : Int), ((i + 1 : Nat) : Int), (1 : Int)), (1, ((i + 1 : Nat) : Int), 2)] = y :: r := hy
      cases e; show 0 + (i : Int) < ((i + 1 : Nat) : Int); omega) (by omega)
    obtain ⟨⟨u, l, ks, hp, now, hp1, now1⟩, ho, hz⟩ := map_some (factsC i i x (0 + (i : Int) + 1) v v2 (40 + 31 * i) ((i + 1 : Nat) : Int) ((i + 1 : Nat) : Int))
    simp only [factsS, Prod.mk.injEq] at hz
    obtain ⟨⟨z1, z2, z3, z4, z5, z6, z7, z8, z9, z10, z11⟩, y1, y2, y3, y4, y5⟩ := hz
    rw [y1, y2, y3, y4, y5] at ho
    have r2 := round_fire2 (P := PT ((i + 1 : Nat) : Int) ((i + 1 : Nat) : Int) x v v2) q8 (show 0 ≤ 0 + (i : Int) by omega) (by omega) (fun y r hy => by
      have e : [((0 : Int), ((i + 1 : Nat) : Int), (1 : Int)), (1, ((i + 1 : Nat) : Int), 2)] = y :: r := hy
      cases e; show ((i + 1 : Nat) : Int) ≤ 0 + (i : Int) + 1; omega) ho (fun y r hy => by cases hy; show ((i + 1 : Nat) : Int) ≤ 0 + (i : Int) + 1; omega) (fun y r hy => by cases hy) (ranged (by omega)) (by omega)
    have r3 := tt_rest (P := PT ((i + 1 : Nat) : Int) ((i + 1 : Nat) : Int) x v v2) (n := 209 - i) z3 z1 z2 z4 z6 z5 (by omega) (by omega) (by omega)
    rw [show (210 : Nat) = i + (1 + (209 - i)) by omega, roundsE_add, roundsE_add, roundsE_one]
    rw [← he] at r1
    rw [hs] at h0
    refine ⟨_, _, plays_app h0 (plays_app r1 (plays_app r2 r3)), ?_⟩
    unfold TtEnd
    rw [ht0, ht1, List.nil_append, List.append_nil, z7, z8, List.length_append, q3, z9]
    exact ⟨by omega, rfl, rfl, fun e => absurd e (by omega), fun e => absurd e (by omega), z10, z11.1, z11.2.1, z11.2.2⟩
/-- Operations that TopTimeout needs. -/
def K4 (op : Int) : Prop := op = 8 ∨ op = 9 ∨ op = 11 ∨ op = 15 ∨ op = 17 ∨ op = 20
theorem doc4 : DoC K4 := by
  intro w S P st nd nm ab x a b c id y d e f g1 g2 g3 g4 g5 s o g6 g7
  rcases g7 with q | q | q | q | q | q
  · exact do_go a b c d e f g1 g2 g3 g4 g5 g6 q
  · exact do_make a b c d e f g1 g2 g3 g4 g5 g6 q
  · exact do_ch11 a b c d e f g1 g2 g3 g4 g5 g6 q
  · exact do_select a b c d e f g1 g2 g3 g4 g5 g6 q
  · exact do_timer a b c d e f g1 g2 g3 g4 g5 g6 q
  · exact do_stop a b c d e f g1 g2 g3 g4 g5 g6 q
theorem two_mem {p : List Ins} {d a x : Int} {v v2 : Value} (h : p ∈ PT d a x v v2) : p = pT d v ∨ p = qT a x v2 := by
  unfold PT at h
  simpa using h
theorem ok_tt {d a x : Int} {v v2 : Value} {L : List (List Ins)} (h : SameP (PT d a x v v2) L) (dr : Int) : PgOk K4 L dr := by
  refine PgOk.same h (fun p hp y hy => ?_) dr
  rcases two_mem hp with rfl | rfl
  · simp only [pT, List.mem_cons, List.not_mem_nil, or_false] at hy
    unfold K4
    rcases hy with rfl | rfl | rfl | rfl | rfl | rfl | rfl | rfl | rfl
    all_goals first | (left; rfl) | (right; simp [ins, yP])
  · simp only [qT, List.mem_cons, List.not_mem_nil, or_false] at hy
    unfold K4
    rcases hy with rfl | rfl | rfl | rfl | rfl | rfl
    all_goals first | (left; rfl) | (right; simp [ins, yQ])
theorem pgin_tt {w : World} {d a x : Int} {v v2 pv r r2 : Value} (h0 : Rd w 1 pv 2 [r, r2]) (h1 : Rd w 6 r 9 ((pT d v).flatMap insEn)) (h2 : Rd w 6 r2 6 ((qT a x v2).flatMap insEn)) (h3 : Rd w 3 v 2 (icsEn (false, 0, 0) ++ icsEn (false, 2, 0))) (h4 : Rd w 3 v2 1 (icsEn (true, 0, 4))) : PgIn w pv (PT d a x v v2) [r, r2] := by
  refine ⟨rfl, h0, fun i p hp => ?_, fun p hp y hy => ?_, fun p hp y hy hn => ?_, ⟨by simp [PT], by simp [PT]⟩, fun p hp => ?_⟩
  · unfold PT at hp
    rcases i with _ | _ | i
    · simp at hp; subst hp; exact ⟨r, rfl, h1⟩
    · simp at hp; subst hp; exact ⟨r2, rfl, h2⟩
    · simp at hp
  · rcases two_mem hp with rfl | rfl
    · simp only [pT, List.mem_cons, List.not_mem_nil, or_false] at hy
      rcases hy with rfl | rfl | rfl | rfl | rfl | rfl | rfl | rfl | rfl
      all_goals first | exact rd_nil w 3 | exact h3
    · simp only [qT, List.mem_cons, List.not_mem_nil, or_false] at hy
      rcases hy with rfl | rfl | rfl | rfl | rfl | rfl
      all_goals first | exact rd_nil w 3 | exact h4
  · rcases two_mem hp with rfl | rfl
    · simp only [pT, List.mem_cons, List.not_mem_nil, or_false] at hy
      rcases hy with rfl | rfl | rfl | rfl | rfl | rfl | rfl | rfl | rfl
      all_goals first | rfl | (simp [yP] at hn)
    · simp only [qT, List.mem_cons, List.not_mem_nil, or_false] at hy
      rcases hy with rfl | rfl | rfl | rfl | rfl | rfl
      all_goals first | rfl | (simp [yQ] at hn)
  · rcases two_mem hp with rfl | rfl
    · refine ⟨goodPT d v, fun y hy => ?_⟩
      simp only [pT, List.mem_cons, List.not_mem_nil, or_false] at hy
      rcases hy with rfl | rfl | rfl | rfl | rfl | rfl | rfl | rfl | rfl <;> simp [startsI, ins, yP, PT]
    · refine ⟨goodQT a x v2, fun y hy => ?_⟩
      simp only [qT, List.mem_cons, List.not_mem_nil, or_false] at hy
      rcases hy with rfl | rfl | rfl | rfl | rfl | rfl <;> simp [startsI, ins, yQ, PT]
theorem plays_split {P : List (List Ins)} : ∀ {a b : List En} {st u : WS} {l : List Ev}, plays P st (a ++ b) = some (u, l) → ∃ s l1 l2, plays P st a = some (s, l1) ∧ plays P s b = some (u, l2) ∧ l = l1 ++ l2
  | [], b, st, u, l, h => ⟨st, [], l, rfl, h, rfl⟩
  | e :: a, b, st, u, l, h => by
    rw [List.cons_append] at h
    obtain ⟨s1, l', g1, g2, rfl⟩ := plays_cons h
    obtain ⟨s, l1, l2, k1, k2, rfl⟩ := plays_split g2
    exact ⟨s, s1.ev ++ l1, l2, plays_next g1 k1, k2, by rw [List.append_assoc]⟩
theorem plays_round {P : List (List Ins)} {n k : Nat} (hk : k < n) {st u : WS} {l : List Ev} (h : plays P st (roundsE (n - k)) = some (u, l)) : ∃ s s2 l1 l2, st.step P (2, 1, 0) = some s ∧ plays P s (runsE 30) = some (s2, l1) ∧ plays P s2 (roundsE (n - (k + 1))) = some (u, l2) ∧ l = s.ev ++ (l1 ++ l2) := by
  rw [show n - k = (n - (k + 1)) + 1 by omega] at h
  unfold roundsE roundE at h
  rw [List.cons_append] at h
  obtain ⟨s, l', g1, g2, rfl⟩ := plays_cons h
  obtain ⟨s2, l1, l2, k1, k2, rfl⟩ := plays_split g2
  exact ⟨s, s2, l1, l2, g1, k1, k2, rfl⟩
theorem quiet_of {st : WS} {i : Nat} (h : quietC st i = true) : ∃ c, st.ch i = some c ∧ (c.queue false).length = 0 ∧ (c.queue true).length = 0 := by
  unfold quietC at h
  split at h
  · next c hc =>
    rw [Bool.and_eq_true, List.isEmpty_iff, List.isEmpty_iff] at h
    exact ⟨c, hc, by show c.rv.length = 0; rw [h.1]; rfl, by show c.sd.length = 0; rw [h.2]; rfl⟩
  · cases h
theorem topTimeout_bad (a b c : Int) (w : World) (h : a < 1 ∨ 100 < a ∨ b < 1 ∨ 200 < b ∨ c < 0 ∨ 1000 < c) :
    Calls Tryz.prog 8 #[inV a, inV b, inV c] w fun e w' => e = .returned (.bool true) ∧ Below w.heap.size w w' := by
  have Haw := Lib.hid (top_awake w)
  by_cases h0 : a < 1
  · go_enter Tryz.func8, Tryz.ntmps8
    go_wp2_with fail
    refine Haw.out.mono ?_
    rintro e w' ⟨rfl, hf⟩
    go_wp2_with fail
    go_ret
    exact ⟨rfl, hf.below (Nat.le_refl _) fun _ q => q.elim⟩
  · skip
    by_cases h1 : 100 < a
    · go_enter Tryz.func8, Tryz.ntmps8
      go_wp2_with fail
      refine Haw.out.mono ?_
      rintro e w' ⟨rfl, hf⟩
      go_wp2_with fail
      go_ret
      exact ⟨rfl, hf.below (Nat.le_refl _) fun _ q => q.elim⟩
    · skip
      by_cases h2 : b < 1
      · go_enter Tryz.func8, Tryz.ntmps8
        go_wp2_with fail
        refine Haw.out.mono ?_
        rintro e w' ⟨rfl, hf⟩
        go_wp2_with fail
        go_ret
        exact ⟨rfl, hf.below (Nat.le_refl _) fun _ q => q.elim⟩
      · skip
        by_cases h3 : 200 < b
        · go_enter Tryz.func8, Tryz.ntmps8
          go_wp2_with fail
          refine Haw.out.mono ?_
          rintro e w' ⟨rfl, hf⟩
          go_wp2_with fail
          go_ret
          exact ⟨rfl, hf.below (Nat.le_refl _) fun _ q => q.elim⟩
        · skip
          by_cases h4 : c < 0
          · go_enter Tryz.func8, Tryz.ntmps8
            go_wp2_with fail
            refine Haw.out.mono ?_
            rintro e w' ⟨rfl, hf⟩
            go_wp2_with fail
            go_ret
            exact ⟨rfl, hf.below (Nat.le_refl _) fun _ q => q.elim⟩
          · skip
            have h5 : 1000 < c := by omega
            clear h
            go_enter Tryz.func8, Tryz.ntmps8
            go_wp2_with fail
            refine Haw.out.mono ?_
            rintro e w' ⟨rfl, hf⟩
            go_wp2_with fail
            go_ret
            exact ⟨rfl, hf.below (Nat.le_refl _) fun _ q => q.elim⟩
set_option maxHeartbeats 4000000 in
theorem topTimeout_good (d a x : Int) (W : World) (h1 : 1 ≤ d) (h2 : d ≤ 100) (h3 : 1 ≤ a) (h4 : a ≤ 200) (h5 : 0 ≤ x) (h6 : x ≤ 1000) :
    Calls Tryz.prog 8 #[inV d, inV a, inV x] W fun e w' => e = .returned (.bool true) ∧ Below W.heap.size W w' := by
  have g1 : ¬ d < 1 := by omega
  have g2 : ¬ 100 < d := by omega
  have g3 : ¬ a < 1 := by omega
  have g4 : ¬ 200 < a := by omega
  have g5 : ¬ x < 0 := by omega
  have g6 : ¬ 1000 < x := by omega
  go_enter Tryz.func8, Tryz.ntmps8
  go_wp2_with fail
  obtain ⟨v, hv⟩ : ∃ v, v = Value.slice (some ⟨W.heap.size, 0, none⟩) 2 2 := ⟨_, rfl⟩
  obtain ⟨v2, hv2⟩ : ∃ v2, v2 = Value.slice (some ⟨W.heap.size + 1 + 1, 0, none⟩) 1 1 := ⟨_, rfl⟩
  obtain ⟨z1, hz1⟩ : ∃ z1, z1 = ((((W.alloc (.cells #[.bool false, inV 0, inV 0, .bool false, inV 2, inV 0] 27)).alloc (.cells ((pT d v).flatMap insEn).toArray 25)).alloc (.cells #[.bool true, inV 0, inV 4] 27)).alloc (.cells ((qT a x v2).flatMap insEn).toArray 25)).alloc (.cells #[.slice (some ⟨W.heap.size + 1, 0, none⟩) 9 9, .slice (some ⟨W.heap.size + 1 + 1 + 1, 0, none⟩) 6 6] 28) := ⟨_, rfl⟩
  have hz1' := hz1
  rw [hv, hv2] at hz1'
  simp only [pT, qT, yP, yQ, ins, insEn, List.flatMap_cons, List.flatMap_nil, List.cons_append, List.nil_append] at hz1'
  rw [← hz1']
  have hfz : Fr Nob W z1 := by rw [hz1]; exact (((((Fr.refl Nob W).alloc _).alloc _).alloc _).alloc _).alloc _
  have hb4 : z1.heap[W.heap.size + 1 + 1 + 1 + 1]? = some (.cells [.slice (some ⟨W.heap.size + 1, 0, none⟩) 9 9, .slice (some ⟨W.heap.size + 1 + 1 + 1, 0, none⟩) 6 6].toArray 28 (0, 0)) := by rw [hz1]; exact blk_alloc_eq _ (by simp)
  have hb3 : z1.heap[W.heap.size + 1 + 1 + 1]? = some (.cells ((qT a x v2).flatMap insEn).toArray 25 (0, 0)) := by rw [hz1, blk_alloc_ne _ (by simp)]; exact blk_alloc_eq _ (by simp)
  have hb2 : z1.heap[W.heap.size + 1 + 1]? = some (.cells (icsEn (true, 0, 4)).toArray 27 (0, 0)) := by rw [hz1, blk_alloc_ne _ (by simp <;> omega), blk_alloc_ne _ (by simp)]; exact blk_alloc_eq _ (by simp)
  have hb1 : z1.heap[W.heap.size + 1]? = some (.cells ((pT d v).flatMap insEn).toArray 25 (0, 0)) := by rw [hz1, blk_alloc_ne _ (by simp <;> omega), blk_alloc_ne _ (by simp <;> omega), blk_alloc_ne _ (by simp)]; exact blk_alloc_eq _ (by simp)
  have hb0 : z1.heap[W.heap.size]? = some (.cells (icsEn (false, 0, 0) ++ icsEn (false, 2, 0)).toArray 27 (0, 0)) := by rw [hz1, blk_alloc_ne _ (by simp <;> omega), blk_alloc_ne _ (by simp <;> omega), blk_alloc_ne _ (by simp <;> omega), blk_alloc_ne _ (by simp)]; exact heap_alloc_new _ _
  have hin : PgIn z1 (.slice (some ⟨W.heap.size + 1 + 1 + 1 + 1, 0, none⟩) 2 2) (PT d a x v v2) [.slice (some ⟨W.heap.size + 1, 0, none⟩) 9 9, .slice (some ⟨W.heap.size + 1 + 1 + 1, 0, none⟩) 6 6] := pgin_tt (rd_lit hb4 2 1 (by omega) rfl (by omega)) (rd_lit hb1 9 6 (by omega) rfl (by omega)) (rd_lit hb3 6 6 (by omega) rfl (by omega)) (by rw [hv]; exact rd_lit hb0 2 3 (by omega) rfl (by omega)) (by rw [hv2]; exact rd_lit hb2 1 3 (by omega) rfl (by omega))
  have Hnew := Lib.hid (world_new hin)
  have Hfz := Lib.hid hfz
  clear hz1 hz1' hfz hb4 hb3 hb2 hb1 hb0 hin hv hv2
  obtain ⟨s9, L9, hpl9, hend⟩ := tt_all d a x v v2 h1 h3 h2 h4
  refine Hnew.out.mono ?_
  rintro e w0 ⟨wb, S0, L, rfl, hf0, ha0, hs0, hsame⟩
  have Hok := Lib.hid (fun dr => ok_tt hsame dr)
  have Hf0 := Lib.hid (Hfz.out.trans0 hf0)
  have Hs0 : Hid (∀ q, S0 q → W.heap.size ≤ q) := Lib.hid fun q a => by have := hs0 q a; have := Hfz.out.size; omega
  obtain ⟨s40, l40, lr40, hp40, hprest, hL⟩ := plays_split ((hsame.plays _ _).trans hpl9)
  have hlen9 : L9.length ≤ 100 := hend.1
  have hlen40 : l40.length ≤ 100 := by rw [hL, List.length_append] at hlen9; omega
  have Hmany := Lib.hid (top_many doc4 ha0 40 (by omega) (Hok.out 0) hp40 (by omega) (by omega) (by omega))
  have Hrest := Lib.hid hprest; have HL := Lib.hid hL; have Hend := Lib.hid hend
  clear hf0 ha0 hs0 hsame hp40 hpl9 hprest hL hend Hnew
  go_wp2_with fail
  refine Hmany.out.mono ?_
  rintro e w1 ⟨v1, rfl, hg1⟩
  have Hg1 := Lib.hid hg1
  clear hg1 Hmany
  go_wp2_with fail
  go_loopw [11, 12] (fun lv i wr => ∃ (k : Nat) (sk : WS) (lk lr : List Ev), k ≤ 210 ∧ i = .int .i64 k ∧ Hid (plays L sk (roundsE (210 - k)) = some (s9, lr) ∧ lk ++ lr = L9 ∧ Gath w0 wr S0 wb L sk lv lk (400000 + k * 310000) (401 + k * 400))) (fun _ i _ => 210 - (intOf i).toNat)
  case atStart => exact ⟨0, s40, l40, lr40, Nat.zero_le _, rfl, Lib.hid ⟨Hrest.out, HL.out.symm, Hg1.out⟩⟩
  case round =>
    rename_i lv iv
    clear Hg1
    obtain ⟨k, sk, lk, lr, hk, rfl, hr⟩ := hrel
    by_cases hlt : k < 210
    · obtain ⟨hpl, hll, hg⟩ := hr.out
      obtain ⟨s1, s2, m1, m2, hs1, hp1, hp2, rfl⟩ := plays_round hlt hpl
      obtain ⟨B1, S1, T1, f1, a1, u1, e1, t1⟩ := hg
      have hki : (k : Int) < 210 := by omega
      have Hst := Lib.hid (world_steps doc4 a1 2 1 0 (Hok.out 0) hs1 (by omega) (by omega))
      obtain ⟨Av, cv, rfl⟩ := e1.slice
      have hlen : lk.length + (s1.ev.length + (m1.length + m2.length)) ≤ 100 := by rw [← hll] at hlen9; simp at hlen9; omega
      have Hf1 := Lib.hid f1; have Hu1 := Lib.hid u1; have He1 := Lib.hid e1; have Ht1 := Lib.hid t1; have Hp1 := Lib.hid hp1; have Hp2 := Lib.hid hp2; have Hll := Lib.hid hll
      clear hpl hll f1 a1 u1 e1 t1 hp1 hp2 hs1 hr
      go_wp2_with fail
      refine Hst.out.mono ?_
      rintro e w2 ⟨x2, rfl, hg2⟩
      have Hg2 := Lib.hid hg2
      obtain ⟨B2, S2, T2, f2, a2, u2, e2, t2⟩ := hg2
      have He2 := Lib.hid e2.rd
      have He1' := Lib.hid (He1.out.fr f2 fun q a b => (Ht1.out q a).2.2 b)
      clear f2 a2 u2 e2 t2 Hst
      go_wp2_with (at_builtin; refine wpList_append_rd _ rfl _ _ _ rfl T1 43 _ 6 48 Tryz.underlying34 Tryz.info_clone_evs rfl (by omega) (.slice Av lk.length cv) lk.length (evs lk) rfl He1'.out x2 s1.ev.length (evs s1.ev) rfl He2.out (evs_one _) (by omega) (by omega) ?_; intro x3 w3 hs3 hf3; have Hs3 := Lib.hid hs3; have Hf3 := Lib.hid hf3; clear hs3 hf3)
      have hg3 : Gath w0 w3 S0 wb L s1 x3 (lk ++ s1.ev) (400000 + k * 310000 + 10000) (401 + k * 400 + 100) := by
        have q := Gath.join (l := lk) Hf1.out Hu1.out Ht1.out Hg2.out Hf3.out Hs3.out rfl
        rw [costN2] at q
        exact q
      clear He1 He1' He2 Hf1 Hu1 Ht1 Hg2 Hf3 Hs3
      obtain ⟨lk3, hlk3⟩ : ∃ l, l = lk ++ s1.ev := ⟨_, rfl⟩
      rw [← hlk3] at hg3
      obtain ⟨B3, S3, T3, f3, a3, u3, e3, t3⟩ := hg3
      have Hmany := Lib.hid (top_many doc4 a3 30 (by omega) (Hok.out 0) Hp1.out (by omega) (by omega) (by omega))
      have hl3 : lk3.length = lk.length + s1.ev.length := by rw [hlk3]; exact List.length_append
      obtain ⟨n3, hn3⟩ : ∃ n, n = lk3.length := ⟨_, rfl⟩
      rw [← hn3] at e3 hl3
      obtain ⟨A3, c3, rfl⟩ := e3.slice
      have Hlk3 := Lib.hid hlk3; have Hn3 := Lib.hid hn3; have Hl3 := Lib.hid hl3
      have Hf1 := Lib.hid f3; have Hu1 := Lib.hid u3; have He1 := Lib.hid e3; have Ht1 := Lib.hid t3
      clear f3 a3 u3 e3 t3 hlk3 hn3 hl3
      refine Hmany.out.mono ?_
      rintro e w4 ⟨x4, rfl, hg4⟩
      have Hg2 := Lib.hid hg4
      obtain ⟨B4, S4, T4, f4, a4, u4, e4, t4⟩ := hg4
      have He2 := Lib.hid e4.rd
      have He1' := Lib.hid (He1.out.fr f4 fun q a b => (Ht1.out q a).2.2 b)
      clear f4 a4 u4 e4 t4 Hmany
      go_wp2_with (at_builtin; refine wpList_append_rd _ rfl _ _ _ rfl T3 43 _ 6 48 Tryz.underlying34 Tryz.info_clone_evs rfl (by omega) (.slice A3 n3 c3) n3 (evs lk3) rfl He1'.out x4 m1.length (evs m1) rfl He2.out (evs_one _) (by have := Hl3.out; omega) (by have := Hl3.out; omega) ?_; intro x5 w5 hs5 hf5; have Hs3 := Lib.hid hs5; have Hf3 := Lib.hid hf5; clear hs5 hf5)
      go_roundw
      case rel =>
        refine ⟨k + 1, s2, lk3 ++ m1, m2, by omega, by go_num, Lib.hid ⟨Hp2.out, by rw [Hlk3.out, List.append_assoc, List.append_assoc]; exact Hll.out, ?_⟩⟩
        have q := Gath.join (l := lk3) Hf1.out Hu1.out Ht1.out Hg2.out Hf3.out Hs3.out (by rw [Hn3.out])
        rw [show 400000 + (k + 1) * 310000 = 400000 + k * 310000 + 10000 + 30 * 10000 by omega, show 401 + (k + 1) * 400 = 401 + k * 400 + 100 + 30 * 10 by omega]
        exact q
      case measure => simp [intOf]; omega
    · obtain rfl : k = 210 := by omega
      obtain ⟨hpl, hll, hg⟩ := hr.out
      have hq : sk = s9 ∧ lr = [] := by
        have e0 : roundsE (210 - 210) = [] := rfl
        rw [e0] at hpl
        unfold plays at hpl
        simp only [Option.some.injEq, Prod.mk.injEq] at hpl
        exact ⟨hpl.1, hpl.2.symm⟩
      obtain ⟨rfl, rfl⟩ := hq
      rw [List.append_nil] at hll
      subst hll
      obtain ⟨B1, S1, T1, f1, a1, u1, e1, t1⟩ := hg
      obtain ⟨Av, cv, rfl⟩ := e1.slice
      obtain ⟨_, n0, n1, c1, c2, nch, qc0, qc1, qc2⟩ := Hend.out
      obtain ⟨t0, t1', t2, ht⟩ : ∃ t0 t1 t2, toldL 0 lk = [t0, t1, t2] := by
        match hm : toldL 0 lk, n0 with
        | [p, q, r], _ => exact ⟨p, q, r, rfl⟩
      obtain ⟨y0, hy⟩ : ∃ y0, toldL 1 lk = [y0] := by
        match hm : toldL 1 lk, n1 with
        | [p], _ => exact ⟨p, rfl⟩
      rw [ht, hy] at c1 c2
      have hfW : Fr Nob W wr := Hf0.out.trans f1 fun q hq b => by have := Hs0.out q b; omega
      have HfW := Lib.hid hfW; have Ha := Lib.hid a1
      have HQ : Hid (∀ i, i < 3 → ∃ c, sk.ch i = some c ∧ (c.queue false).length = 0 ∧ (c.queue true).length = 0) := Lib.hid fun i hi => by
        rcases (show i = 0 ∨ i = 1 ∨ i = 2 by omega) with rfl | rfl | rfl
        · exact quiet_of qc0
        · exact quiet_of qc1
        · exact quiet_of qc2
      have Hnch := Lib.hid nch
      have hlk : lk.length ≤ 100 := hlen9
      have He := Lib.hid e1.rd
      have Hot := Lib.hid (order_told wr (.slice Av lk.length cv) lk _ rfl (by omega) e1.rd 0)
      have Hht := Lib.hid ht; have Hhy := Lib.hid hy; have Hc1 := Lib.hid c1; have Hc2 := Lib.hid c2
      clear hpl hr f1 a1 u1 e1 t1 n0 n1 c1 c2 nch qc0 qc1 qc2 ht hy hfW Hend Hrest HL
      go_wp2_with fail
      refine Hot.out.mono ?_
      rintro e w4 ⟨tv, rfl, hf4, ht4⟩
      rw [Hht.out] at ht4
      obtain ⟨_, _, A4, c4, rfl, hc41, hc42, hA4⟩ := ht4
      obtain ⟨g, o, rfl, hgl, hcc⟩ := hA4 (by simp)
      have q0 := hcc 0 _ rfl
      have q1 := hcc 1 _ rfl
      have q2 := hcc 2 _ rfl
      rw [Nat.add_zero] at q0
      have Hq := Lib.hid (And.intro q0 (And.intro q1 q2))
      have Hf4 := Lib.hid hf4
      have Hot2 := Lib.hid (order_told w4 (.slice Av lk.length cv) lk _ rfl (by omega) (He.out.fr hf4) 1)
      dsimp only [List.length_cons, List.length_nil] at hc41
      clear hf4 hcc hA4 Hot q0 q1 q2
      dsimp only [List.length_cons, List.length_nil]
      go_wp2_with fail
      refine Hot2.out.mono ?_
      rintro e w5 ⟨tv2, rfl, hf5, ht5⟩
      rw [Hhy.out] at ht5
      obtain ⟨_, _, A5, c5, rfl, hc51, hc52, hA5⟩ := ht5
      obtain ⟨g5, o5, rfl, hgl5, hcc5⟩ := hA5 (by simp)
      have r0 := hcc5 0 _ rfl
      rw [Nat.add_zero] at r0
      have Hr := Lib.hid r0
      have Hf5 := Lib.hid hf5
      dsimp only [List.length_cons, List.length_nil] at hc51
      clear hf5 hcc5 hA5 Hot2 r0
      dsimp only [List.length_cons, List.length_nil]
      go_wp2_with fail
      go_loopw [15] (fun iv wr => ∃ k : Nat, k ≤ 3 ∧ iv = .int .i64 k ∧ Hid (Fr Nob w5 wr)) (fun iv _ => 3 - (intOf iv).toNat)
      case atStart => exact ⟨0, Nat.zero_le _, rfl, Lib.hid (Fr.refl _ _)⟩
      case round =>
        obtain ⟨k, hk3, rfl, hr3⟩ := hrel
        by_cases hl3 : k < 3
        · have hki3 : (k : Int) < 3 := by omega
          obtain ⟨cc, hcc, hz1, hz2⟩ := HQ.out k hl3
          have hkn : k < sk.nch := by rw [Hnch.out]; exact hl3
          have Ha5 := Lib.hid (((Ha.out.fr0 Hf4.out).fr0 Hf5.out).fr0 hr3.out)
          have Hd1 := Lib.hid (world_chanAt Ha5.out k hkn)
          have Hw1 := Lib.hid (Ha5.out.waiting hcc hkn false 0 hz1)
          have Hcc := Lib.hid hcc; have Hz2 := Lib.hid hz2; have Hkn := Lib.hid hkn
          clear hcc hz1 hz2 hkn
          go_wp2_with fail
          refine Hd1.out.mono ?_
          rintro e _ ⟨rfl, rfl⟩
          go_wp2_with fail
          refine Hd1.out.mono ?_
          rintro e _ ⟨rfl, rfl⟩
          go_wp2_with fail
          refine Hw1.out.mono ?_
          rintro e w6 ⟨A6, c6, rfl, hf6⟩
          have Hf6 := Lib.hid hf6
          have Ha6 := Lib.hid (Ha5.out.fr0 hf6)
          have Hd2 := Lib.hid (world_chanAt Ha6.out k Hkn.out)
          have Hw2 := Lib.hid (Ha6.out.waiting Hcc.out Hkn.out true 0 Hz2.out)
          clear hf6
          go_wp2_with fail
          refine Hd2.out.mono ?_
          rintro e _ ⟨rfl, rfl⟩
          go_wp2_with fail
          refine Hw2.out.mono ?_
          rintro e w7 ⟨A7, c7, rfl, hf7⟩
          have Hf7 := Lib.hid hf7
          clear hf7
          go_wp2_with fail
          go_roundw
          case rel => exact ⟨_, _, _, _, _, _, _, _, _, _, _, _, _, _, _, _, _, _, _, _, _, _, _, _, _, _, ⟨k + 1, by omega, by go_num, Lib.hid ((hr3.out.trans0 Hf6.out).trans0 Hf7.out)⟩, rfl⟩
          case measure => simp [intOf]; omega
        · obtain rfl : k = 3 := by omega
          have q0 := hr3.out.cell (p := ⟨g, o, none⟩) (fun q => q) (Hf5.out.cell (p := ⟨g, o, none⟩) (fun q => q) Hq.out.1)
          have q1 := hr3.out.cell (p := ⟨g, o + 1, none⟩) (fun q => q) (Hf5.out.cell (p := ⟨g, o + 1, none⟩) (fun q => q) Hq.out.2.1)
          have q2 := hr3.out.cell (p := ⟨g, o + 2, none⟩) (fun q => q) (Hf5.out.cell (p := ⟨g, o + 2, none⟩) (fun q => q) Hq.out.2.2)
          have r0 := hr3.out.cell (p := ⟨g5, o5, none⟩) (fun q => q) Hr.out
          by_cases ca : a < d
          · obtain ⟨b1, b2⟩ := Hc1.out ca
            simp only [List.cons.injEq, and_true] at b1 b2
            obtain ⟨b3, b4, b5⟩ := b1
            subst b3 b5 b2
            obtain rfl : x = t1' := b4.symm
            have bx : (x == x) = true := by simp
            clear Hc1 Hc2
            go_wp2_with fail
            refine (top_awake _).mono ?_
            rintro e w9 ⟨rfl, hf9⟩
            go_wp2_with fail
            go_ret
            exact ⟨rfl, ((((HfW.out.trans0 Hf4.out).trans0 Hf5.out).trans0 hr3.out).trans0 hf9).below (Nat.le_refl _) fun _ q => q.elim⟩
          · by_cases cd : d < a
            · obtain ⟨b1, b2⟩ := Hc2.out cd
              simp only [List.cons.injEq, and_true] at b1 b2
              obtain ⟨b3, b4, b5⟩ := b1
              subst b3 b5 b2
              obtain rfl : d = t1' := b4.symm
              have bx : (d == d) = true := by simp
              clear Hc1 Hc2
              go_wp2_with fail
              refine (top_awake _).mono ?_
              rintro e w9 ⟨rfl, hf9⟩
              go_wp2_with fail
              go_ret
              exact ⟨rfl, ((((HfW.out.trans0 Hf4.out).trans0 Hf5.out).trans0 hr3.out).trans0 hf9).below (Nat.le_refl _) fun _ q => q.elim⟩
            · clear Hc1 Hc2
              go_wp2_with fail
              refine (top_awake _).mono ?_
              rintro e w9 ⟨rfl, hf9⟩
              go_wp2_with fail
              go_ret
              exact ⟨rfl, ((((HfW.out.trans0 Hf4.out).trans0 Hf5.out).trans0 hr3.out).trans0 hf9).below (Nat.le_refl _) fun _ q => q.elim⟩
end Go.Proofs.YtcffplgimbbflaaGreat
