/- TopTickers answers true whatever its inputs are: no condition. -/
import Derived.Test.YtcffplgimbbflaaGreatTkQ24
set_option linter.unusedVariables false
set_option linter.unusedSimpArgs false
namespace Go.Proofs.YtcffplgimbbflaaGreat
open Go.RowKit
set_option maxRecDepth 100000
/-- Numbers in a row, and nothing behind them. -/
def ofL (l : List Int) : Nat → Int := fun j => l.getD j 0
theorem updR_ofL (l : List Int) (k : Nat) (v : Int) (h : k < l.length) : updR (ofL l) k v = ofL (l.set k v) := by
  funext j
  unfold updR ofL
  by_cases e : j = k
  · subst e; rw [if_pos rfl]; simp [List.getD, h]
  · rw [if_neg e]; simp only [List.getD, List.getElem?_set_ne (Ne.symm e)]
/-- A task that can run; one that waits; one that ended. -/
def tkR (pg pc : Int) (r : List Int) : Nat → Int := fun j => if j = 0 then pg else if j = 1 then pc else if j < 4 then 0 else if j < 12 then r.getD (j - 4) 0 else 0
theorem regs_tkR {pg pc : Int} {r : List Int} (h : r.length = 8) : regsOf (tkR pg pc r) = ofL r := by
  funext j
  unfold regsOf tkR ofL
  rw [if_neg (by omega), if_neg (by omega), if_neg (by omega)]
  by_cases e : 4 + j < 12
  · rw [if_pos e, show 4 + j - 4 = j by omega]
  · rw [if_neg e]; simp [List.getD, List.getElem?_eq_none (show r.length ≤ j by omega)]
theorem put_tkR {pg pc pc' : Int} {r q : List Int} (h : q.length = 8) : putT (tkR pg pc r) pc' (ofL q) = tkR pg pc' q := by
  funext j
  unfold putT tkR ofL
  by_cases e0 : j = 0
  · subst e0; simp
  · by_cases e1 : j = 1
    · subst e1; simp
    · rw [if_neg e1, if_neg e0, if_neg e1, if_neg e0, if_neg e1]
      by_cases e2 : 4 ≤ j ∧ j < 12
      · rw [if_pos e2, if_neg (by omega), if_pos e2.2]
      · rw [if_neg e2]
        by_cases e3 : j < 4
        · rw [if_pos e3, if_pos e3]
        · rw [if_neg e3, if_neg e3, if_neg (by omega), if_neg (by omega)]
theorem new_tkR {pg : Int} {r : List Int} : newT pg (ofL r) = tkR pg 0 r := by
  funext j
  unfold newT tkR ofL
  by_cases e0 : j = 0
  · simp [e0]
  · rw [if_neg e0, if_neg e0]
    by_cases e2 : 4 ≤ j ∧ j < 12
    · rw [if_pos e2, if_neg (by omega), if_neg (by omega), if_pos e2.2]
    · rw [if_neg e2]
      by_cases e1 : j = 1
      · rw [if_pos e1]
      · rw [if_neg e1]
        by_cases e3 : j < 4
        · rw [if_pos e3]
        · rw [if_neg e3, if_neg (by omega)]
section
variable {P : List (List Ins)} {st s : WS} {n dr : Int} {i : Nat} {t : Nat → Int} {d : Bool} {pi k : Nat} {p : List Ins}
/-- An instruction of its own. -/
theorem run_head (hid : st.line.getD (n % (st.line.length : Int)).toNat 0 = (i : Int)) (hl : st.line ≠ []) (hi : st.ts[i]? = some (t, d, [])) (h2 : t 2 = 0) (h0 : t 0 = (pi : Int)) (hp : P[pi]? = some p) (h1 : t 1 = (k : Int)) (hk : k ≤ p.length) (hg : progB p = true) :
    st.run P n dr = (if t 1 = p.length then
          (match st.endT i 0 with
            | none => none
            | some s => s.tellO 4 i 0 0 0)
        else match p[k]? with
          | none => none
          | some y =>
            if mineB y.1.1 then
              (let o := stepR y.1.1 y.1.2.1 y.1.2.2.1 k (regsOf t) st.now
              match st.put i o.1 o.2.1 with
              | none => none
              | some s =>
                match (if o.2.2.1 then s.tellO 1 i o.2.2.2.1 0 0 else some s) with
                | none => none
                | some s => if o.2.2.2.2 then (match s.endT i 0 with
                  | none => none
                  | some s => s.tellO 4 i 0 0 0) else some s)
            else if regsOk y = false then none else match st.act i y (regsOf t) dr with
              | none => none
              | some (s, none) => s.park i y
              | some (s, some r) => s.put i ((k : Int) + 1) r) := by
  unfold WS.run
  split
  · next e => exact absurd e hl
  · dsimp only
    rw [hid, if_neg (by omega), show ((i : Int)).toNat = i by omega, hi]
    dsimp only
    rw [if_neg (by intro q; rcases q with q | q | q | q; omega; exact q h2; exact q rfl; omega), show (t 0).toNat = pi by omega, hp]
    dsimp only
    rw [if_neg (by intro q; rcases q with q | q; rw [hg] at q; cases q; omega), show (t 1).toNat = k by omega, h1]
    rfl
theorem run_own (hid : st.line.getD (n % (st.line.length : Int)).toNat 0 = (i : Int)) (hl : st.line ≠ []) (hi : st.ts[i]? = some (t, d, [])) (h2 : t 2 = 0) (h0 : t 0 = (pi : Int)) (hp : P[pi]? = some p) (h1 : t 1 = (k : Int)) (hg : progB p = true) {y : Ins} (hy : p[k]? = some y) (hm : mineB y.1.1 = true)
    {pc : Int} {r : Nat → Int} (ho : stepR y.1.1 y.1.2.1 y.1.2.2.1 k (regsOf t) st.now = (pc, r, false, 0, false)) : st.run P n dr = some { st with ts := st.ts.set i (putT t pc r, d, []) } := by
  have hk := (List.getElem?_eq_some_iff.1 hy).1
  rw [run_head hid hl hi h2 h0 hp h1 (by omega) hg, if_neg (by omega), hy]
  dsimp only
  rw [if_pos hm, ho]
  dsimp only [WS.put]
  rw [hi]
  dsimp only
  rw [if_pos ⟨h2, rfl⟩]
  rfl
theorem run_tell (hid : st.line.getD (n % (st.line.length : Int)).toNat 0 = (i : Int)) (hl : st.line ≠ []) (hi : st.ts[i]? = some (t, d, [])) (h2 : t 2 = 0) (h0 : t 0 = (pi : Int)) (hp : P[pi]? = some p) (h1 : t 1 = (k : Int)) (hg : progB p = true) {y : Ins} (hy : p[k]? = some y) (hm : mineB y.1.1 = true)
    {pc v : Int} {r : Nat → Int} (ho : stepR y.1.1 y.1.2.1 y.1.2.2.1 k (regsOf t) st.now = (pc, r, true, v, false)) (hev : st.ev.length < 1000) : st.run P n dr = some { st with ts := st.ts.set i (putT t pc r, d, []), ev := st.ev ++ [((st.steps : Int), 1, (i : Int), v, 0, 0)] } := by
  have hk := (List.getElem?_eq_some_iff.1 hy).1
  rw [run_head hid hl hi h2 h0 hp h1 (by omega) hg, if_neg (by omega), hy]
  dsimp only
  rw [if_pos hm, ho]
  dsimp only [WS.put]
  rw [hi]
  dsimp only
  rw [if_pos ⟨h2, rfl⟩]
  dsimp only
  rw [if_pos rfl]
  unfold WS.tellO
  dsimp only
  rw [if_neg (by omega)]
  rfl
theorem run_act (hid : st.line.getD (n % (st.line.length : Int)).toNat 0 = (i : Int)) (hl : st.line ≠ []) (hi : st.ts[i]? = some (t, d, [])) (h2 : t 2 = 0) (h0 : t 0 = (pi : Int)) (hp : P[pi]? = some p) (h1 : t 1 = (k : Int)) (hg : progB p = true) {y : Ins} (hy : p[k]? = some y) (hm : mineB y.1.1 = false) (hr : regsOk y = true)
    {s1 : WS} {r : Nat → Int} (ha : st.act i y (regsOf t) dr = some (s1, some r)) : st.run P n dr = s1.put i ((k : Int) + 1) r := by
  have hk := (List.getElem?_eq_some_iff.1 hy).1
  rw [run_head hid hl hi h2 h0 hp h1 (by omega) hg, if_neg (by omega), hy]
  dsimp only
  rw [if_neg (by rw [hm]; decide), if_neg (by rw [hr]; decide), ha]
theorem put_eq (hi : st.ts[i]? = some (t, d, [])) (h2 : t 2 = 0) (pc : Int) (r : Nat → Int) : st.put i pc r = some { st with ts := st.ts.set i (putT t pc r, d, []) } := by
  unfold WS.put
  rw [hi]
  dsimp only
  rw [if_pos ⟨h2, rfl⟩]
end
theorem step_run {P : List (List Ins)} {st s1 : WS} {n d : Int} (hf : st.few = true) (h : ({ st with ev := [] } : WS).run P n d = some s1) (hs : s1.steps < 10000) (he : s1.ev.length ≤ 1000000) : st.step P (1, n, d) = some { s1 with steps := s1.steps + 1 } := by
  unfold WS.step
  rw [hf, if_neg (by decide)]
  dsimp only
  rw [if_pos rfl, h]
  dsimp only
  rw [if_neg (by omega)]
theorem step_adv {P : List (List Ins)} {st s1 : WS} {n : Int} (hf : st.few = true) (hn : 0 ≤ n) (h : ({ st with ev := [], now := addT st.now n } : WS).fires 9 = some s1) (hs : s1.steps < 10000) (he : s1.ev.length ≤ 1000000) : st.step P (2, n, 0) = some { s1 with steps := s1.steps + 1 } := by
  unfold WS.step
  rw [hf, if_neg (by decide)]
  dsimp only
  rw [if_neg (by decide), if_pos ⟨rfl, hn, rfl⟩, h]
  dsimp only
  rw [if_neg (by omega)]
def stripI (y : Ins) : Ins := (y.1, .slice none 0 0, y.2.2)
def stripP (P : List (List Ins)) : List (List Ins) := P.map fun p => p.map stripI
theorem progB_strip (p : List Ins) : progB (p.map stripI) = progB p := by
  unfold progB
  rw [List.length_map, List.all_map]
  rfl
theorem run_strip (P : List (List Ins)) (st : WS) (n d : Int) : st.run (stripP P) n d = st.run P n d := by
  unfold WS.run
  split
  · rfl
  · dsimp only
    split
    · rfl
    · split
      · rfl
      · next t df cs ht =>
        split
        · rfl
        · rw [stripP, List.getElem?_map]
          cases hp : P[(t 0).toNat]? with
          | none => rfl
          | some p =>
            simp only [Option.map_some]
            rw [progB_strip, List.length_map, List.getElem?_map]
            split
            · rfl
            · split
              · rfl
              · cases hy : p[(t 1).toNat]? with
                | none => rfl
                | some y => rfl
theorem step_strip (P : List (List Ins)) (st : WS) (e : En) : st.step (stripP P) e = st.step P e := by
  unfold WS.step
  dsimp only
  rw [run_strip]
theorem SameP.strip {P L : List (List Ins)} (h : SameP P L) : stripP L = stripP P := by
  refine List.ext_getElem? fun i => ?_
  unfold stripP
  rw [List.getElem?_map, List.getElem?_map]
  by_cases hi : i < P.length
  · obtain ⟨q, h1, h2, h3⟩ := h.2 i P[i] (List.getElem?_eq_getElem hi)
    rw [h1, List.getElem?_eq_getElem hi]
    simp only [Option.map_some]
    congr 1
    refine List.ext_getElem? fun j => ?_
    rw [List.getElem?_map, List.getElem?_map]
    by_cases hj : j < P[i].length
    · obtain ⟨y', k1, k2, k3, k4⟩ := h3 j P[i][j] (List.getElem?_eq_getElem hj)
      rw [k1, List.getElem?_eq_getElem hj]
      simp only [Option.map_some, stripI, k2, k3]
    · rw [List.getElem?_eq_none (by omega), List.getElem?_eq_none (by omega)]
  · rw [List.getElem?_eq_none (by rw [h.1]; omega), List.getElem?_eq_none (by omega)]
theorem SameP.step {P L : List (List Ins)} (h : SameP P L) (st : WS) (e : En) : st.step L e = st.step P e := by rw [← step_strip, h.strip, step_strip]
theorem SameP.plays {P L : List (List Ins)} (h : SameP P L) : ∀ (es : List En) (st : WS), Go.Proofs.YtcffplgimbbflaaGreat.plays L st es = Go.Proofs.YtcffplgimbbflaaGreat.plays P st es
  | [], st => rfl
  | e :: es, st => by
    unfold Go.Proofs.YtcffplgimbbflaaGreat.plays
    rw [h.step]
    cases st.step P e with
    | none => rfl
    | some s => simp only [SameP.plays h es s]
theorem SameP.mem {P L : List (List Ins)} (h : SameP P L) {q : List Ins} (hq : q ∈ L) {y' : Ins} (hy : y' ∈ q) : ∃ p ∈ P, ∃ y ∈ p, SameI y y' := by
  obtain ⟨i, hi, rfl⟩ := List.mem_iff_getElem.1 hq
  have hiP : i < P.length := by rw [← h.1]; exact hi
  obtain ⟨q2, h1, h2, h3⟩ := h.2 i P[i] (List.getElem?_eq_getElem hiP)
  rw [List.getElem?_eq_getElem hi] at h1
  cases h1
  obtain ⟨j, hj, rfl⟩ := List.mem_iff_getElem.1 hy
  have hjP : j < P[i].length := by rw [← h2]; exact hj
  obtain ⟨y2, k1, k2⟩ := h3 j P[i][j] (List.getElem?_eq_getElem hjP)
  rw [List.getElem?_eq_getElem hj] at k1
  cases k1
  exact ⟨_, List.getElem_mem hiP, _, List.getElem_mem hjP, k2⟩
theorem choose_parks {st v : WS} {id : Nat} {y : Ins} {r : Nat → Int} {d : Int} (h : st.actChoose id y r d = some (v, none)) : y.2.2.2 = false := by
  unfold WS.actChoose at h
  split at h
  · cases h
  · split at h
    · cases h
    · split at h
      · split at h
        · cases h
        · next e => simpa using e
      · dsimp only at h
        split at h
        · cases h
        · split at h
          · cases h
          · split at h
            · cases h
            · split at h
              · cases h
              · split at h
                · split at h
                  · cases h
                  · cases h
                · unfold WS.take at h
                  split at h
                  · cases h
                  · cases h
/-- What Step needs to know of programs whose selects have a default. -/
theorem PgOk.same {K : Int → Prop} {P L : List (List Ins)} (h : SameP P L) (hk : ∀ p ∈ P, ∀ y ∈ p, mineB y.1.1 = true ∨ K y.1.1) (hd : ∀ p ∈ P, ∀ y ∈ p, y.2.2.1 = [] ∨ (y.1.1 = 15 ∧ y.2.2.2 = true)) (d : Int) : PgOk K L d := by
  refine ⟨fun q hq y' hy' hm => ?_, fun q hq y' hy' u v id r ha => ?_⟩
  · obtain ⟨p, hp, y, hy, e1, e2, _⟩ := h.mem hq hy'
    rcases hk p hp y hy with a | a
    · rw [e1, a] at hm; cases hm
    · rw [e1]; exact a
  · obtain ⟨p, hp, y, hy, e1, e2, _⟩ := h.mem hq hy'
    rcases hd p hp y hy with a | ⟨a, b⟩
    · rw [e2]; exact a
    · have hc : u.actChoose id y' r d = some (v, none) := by
        have e15 : y'.1.1 = 15 := by rw [e1]; exact a
        simpa [WS.act, e15] using ha
      have := choose_parks hc
      rw [e2, b] at this
      cases this
/-- Groups of four that are as they must be. -/
def grp (d : Int) (tick : Bool) : Int → Bool → List Int → Prop
  | l, f, v :: y :: a :: b :: T => (l < v ∧ d ≤ v ∧ v ≤ y ∧ a = 0 ∧ b = 0 ∧ (f = true ∨ tick = true)) ∧ grp d tick v false T
  | _, _, _ => True
def lastG : Int → List Int → Int
  | _, v :: _ :: _ :: _ :: T => lastG v T
  | l, _ => l
theorem four_ind {motive : List Int → Prop} (h0 : motive []) (hs : ∀ v y a b T, T.length % 4 = 0 → motive T → motive (v :: y :: a :: b :: T)) : ∀ T : List Int, T.length % 4 = 0 → motive T
  | [], _ => h0
  | [_], h => by simp at h
  | [_, _], h => by simp at h
  | [_, _, _], h => by simp at h
  | v :: y :: a :: b :: T, h => hs v y a b T (by simp at h; omega) (four_ind h0 hs T (by simp at h; omega))
theorem grp_part {d : Int} {tick : Bool} {p : List Int} (hp : p.length < 4) : ∀ T : List Int, T.length % 4 = 0 → ∀ l f, grp d tick l f T → grp d tick l f (T ++ p) := by
  refine four_ind ?_ ?_
  · intro l f _
    match p, hp with
    | [], _ => trivial
    | [_], _ => trivial
    | [_, _], _ => trivial
    | [_, _, _], _ => trivial
  · intro a b c e T hT ih l f h
    exact ⟨h.1, ih a false h.2⟩
/-- Where the task is, and what it told. -/
def Stg (d : Int) (tick : Bool) (now : Int) (pc : Nat) (r : List Int) (T : List Int) (last : Int) : Prop :=
  ∃ T0 part : List Int, T = T0 ++ part ∧ T0.length % 4 = 0 ∧ grp d tick (-1) true T0 ∧
    ((pc = 2 ∧ part = [] ∧ last = lastG (-1) T0) ∨ (pc = 10 ∧ part = [] ∧ last = lastG (-1) T0) ∨
     (lastG (-1) T0 < last ∧ d ≤ last ∧ last ≤ now ∧ (T0 = [] ∨ tick = true) ∧
       ((pc = 3 ∧ part = [] ∧ r.getD 3 0 = last) ∨ (pc = 4 ∧ part = [] ∧ r.getD 3 0 = last ∧ last ≤ r.getD 5 0) ∨ (pc = 5 ∧ part = [last] ∧ last ≤ r.getD 5 0) ∨
        ∃ y, last ≤ y ∧ ((pc = 6 ∧ part = [last, y]) ∨ (pc = 7 ∧ part = [last, y] ∧ r.getD 6 0 = 0) ∨ (pc = 8 ∧ part = [last, y, 0]) ∨ (pc = 9 ∧ part = [last, y, 0] ∧ r.getD 6 0 = 0)))))
theorem Stg.later {d : Int} {tick : Bool} {now now' : Int} {pc : Nat} {r T : List Int} {last : Int} (h : Stg d tick now pc r T last) (hn : now ≤ now') : Stg d tick now' pc r T last := by
  obtain ⟨T0, part, h1, h2, h3, h4⟩ := h
  refine ⟨T0, part, h1, h2, h3, ?_⟩
  rcases h4 with q | q | ⟨q1, q2, q3, q4⟩
  · exact .inl q
  · exact .inr (.inl q)
  · exact .inr (.inr ⟨q1, q2, by omega, q4⟩)
theorem Stg.good {d : Int} {tick : Bool} {now : Int} {pc : Nat} {r T : List Int} {last : Int} (h : Stg d tick now pc r T last) : grp d tick (-1) true T := by
  obtain ⟨T0, part, rfl, h2, h3, h4⟩ := h
  refine grp_part ?_ T0 h2 _ _ h3
  rcases h4 with ⟨_, rfl, _⟩ | ⟨_, rfl, _⟩ | ⟨_, _, _, _, ⟨_, rfl, _⟩ | ⟨_, rfl, _⟩ | ⟨_, rfl, _⟩ | ⟨y, _, ⟨_, rfl⟩ | ⟨_, rfl, _⟩ | ⟨_, rfl⟩ | ⟨_, rfl, _⟩⟩⟩ <;> simp
def kindT (tick : Bool) : Int := if tick then 2 else 1
def chT (q : List Int) (rv : List Wt) : ChS := ⟨1, q, rv, [], true, false, false⟩
def TC (tick : Bool) (now : Int) (t : Nat → Int) (line : List Int) (q : List Int) (rv : List Wt) (hp : List Hi) (seq : Nat) (per : Int → Option Int) (steps : Nat) (ev : List Ev) : WS :=
  { ws0 with now := now, ts := [(t, false, [])], line := line, ch := Go.Proofs.YtcffplgimbbflaaGreat.upd (fun _ => none) 0 (some (chT q rv)), nch := 1, tm := [(kindT tick, 0, 0, 1)], named := 1, hp := hp, seq := seq, per := per, steps := steps, ev := ev }
def TB (now : Int) (pc : Int) (r : List Int) (steps : Nat) (ev : List Ev) : WS := { ws0 with now := now, ts := [(tkR 0 pc r, false, [])], steps := steps, ev := ev }
theorem hid0 (n : Int) : ([0] : List Int).getD (n % (([0] : List Int).length : Int)).toNat 0 = ((0 : Nat) : Int) := by
  have : n % (([0] : List Int).length : Int) = 0 := Int.emod_one n
  rw [this]; rfl
theorem fewT (tick : Bool) (now : Int) (t : Nat → Int) (line : List Int) (q : List Int) (rv : List Wt) (hp : List Hi) (seq : Nat) (per : Int → Option Int) (steps : Nat) (ev : List Ev) (h : rv.length ≤ 900) : (TC tick now t line q rv hp seq per steps ev).few = true := by
  unfold WS.few TC
  simp [List.range_succ, Go.Proofs.YtcffplgimbbflaaGreat.upd, chT]
  omega
/-- Nothing is due. -/
theorem fires_none {st : WS} {n : Nat} (h0 : 0 ≤ st.now) (h1 : st.now ≤ maxT) (h : ∀ x r, st.hp = x :: r → st.now < x.2.1) : st.fires (n + 1) = some st := by
  have : st.fire = some none := by
    unfold WS.fire
    rw [if_neg (by omega)]
    split
    · rfl
    · next x r hx => rw [if_pos (h x r hx)]
  unfold WS.fires
  rw [this]
theorem fire_eq {st s : WS} {x : Hi} {r : List Hi} {i : Nat} {kind data : Int} {c : Nat} {gen : Int} {cc : ChS} {hp' : List Hi} {seq' : Nat} {per' : Int → Option Int} (h0 : 0 ≤ st.now) (h1 : st.now ≤ maxT) (hx : st.hp = x :: r) (hn : x.2.1 ≤ st.now) (hi : x.1 = (i : Int)) (ht : st.tm[i]? = some (kind, data, c, gen)) (hk : ¬ (kind = 3 ∨ kind = 4)) (hc : st.ch c = some cc)
    (htk : takeR st.hp st.seq st.per x st.now = some (hp', seq', per')) (hev : st.ev.length < 1000) (hw : ({ st with hp := hp', seq := seq', per := per', ch := Go.Proofs.YtcffplgimbbflaaGreat.upd st.ch c (some (cc.putS st.now)) }.tell 6 (-1) x.1 x.2.1 0).wakes (cc.putR st.now).1 = some s) : st.fire = some (some s) := by
  unfold WS.fire
  rw [if_neg (show ¬ (st.now < 0 ∨ maxT < st.now) by omega)]
  split
  · next e => rw [hx] at e; cases e
  · next x' r' e =>
    rw [hx] at e
    cases e
    rw [if_neg (show ¬ st.now < x.2.1 by omega), show x.1.toNat = i by omega, ht]
    dsimp only
    rw [if_neg hk, hc]
    dsimp only
    rw [htk]
    dsimp only
    rw [if_neg (show ¬ 1000 ≤ st.ev.length by omega), hw]
theorem kind_t (tick : Bool) : ¬ (kindT tick = 3 ∨ kindT tick = 4) := by cases tick <;> simp [kindT]
section
variable {tick : Bool} {now : Int} {q : List Int} {seq : Nat} {per : Int → Option Int} {k : Nat} {when' sq : Int} {hp' : List Hi} {seq' : Nat} {per' : Int → Option Int} (h0 : 0 ≤ now) (h1 : now ≤ maxT) (hn : when' ≤ now) (ht : takeR [(0, when', sq)] seq per (0, when', sq) now = some (hp', seq', per'))
include h0 h1 hn ht
/-- It fires, and nobody waits. -/
theorem fire_free {t : Nat → Int} {line : List Int} : (TC tick now t line q [] [(0, when', sq)] seq per k []).fire = some (some (TC tick now t line (if q.length < 1 then q ++ [now] else q) [] hp' seq' per' k [((k : Int), 6, -1, 0, when', 0)])) := by
  refine fire_eq (i := 0) h0 h1 (x := (0, when', sq)) (r := []) rfl hn rfl (kind := kindT tick) rfl (kind_t tick) (cc := chT q []) (by simp [TC, upd_same]) ht (by simp [TC]) ?_
  have e1 : (ChS.putR (chT q []) now).1 = [] := by simp [ChS.putR, chT]
  have e2 : ChS.putS (chT q []) now = chT (if q.length < 1 then q ++ [now] else q) [] := by
    unfold ChS.putS chT
    by_cases hq : q.length < 1 <;> simp [hq]
  simp only [TC]
  rw [e1, e2, upd_upd]
  rfl
end
theorem fires_one {st s : WS} {n : Nat} (h : st.fire = some (some s)) (h0 : 0 ≤ s.now) (h1 : s.now ≤ maxT) (hno : ∀ x r, s.hp = x :: r → s.now < x.2.1) : st.fires (n + 2) = some s := by
  unfold WS.fires
  rw [h]
  exact fires_none h0 h1 hno
theorem getD_set_ne {r : List Int} {k j : Nat} {v : Int} (h : j ≠ k) : (r.set k v).getD j 0 = r.getD j 0 := by simp only [List.getD]; rw [List.getElem?_set_ne (Ne.symm h)]
theorem getD_set_self {r : List Int} {k : Nat} {v : Int} (h : k < r.length) : (r.set k v).getD k 0 = v := by simp [List.getD, h]
theorem plays_mk {P : List (List Ins)} {st s u : WS} {e : En} {es : List En} {l : List Ev} (h : st.step P e = some s) (hp : plays P s es = some (u, l)) : plays P st (e :: es) = some (u, s.ev ++ l) := by
  unfold plays; rw [h]; dsimp only; rw [hp]
def yS (v : Value) : Ins := ((15, 5, 3, 4), v, [(false, 2, 0)], true)
def pK (d : Int) (v : Value) : List Ins := [ins 1 1 d 0, ins 18 0 1 2, yS v, ins 6 5 0 0, ins 6 3 0 0, ins 4 2 0 0]
theorem goodK (d : Int) (v : Value) : progB (pK d v) = true := rfl
section
variable {p : List Ins} (hg : progB p = true) {now : Int} {r : List Int} {q : List Int} {hp : List Hi} {seq : Nat} {per : Int → Option Int} {k : Nat} {ev : List Ev} {pc : Nat} (n dr : Int) (hk : k < 10000) (hr : r.length = 8)
include hg hk hr
theorem tk_own {y : Ins} {pc' : Nat} {r' : List Int} (hy : p[pc]? = some y) (hm : mineB y.1.1 = true) (hr' : r'.length = 8) (ho : stepR y.1.1 y.1.2.1 y.1.2.2.1 pc (ofL r) now = ((pc' : Int), ofL r', false, 0, false)) :
    (TC true now (tkR 0 pc r) [0] q [] hp seq per k ev).step [p] (1, n, dr) = some (TC true now (tkR 0 pc' r') [0] q [] hp seq per (k + 1) []) := by
  have h := run_own (P := [p]) (st := { TC true now (tkR 0 pc r) [0] q [] hp seq per k ev with ev := [] }) (n := n) (dr := dr) (i := 0) (pi := 0) (k := pc) (hid0 n) (by simp [TC]) (t := tkR 0 pc r) (d := false) rfl rfl rfl rfl rfl hg hy hm (by rw [regs_tkR hr]; exact ho)
  rw [put_tkR hr'] at h
  exact step_run (fewT _ _ _ _ _ _ _ _ _ _ _ (by simp)) h hk (by simp [TC])
theorem tk_tell {y : Ins} {pc' : Nat} {v : Int} {r' : List Int} (hy : p[pc]? = some y) (hm : mineB y.1.1 = true) (hr' : r'.length = 8) (ho : stepR y.1.1 y.1.2.1 y.1.2.2.1 pc (ofL r) now = ((pc' : Int), ofL r', true, v, false)) :
    (TC true now (tkR 0 pc r) [0] q [] hp seq per k ev).step [p] (1, n, dr) = some (TC true now (tkR 0 pc' r') [0] q [] hp seq per (k + 1) [((k : Int), 1, 0, v, 0, 0)]) := by
  have h := run_tell (P := [p]) (st := { TC true now (tkR 0 pc r) [0] q [] hp seq per k ev with ev := [] }) (n := n) (dr := dr) (i := 0) (pi := 0) (k := pc) (hid0 n) (by simp [TC]) (t := tkR 0 pc r) (d := false) rfl rfl rfl rfl rfl hg hy hm (by rw [regs_tkR hr]; exact ho) (by simp [TC])
  rw [put_tkR hr'] at h
  exact step_run (fewT _ _ _ _ _ _ _ _ _ _ _ (by simp)) h hk (by simp [TC])
theorem tk_act {y : Ins} {q' : List Int} {r' : List Int} (hy : p[pc]? = some y) (hm : mineB y.1.1 = false) (hreg : regsOk y = true) (hr' : r'.length = 8) (ho : (TC true now (tkR 0 pc r) [0] q [] hp seq per k []).act 0 y (ofL r) dr = some (TC true now (tkR 0 pc r) [0] q' [] hp seq per k [], some (ofL r'))) :
    (TC true now (tkR 0 pc r) [0] q [] hp seq per k ev).step [p] (1, n, dr) = some (TC true now (tkR 0 (pc + 1 : Nat) r') [0] q' [] hp seq per (k + 1) []) := by
  have h := run_act (P := [p]) (st := TC true now (tkR 0 pc r) [0] q [] hp seq per k []) (n := n) (dr := dr) (i := 0) (pi := 0) (k := pc) (hid0 n) (by simp [TC]) (t := tkR 0 pc r) (d := false) rfl rfl rfl rfl rfl hg hy hm hreg (by rw [regs_tkR hr]; exact ho)
  rw [put_eq (t := tkR 0 pc r) (d := false) rfl rfl, put_tkR hr'] at h
  exact step_run (fewT _ _ _ _ _ _ _ _ _ _ _ (by simp)) h hk (by simp [TC])
end
section
variable {d : Int} {v : Value} {now : Int} {r : List Int} {q : List Int} {hp : List Hi} {seq : Nat} {per : Int → Option Int} {k : Nat} {ev : List Ev} (n dr : Int) (hk : k < 10000) (hr : r.length = 8) (h2 : r.getD 2 0 = 0)
/-- What a select finds: nothing, or a time. -/
def selR (q : List Int) (r : List Int) : List Int := match q with
  | [] => r.set 5 (-1)
  | x :: _ => (((r.set 5 0).set 3 x).set 4 0).set 4 1
theorem selR_len (q r : List Int) (h : r.length = 8) : (selR q r).length = 8 := by
  unfold selR; split <;> simp [h]
include hr h2 in
theorem tk_sel (hq : q.length ≤ 1) : (TC true now (tkR 0 (2 : Nat) r) [0] q [] hp seq per k []).act 0 (yS v) (ofL r) dr = some (TC true now (tkR 0 (2 : Nat) r) [0] [] [] hp seq per k [], some (ofL (selR q r))) := by
  have e0 : ofL r 2 = 0 := h2
  have ec : (TC true now (tkR 0 (2 : Nat) r) [0] q [] hp seq per k []).cases (ofL r) [(false, 2, 0)] = some [(some 0, false, ofL r 0)] := by
    simp [WS.cases, WS.chan, e0, TC]
  have e1 : (TC true now (tkR 0 (2 : Nat) r) [0] q [] hp seq per k []).act 0 (yS v) (ofL r) dr = (TC true now (tkR 0 (2 : Nat) r) [0] q [] hp seq per k []).actChoose 0 (yS v) (ofL r) dr := rfl
  rw [e1]
  unfold WS.actChoose
  rw [show (yS v).2.2.1 = [(false, 2, 0)] from rfl, ec]
  match q, hq with
  | [], _ =>
    have hr0 : rdy (fun k_1 => canC (TC true now (tkR 0 (2 : Nat) r) [0] [] [] hp seq per k []).ch ([((some 0 : Option Nat), false, ofL r 0)].getD k_1 (none, false, 0))) ([((some 0 : Option Nat), false, ofL r 0)] : List Cs).length = [] := by
      simp [rdy, List.range_succ, canC, TC, upd_same, chT, ChS.canR, ChS.mute, ChS.free, ChS.queue]
    simp only [hr0, List.any_cons, List.any_nil, Bool.false_and, Bool.or_self, Bool.false_eq_true, if_false]
    rw [show (yS v).2.2.2 = true from rfl, if_pos rfl, show (yS v).1.2.1.toNat = 5 from rfl, updR_ofL _ 5 _ (by omega)]
    rfl
  | [x], _ =>
    have hr0 : rdy (fun k_1 => canC (TC true now (tkR 0 (2 : Nat) r) [0] [x] [] hp seq per k []).ch ([((some 0 : Option Nat), false, ofL r 0)].getD k_1 (none, false, 0))) ([((some 0 : Option Nat), false, ofL r 0)] : List Cs).length = [0] := by
      simp [rdy, List.range_succ, canC, TC, upd_same, chT, ChS.canR, ChS.mute, ChS.free, ChS.queue]
    have hm : dr % ((([0] : List Int).length : Nat) : Int) = 0 := Int.emod_one dr
    simp only [hr0, List.any_cons, List.any_nil, Bool.false_and, Bool.or_self, Bool.false_eq_true, if_false]
    rw [hm]
    have hc0 : (TC true now (tkR 0 (2 : Nat) r) [0] [x] [] hp seq per k []).ch 0 = some (chT [x] []) := by simp [TC, upd_same]
    simp only [Int.toNat_zero, List.getD_cons_zero, List.getElem?_cons_zero, hc0]
    rw [show (yS v).1.2.1.toNat = 5 from rfl, show (yS v).1.2.2.1.toNat = 3 from rfl, show (yS v).1.2.2.2.toNat = 4 from rfl]
    simp only [oneR, oneS, ChS.recvR, ChS.recvS, chT, WS.take, WS.wakes, WS.wake, Bool.false_eq_true, if_false, List.length_nil]
    rw [if_neg (by decide)]
    dsimp only
    unfold selR
    rw [← updR_ofL _ 4 1 (by simp [hr]), ← updR_ofL _ 4 0 (by simp [hr]), ← updR_ofL _ 3 x (by simp [hr]), ← updR_ofL _ 5 0 (by simp [hr])]
    simp [TC, upd_upd, chT, bitI]
include hk hr h2
/-- The task asks once, and tells. -/
theorem tk_round (hk4 : k + 4 < 10000) (hq : q.length ≤ 1) : ∃ (s : WS) (l : List Ev) (ev' : List Ev), plays [pK d v] (TC true now (tkR 0 (2 : Nat) r) [0] q [] hp seq per k ev) (runsE 4) = some (s, l) ∧ s = TC true now (tkR 0 (2 : Nat) (selR q r)) [0] [] [] hp seq per (k + 4) ev' ∧ toldL 0 l = [(selR q r).getD 5 0, (selR q r).getD 3 0] ∧ l.length = 2 := by
  have hl := selR_len q r hr
  have s1 := tk_act (p := pK d v) (goodK d v) (now := now) (hp := hp) (seq := seq) (per := per) (ev := ev) (pc := 2) 0 0 hk hr (y := yS v) rfl rfl rfl hl (tk_sel (v := v) (now := now) (hp := hp) (seq := seq) (per := per) 0 hr h2 hq)
  have s2 := tk_tell (p := pK d v) (goodK d v) (now := now) (q := []) (hp := hp) (seq := seq) (per := per) (ev := []) (pc := 3) 1 0 (show k + 1 < 10000 by omega) hl (y := ins 6 5 0 0) rfl rfl hl (pc' := 4) (v := (selR q r).getD 5 0) rfl
  have s3 := tk_tell (p := pK d v) (goodK d v) (now := now) (q := []) (hp := hp) (seq := seq) (per := per) (ev := [(((k + 1 : Nat) : Int), 1, 0, (selR q r).getD 5 0, 0, 0)]) (pc := 4) 2 0 (show k + 1 + 1 < 10000 by omega) hl (y := ins 6 3 0 0) rfl rfl hl (pc' := 5) (v := (selR q r).getD 3 0) rfl
  have s4 := tk_own (p := pK d v) (goodK d v) (now := now) (q := []) (hp := hp) (seq := seq) (per := per) (ev := [(((k + 1 + 1 : Nat) : Int), 1, 0, (selR q r).getD 3 0, 0, 0)]) (pc := 5) 3 0 (show k + 1 + 1 + 1 < 10000 by omega) hl (y := ins 4 2 0 0) rfl rfl hl (pc' := 2) rfl
  refine ⟨_, [(((k + 1 : Nat) : Int), 1, 0, (selR q r).getD 5 0, 0, 0), (((k + 1 + 1 : Nat) : Int), 1, 0, (selR q r).getD 3 0, 0, 0)], [], ?_, rfl, ?_, rfl⟩
  · rw [show runsE 4 = [(1, 0, 0), (1, 1, 0), (1, 2, 0), (1, 3, 0)] from rfl]
    exact plays_mk s1 (plays_mk s2 (plays_mk s3 (plays_mk s4 rfl)))
  · simp [toldL]
end
/-- The time of its next tick, in the law's own words. -/
def dueN (d due now : Int) : Int := if due ≤ now then due + d * ((now - due).tdiv d + 1) else due
/-- What of the world is at the start of each round. -/
def TkR (d : Int) (v : Value) (now due : Int) (k : Nat) (st : WS) : Prop := ∃ (r : List Int) (sq : Int) (seq : Nat) (per : Int → Option Int) (ev : List Ev), r.length = 8 ∧ r.getD 2 0 = 0 ∧ per 0 = some d ∧ st = TC true now (tkR 0 (2 : Nat) r) [0] [] [] [(0, due, sq)] seq per k ev
theorem tk_start {d : Int} {v : Value} (hd : 1 ≤ d) (hd2 : d ≤ 20) : ∃ st, plays [pK d v] ws0 (runsE 2) = some (st, []) ∧ TkR d v 0 d 2 st := by
  have e0 : ws0 = TB 0 0 [0, 0, 0, 0, 0, 0, 0, 0] 0 [] := by
    unfold TB
    rw [show tkR 0 0 [0, 0, 0, 0, 0, 0, 0, 0] = newT 0 (fun _ => 0) from (new_tkR (r := [0, 0, 0, 0, 0, 0, 0, 0])).symm.trans (by congr 1; funext j; unfold ofL; rcases (show j < 8 ∨ 8 ≤ j by omega) with h | h; (rcases (show j = 0 ∨ j = 1 ∨ j = 2 ∨ j = 3 ∨ j = 4 ∨ j = 5 ∨ j = 6 ∨ j = 7 by omega) with rfl | rfl | rfl | rfl | rfl | rfl | rfl | rfl <;> rfl); (simp [List.getD, List.getElem?_eq_none (show ([0, 0, 0, 0, 0, 0, 0, 0] : List Int).length ≤ j by simpa using h)]))]
    rfl
  have h1 := run_own (P := [pK d v]) (st := TB 0 0 [0, 0, 0, 0, 0, 0, 0, 0] 0 []) (n := 0) (dr := 0) (i := 0) (pi := 0) (k := 0) (p := pK d v) (y := ins 1 1 d 0) (hid0 0) (by simp [TB, ws0]) (t := tkR 0 0 [0, 0, 0, 0, 0, 0, 0, 0]) (d := false) rfl rfl rfl rfl rfl (goodK d v) rfl rfl (pc := 1) (r := ofL [0, d, 0, 0, 0, 0, 0, 0]) (by rw [regs_tkR rfl]; show (((0 : Nat) : Int) + 1, updR (ofL [0, 0, 0, 0, 0, 0, 0, 0]) 1 d, false, 0, false) = _; rw [updR_ofL _ 1 d (by simp)]; rfl)
  rw [put_tkR rfl] at h1
  have s1 : (TB 0 0 [0, 0, 0, 0, 0, 0, 0, 0] 0 []).step [pK d v] (1, 0, 0) = some (TB 0 1 [0, d, 0, 0, 0, 0, 0, 0] 1 []) := step_run (st := TB 0 0 [0, 0, 0, 0, 0, 0, 0, 0] 0 []) rfl h1 (by show (0 : Nat) < 10000; omega) (by simp [TB])
  have ht : (TB 0 1 [0, d, 0, 0, 0, 0, 0, 0] 1 []).timer 2 d = some (TC true 0 (tkR 0 1 [0, d, 0, 0, 0, 0, 0, 0]) [0] [] [] [(0, addT 0 d, 1)] 1 (putP (fun _ => none) 0 (perOf 2 d)) 1 []) := by
    unfold WS.timer
    refine (if_neg ?_).trans rfl
    show ¬ ((0 : Int) < 0 ∨ maxT < 0 ∨ d < 1 ∨ 64 ≤ 0 ∨ 900 ≤ 0)
    unfold maxT; omega
  have ha : (TB 0 1 [0, d, 0, 0, 0, 0, 0, 0] 1 []).act 0 (ins 18 0 1 2) (ofL [0, d, 0, 0, 0, 0, 0, 0]) 0 = some (TC true 0 (tkR 0 1 [0, d, 0, 0, 0, 0, 0, 0]) [0] [] [] [(0, addT 0 d, 1)] 1 (putP (fun _ => none) 0 (perOf 2 d)) 1 [], some (ofL [0, d, 0, 0, 0, 0, 0, 0])) := by
    have e1 : (TB 0 1 [0, d, 0, 0, 0, 0, 0, 0] 1 []).act 0 (ins 18 0 1 2) (ofL [0, d, 0, 0, 0, 0, 0, 0]) 0 = (TB 0 1 [0, d, 0, 0, 0, 0, 0, 0] 1 []).actTimer 2 (ins 18 0 1 2) (ofL [0, d, 0, 0, 0, 0, 0, 0]) := rfl
    rw [e1]
    unfold WS.actTimer
    rw [if_neg (show ¬ 90000 ≤ (TB 0 1 [0, d, 0, 0, 0, 0, 0, 0] 1 []).nch by simp [TB, ws0, ws00])]
    rw [show ofL [0, d, 0, 0, 0, 0, 0, 0] (ins 18 0 1 2).1.2.2.1.toNat = d from rfl, ht]
    dsimp only
    rw [updR_ofL _ _ _ (by simp [ins]), updR_ofL _ _ _ (by simp [ins])]
    rfl
  have h2 := run_act (P := [pK d v]) (st := TB 0 1 [0, d, 0, 0, 0, 0, 0, 0] 1 []) (n := 1) (dr := 0) (i := 0) (pi := 0) (k := 1) (p := pK d v) (y := ins 18 0 1 2) (hid0 1) (by simp [TB, ws0]) (t := tkR 0 1 [0, d, 0, 0, 0, 0, 0, 0]) (d := false) rfl rfl rfl rfl rfl (goodK d v) rfl rfl rfl (by rw [regs_tkR rfl]; exact ha)
  rw [put_eq (t := tkR 0 1 [0, d, 0, 0, 0, 0, 0, 0]) (d := false) rfl rfl, put_tkR rfl] at h2
  have s2 := step_run (st := TB 0 1 [0, d, 0, 0, 0, 0, 0, 0] 1 []) rfl h2 (by show (1 : Nat) < 10000; omega) (by simp [TC])
  have e3 : addT 0 d = d := by unfold addT heldT; omega
  refine ⟨_, ?_, [0, d, 0, 0, 0, 0, 0, 0], 1, 1, putP (fun _ => none) 0 (perOf 2 d), [], rfl, rfl, ?_, rfl⟩
  · rw [show runsE 2 = [(1, 0, 0), (1, 1, 0)] from rfl, e0]
    rw [e3] at s2
    exact plays_mk s1 (plays_mk s2 rfl)
  · have : perOf 2 d = d := by unfold perOf maxT; simp; omega
    rw [this]; simp [putP, fup]
theorem takeR_eq {d due now sq : Int} {seq : Nat} {per : Int → Option Int} (hd : 1 ≤ d) (hd2 : d ≤ 20) (hp : per 0 = some d) (h0 : 0 ≤ due) (hn : due ≤ now) (hm : now ≤ 100000) :
    takeR [(0, due, sq)] seq per (0, due, sq) now = some ([(0, dueN d due now, ((seq + 1 : Nat) : Int))], seq + 1, putP (delP per 0) 0 d) := by
  have e1 : heapDel [((0 : Int), due, sq)] 0 = [] := by simp [heapDel]
  have e0 : (now - due).tdiv d = (now - due) / d := Int.tdiv_eq_ediv_of_nonneg (by omega)
  have e2 : d * ((now - due) / d) + (now - due) % d = now - due := Int.mul_ediv_add_emod _ _
  have e3 : 0 ≤ (now - due) % d := Int.emod_nonneg _ (by omega)
  have e4 : (now - due) % d < d := Int.emod_lt_of_pos _ (by omega)
  have hnx : nextT due d now = dueN d due now := by
    unfold nextT dueN
    rw [if_pos hn, e0, Int.mul_add, Int.mul_one]
    unfold addT heldT
    omega
  unfold takeR
  dsimp only
  rw [hp]
  simp only [Option.getD_some]
  have hlt : now < nextT due d now := by
    rw [hnx]; unfold dueN; rw [if_pos hn, e0, Int.mul_add, Int.mul_one]; omega
  rw [if_pos ⟨hd, hlt⟩, e1, hnx]
  simp only [heapDel, List.filter_nil, heapAdd]
/-- Time goes on, and the ticker ticks or not. -/
theorem tk_adv {d due now e : Int} {v : Value} {k : Nat} {st : WS} (hd : 1 ≤ d) (hd2 : d ≤ 20) (h0 : 0 ≤ due) (hn0 : 0 ≤ now) (hnm : now + e ≤ 100000) (he : 0 ≤ e) (hk : k < 10000) (h : TkR d v now due k st) :
    ∃ s, st.step [pK d v] (2, e, 0) = some s ∧ ∃ (r : List Int) (sq : Int) (seq : Nat) (per : Int → Option Int) (ev : List Ev), r.length = 8 ∧ r.getD 2 0 = 0 ∧ per 0 = some d ∧ s = TC true (now + e) (tkR 0 (2 : Nat) r) [0] (if due ≤ now + e then [now + e] else []) [] [(0, dueN d due (now + e), sq)] seq per (k + 1) ev := by
  obtain ⟨r, sq, seq, per, ev, hr, h2, hp, rfl⟩ := h
  have ea : addT now e = now + e := by unfold addT heldT; omega
  have hmx : now + e ≤ maxT := by unfold maxT; omega
  by_cases hdue : due ≤ now + e
  · have ht := takeR_eq (d := d) (due := due) (now := now + e) (sq := sq) (seq := seq) (per := per) hd hd2 hp h0 hdue hnm
    have hf := fire_free (tick := true) (now := now + e) (q := []) (k := k) (by omega) hmx hdue ht (t := tkR 0 (2 : Nat) r) (line := [0])
    have hlt : now + e < dueN d due (now + e) := by
      unfold dueN
      rw [if_pos hdue, Int.tdiv_eq_ediv_of_nonneg (by omega)]
      have e2 : d * ((now + e - due) / d) + (now + e - due) % d = now + e - due := Int.mul_ediv_add_emod _ _
      have e4 : (now + e - due) % d < d := Int.emod_lt_of_pos _ (by omega)
      rw [Int.mul_add, Int.mul_one]; omega
    have hfs := fires_one (n := 7) hf (by show 0 ≤ now + e; omega) hmx (by intro x l hx; simp only [TC] at hx ⊢; cases hx; exact hlt)
    have hst := step_adv (P := [pK d v]) (st := TC true now (tkR 0 (2 : Nat) r) [0] [] [] [(0, due, sq)] seq per k ev) (n := e) (fewT _ _ _ _ _ _ _ _ _ _ _ (by simp)) he (by
      show ({ TC true now (tkR 0 (2 : Nat) r) [0] [] [] [(0, due, sq)] seq per k ev with ev := [], now := addT now e } : WS).fires 9 = _
      rw [ea]; exact hfs) (by show k < 10000; exact hk) (by simp [TC])
    refine ⟨_, hst, r, ((seq + 1 : Nat) : Int), seq + 1, putP (delP per 0) 0 d, [((k : Int), 6, -1, 0, due, 0)], hr, h2, by simp [putP, fup], ?_⟩
    rw [if_pos hdue]
    rfl
  · have hfs := fires_none (st := TC true (now + e) (tkR 0 (2 : Nat) r) [0] [] [] [(0, due, sq)] seq per k []) (n := 8) (by show 0 ≤ now + e; omega) hmx (by intro x l hx; simp only [TC] at hx ⊢; cases hx; show now + e < due; omega)
    have hst := step_adv (P := [pK d v]) (st := TC true now (tkR 0 (2 : Nat) r) [0] [] [] [(0, due, sq)] seq per k ev) (n := e) (fewT _ _ _ _ _ _ _ _ _ _ _ (by simp)) he (by
      show ({ TC true now (tkR 0 (2 : Nat) r) [0] [] [] [(0, due, sq)] seq per k ev with ev := [], now := addT now e } : WS).fires 9 = _
      rw [ea]; exact hfs) (by show k < 10000; exact hk) (by simp [TC])
    refine ⟨_, hst, r, sq, seq, per, [], hr, h2, hp, ?_⟩
    rw [if_neg hdue]
    have : dueN d due (now + e) = due := by unfold dueN; rw [if_neg hdue]
    rw [this]
    rfl
/-- A round. -/
theorem tk_all {d due now e : Int} {v : Value} {k : Nat} {st : WS} (hd : 1 ≤ d) (hd2 : d ≤ 20) (h0 : 0 ≤ due) (hn0 : 0 ≤ now) (hnm : now + e ≤ 100000) (he : 0 ≤ e) (hk : k + 6 < 10000) (h : TkR d v now due k st) :
    ∃ s u l, st.step [pK d v] (2, e, 0) = some s ∧ plays [pK d v] s (runsE 4) = some (u, l) ∧ l.length = 2 ∧ TkR d v (now + e) (dueN d due (now + e)) (k + 5) u ∧
      ((due ≤ now + e ∧ toldL 0 l = [0, now + e]) ∨ (¬ due ≤ now + e ∧ ∃ x, toldL 0 l = [-1, x])) := by
  obtain ⟨s, hs, r, sq, seq, per, ev, hr, h2, hp, rfl⟩ := tk_adv (v := v) hd hd2 h0 hn0 hnm he (by omega) h
  obtain ⟨u, l, ev', hu, hu2, hl, hll⟩ := tk_round (d := d) (v := v) (now := now + e) (q := if due ≤ now + e then [now + e] else []) (hp := [(0, dueN d due (now + e), sq)]) (seq := seq) (per := per) (ev := ev) (show k + 1 < 10000 by omega) hr h2 (by omega) (by split <;> simp)
  refine ⟨_, u, l, hs, hu, hll, ?_, ?_⟩
  · refine ⟨_, sq, seq, per, ev', selR_len _ _ hr, ?_, hp, hu2⟩
    unfold selR
    split
    · rw [getD_set_ne (by omega)]; exact h2
    · rw [getD_set_ne (by omega), getD_set_ne (by omega), getD_set_ne (by omega), getD_set_ne (by omega)]; exact h2
  · by_cases hdue : due ≤ now + e
    · left
      refine ⟨hdue, ?_⟩
      rw [hl, if_pos hdue]
      simp only [selR]
      rw [getD_set_ne (by omega), getD_set_ne (by omega), getD_set_ne (by omega), getD_set_self (by omega), getD_set_ne (by omega), getD_set_ne (by omega), getD_set_self (by simp; omega)]
    · right
      refine ⟨hdue, r.getD 3 0, ?_⟩
      rw [hl, if_neg hdue]
      simp only [selR]
      rw [getD_set_self (by omega), getD_set_ne (by omega)]
theorem WAt.len {w : World} {S : Nat → Prop} {wb : Nat} {P : Pg} {st : WS} {nd nm : Nat} (h : WAt w S wb P st nd nm) {i : Nat} {c : ChS} (hi : st.ch i = some c) (hn : i < st.nch) (n : Nat) (hl : c.lenR = n) : Calls Tryz.prog 16 #[ptV (P.2 i)] w fun e w' => e = .returned (inV (n : Int)) ∧ w = w' := by
  obtain ⟨F, c', h, rfl, hS⟩ := h
  rw [← h.pad.2.2 i hn]
  exact pool_len (h.pool id) i hi n hl
theorem WAt.cap {w : World} {S : Nat → Prop} {wb : Nat} {P : Pg} {st : WS} {nd nm : Nat} (h : WAt w S wb P st nd nm) {i : Nat} {c : ChS} (hi : st.ch i = some c) (hn : i < st.nch) (n : Nat) (hl : c.capR = n) : Calls Tryz.prog 17 #[ptV (P.2 i)] w fun e w' => e = .returned (inV (n : Int)) ∧ w = w' := by
  obtain ⟨F, c', h, rfl, hS⟩ := h
  rw [← h.pad.2.2 i hn]
  exact pool_cap (h.pool id) i hi n hl
/-- Operations that TopTickers needs. -/
def K2 (op : Int) : Prop := op = 18 ∨ op = 15
theorem doc2 : DoC K2 := by
  intro w S P st nd nm ab x a b c id y d e f g1 g2 g3 g4 g5 s o g6 g7
  rcases g7 with q | q
  · exact do_ticker a b c d e f g1 g2 g3 g4 g5 g6 q
  · exact do_select a b c d e f g1 g2 g3 g4 g5 g6 q
theorem ok_tk {d : Int} {v : Value} {L : List (List Ins)} (h : SameP [pK d v] L) (dr : Int) : PgOk K2 L dr := by
  refine PgOk.same h (fun p hp y hy => ?_) (fun p hp y hy => ?_) dr
  · simp only [List.mem_singleton] at hp
    subst hp
    simp only [pK, List.mem_cons, List.not_mem_nil, or_false] at hy
    rcases hy with rfl | rfl | rfl | rfl | rfl | rfl
    · exact .inl rfl
    · exact .inr (.inl rfl)
    · exact .inr (.inr rfl)
    · exact .inl rfl
    · exact .inl rfl
    · exact .inl rfl
  · simp only [List.mem_singleton] at hp
    subst hp
    simp only [pK, List.mem_cons, List.not_mem_nil, or_false] at hy
    rcases hy with rfl | rfl | rfl | rfl | rfl | rfl
    · exact .inl rfl
    · exact .inl rfl
    · exact .inr ⟨rfl, rfl⟩
    · exact .inl rfl
    · exact .inl rfl
    · exact .inl rfl
theorem pgin_tk {w : World} {d : Int} {v pv r : Value} (h0 : Rd w 1 pv 1 [r]) (h1 : Rd w 6 r 6 ((pK d v).flatMap insEn)) (h2 : Rd w 3 v 1 (icsEn (false, 2, 0))) : PgIn w pv [pK d v] [r] := by
  refine ⟨rfl, h0, fun i p hp => ?_, fun p hp y hy => ?_, fun p hp y hy hn => ?_, ⟨by simp, by simp⟩, fun p hp => ?_⟩
  · cases i with
    | zero => simp at hp; subst hp; exact ⟨r, rfl, h1⟩
    | succ i => simp at hp
  · simp only [List.mem_singleton] at hp
    subst hp
    simp only [pK, List.mem_cons, List.not_mem_nil, or_false] at hy
    rcases hy with rfl | rfl | rfl | rfl | rfl | rfl
    · exact rd_nil w 3
    · exact rd_nil w 3
    · exact h2
    · exact rd_nil w 3
    · exact rd_nil w 3
    · exact rd_nil w 3
  · simp only [List.mem_singleton] at hp
    subst hp
    simp only [pK, List.mem_cons, List.not_mem_nil, or_false] at hy
    rcases hy with rfl | rfl | rfl | rfl | rfl | rfl
    · rfl
    · rfl
    · simp [yS] at hn
    · rfl
    · rfl
    · rfl
  · simp only [List.mem_singleton] at hp
    subst hp
    refine ⟨goodK d v, fun y hy => ?_⟩
    simp only [pK, List.mem_cons, List.not_mem_nil, or_false] at hy
    rcases hy with rfl | rfl | rfl | rfl | rfl | rfl <;> simp [startsI, ins, yS]
/-- The world between rounds. -/
def TkW (W wr : World) (wb : Nat) (L : List (List Ins)) (d : Int) (v : Value) (now due : Int) (j : Nat) (st : WS) : Prop := TkR d v now due (2 + 5 * j) st ∧ 0 ≤ due ∧ due ≤ now + 20 ∧ 0 ≤ now ∧ now ≤ (j : Int) * 60 ∧ ∃ (B : Nat → Nat) (S : Nat → Prop), Fr Nob W wr ∧ WAt wr S wb (L, B) st (20000 + 50000 * j) (30 + 200 * j) ∧ ∀ q, S q → W.heap.size ≤ q
theorem dueN_le {d due now : Int} (hd : 1 ≤ d) (hd2 : d ≤ 20) (h0 : 0 ≤ due) (hn : due ≤ now + 20) : 0 ≤ dueN d due now ∧ dueN d due now ≤ now + 20 := by
  unfold dueN
  split
  · next h =>
    rw [Int.tdiv_eq_ediv_of_nonneg (by omega)]
    have e2 : d * ((now - due) / d) + (now - due) % d = now - due := Int.mul_ediv_add_emod _ _
    have e3 : 0 ≤ (now - due) % d := Int.emod_nonneg _ (by omega)
    have e4 : (now - due) % d < d := Int.emod_lt_of_pos _ (by omega)
    rw [Int.mul_add, Int.mul_one]; omega
  · next h => omega
theorem topTickers_bad (a b c : Int) (w : World) (h : a < 1 ∨ 20 < a ∨ b < 1 ∨ 60 < b ∨ c < 0 ∨ 20 < c) :
    Calls Tryz.prog 3 #[inV a, inV b, inV c] w fun e w' => e = .returned (.bool true) ∧ Below w.heap.size w w' := by
  have Haw := Lib.hid (top_awake w)
  by_cases h0 : a < 1
  · go_enter Tryz.func3, Tryz.ntmps3
    go_wp2_with fail
    refine Haw.out.mono ?_
    rintro e w' ⟨rfl, hf⟩
    go_wp2_with fail
    go_ret
    exact ⟨rfl, hf.below (Nat.le_refl _) fun _ q => q.elim⟩
  · skip
    by_cases h1 : 20 < a
    · go_enter Tryz.func3, Tryz.ntmps3
      go_wp2_with fail
      refine Haw.out.mono ?_
      rintro e w' ⟨rfl, hf⟩
      go_wp2_with fail
      go_ret
      exact ⟨rfl, hf.below (Nat.le_refl _) fun _ q => q.elim⟩
    · skip
      by_cases h2 : b < 1
      · go_enter Tryz.func3, Tryz.ntmps3
        go_wp2_with fail
        refine Haw.out.mono ?_
        rintro e w' ⟨rfl, hf⟩
        go_wp2_with fail
        go_ret
        exact ⟨rfl, hf.below (Nat.le_refl _) fun _ q => q.elim⟩
      · skip
        by_cases h3 : 60 < b
        · go_enter Tryz.func3, Tryz.ntmps3
          go_wp2_with fail
          refine Haw.out.mono ?_
          rintro e w' ⟨rfl, hf⟩
          go_wp2_with fail
          go_ret
          exact ⟨rfl, hf.below (Nat.le_refl _) fun _ q => q.elim⟩
        · skip
          by_cases h4 : c < 0
          · go_enter Tryz.func3, Tryz.ntmps3
            go_wp2_with fail
            refine Haw.out.mono ?_
            rintro e w' ⟨rfl, hf⟩
            go_wp2_with fail
            go_ret
            exact ⟨rfl, hf.below (Nat.le_refl _) fun _ q => q.elim⟩
          · skip
            have h5 : 20 < c := by omega
            clear h
            go_enter Tryz.func3, Tryz.ntmps3
            go_wp2_with fail
            refine Haw.out.mono ?_
            rintro e w' ⟨rfl, hf⟩
            go_wp2_with fail
            go_ret
            exact ⟨rfl, hf.below (Nat.le_refl _) fun _ q => q.elim⟩
set_option maxHeartbeats 4000000 in
theorem topTickers_good (d ev : Int) (n : Nat) (W : World) (h1 : 1 ≤ d) (h2 : d ≤ 20) (h3 : 1 ≤ ev) (h4 : ev ≤ 60) (hn : n ≤ 20) :
    Calls Tryz.prog 3 #[inV d, inV ev, inV (n : Int)] W fun e w' => e = .returned (.bool true) ∧ Below W.heap.size W w' := by
  have g1 : ¬ d < 1 := by omega
  have g2 : ¬ 20 < d := by omega
  have g3 : ¬ ev < 1 := by omega
  have g4 : ¬ 60 < ev := by omega
  have g5 : ¬ (n : Int) < 0 := by omega
  have g6 : ¬ 20 < (n : Int) := by omega
  go_enter Tryz.func3, Tryz.ntmps3
  go_wp2_with fail
  obtain ⟨v, hv⟩ : ∃ v, v = Value.slice (some ⟨W.heap.size, 0, none⟩) 1 1 := ⟨_, rfl⟩
  obtain ⟨z1, hz1⟩ : ∃ z1, z1 = ((W.alloc (.cells #[.bool false, inV 2, inV 0] 27)).alloc (.cells ((pK d v).flatMap insEn).toArray 25)).alloc (.cells #[.slice (some ⟨W.heap.size + 1, 0, none⟩) 6 6] 28) := ⟨_, rfl⟩
  have hz1' := hz1
  rw [hv] at hz1'
  simp only [pK, yS, ins, insEn, List.flatMap_cons, List.flatMap_nil, List.cons_append, List.nil_append] at hz1'
  rw [← hz1']
  have hfz : Fr Nob W z1 := by rw [hz1]; exact (((Fr.refl Nob W).alloc _).alloc _).alloc _
  have hb2 : z1.heap[W.heap.size + 2]? = some (.cells [.slice (some ⟨W.heap.size + 1, 0, none⟩) 6 6].toArray 28 (0, 0)) := by rw [hz1]; exact blk_alloc_eq _ (by simp)
  have hb1 : z1.heap[W.heap.size + 1]? = some (.cells ((pK d v).flatMap insEn).toArray 25 (0, 0)) := by rw [hz1, blk_alloc_ne _ (by simp)]; exact blk_alloc_eq _ (by simp)
  have hb0 : z1.heap[W.heap.size]? = some (.cells (icsEn (false, 2, 0)).toArray 27 (0, 0)) := by rw [hz1, blk_alloc_ne _ (by simp; omega), blk_alloc_ne _ (by simp)]; exact heap_alloc_new _ _
  have hin : PgIn z1 (.slice (some ⟨W.heap.size + 2, 0, none⟩) 1 1) [pK d v] [.slice (some ⟨W.heap.size + 1, 0, none⟩) 6 6] := pgin_tk (rd_lit hb2 1 1 (by omega) rfl (by omega)) (rd_lit hb1 6 6 (by omega) rfl (by omega)) (by rw [hv]; exact rd_lit hb0 1 3 (by omega) rfl (by omega))
  have Hnew := Lib.hid (world_new hin)
  have Hfz := Lib.hid hfz
  clear hz1 hz1' hfz hb2 hb1 hb0 hin hv
  refine Hnew.out.mono ?_
  rintro e w0 ⟨wb, S0, L, rfl, hf0, ha0, hs0, hsame⟩
  have Hsame := Lib.hid hsame
  have Hok := Lib.hid (fun dr => ok_tk hsame dr)
  have Hf0 := Lib.hid (Hfz.out.trans0 hf0)
  have Hs0 : Hid (∀ q, S0 q → W.heap.size ≤ q) := Lib.hid fun q a => by have := hs0 q a; have := Hfz.out.size; omega
  obtain ⟨st2, hp2, htk2⟩ := tk_start (v := v) h1 h2
  have Hmany := Lib.hid (top_many doc2 ha0 2 (by omega) (Hok.out 0) ((hsame.plays _ _).trans hp2) (by simp) (by omega) (by omega))
  have Htk2 := Lib.hid htk2
  clear hf0 ha0 hs0 hsame hp2 htk2 Hnew
  go_wp2_with fail
  refine Hmany.out.mono ?_
  rintro e w1 ⟨v1, rfl, B1, S1, T1, f1, a1, u1, e1, t1⟩
  have hf1 : Fr Nob W w1 := Hf0.out.trans f1 fun q hq a => by have := Hs0.out q a; omega
  have hW1 : TkW W w1 wb L d v 0 d 0 st2 := ⟨Htk2.out, by omega, by omega, by omega, by omega, B1, S1, hf1, a1.mono (by omega) (by omega), fun q a => by
    rcases u1 q a with b | b
    · exact Hs0.out q b
    · have := Hf0.out.size; omega⟩
  have HW1 := Lib.hid hW1
  clear f1 a1 u1 e1 t1 hf1 hW1 Hmany Hf0 Hfz Hs0 Htk2
  go_wp2_with fail
  go_loopw [10, 11, 12] (fun dv hv iv wr => ∃ (j : Nat) (due now : Int) (st : WS), j ≤ n ∧ dv = inV due ∧ hv = inV (-1) ∧ iv = inV ((j : Int) + 1) ∧ now = (j : Int) * ev ∧ Hid (TkW W wr wb L d v now due j st)) (fun _ _ iv _ => n + 1 - (intOf iv).toNat)
  case atStart => exact ⟨0, d, 0, st2, Nat.zero_le _, rfl, rfl, rfl, by simp, HW1⟩
  case round =>
    clear HW1
    obtain ⟨j, due, now, st, hj, rfl, rfl, rfl, hnow, hr⟩ := hrel
    by_cases hlt : j < n
    · have hki : (j : Int) + 1 ≤ n := by omega
      obtain ⟨hT, d0, d1, n0, n1, B, S, f, a, u⟩ := hr.out
      obtain ⟨s, u1, l, hs, hpl, hll, hT', hcase⟩ := tk_all (v := v) (e := ev) h1 h2 d0 n0 (by omega) (by omega) (by omega) hT
      obtain ⟨now', hnow'⟩ : ∃ now', now' = now + ev := ⟨_, rfl⟩
      have hm1 : ((j : Int) + 1) * ev = now' := by rw [Int.add_mul, Int.one_mul, hnow', hnow]
      have hm2 : IntKind.i64.wrap now' = now' := IntWalk.i64_in _ (by omega)
      rw [← hnow'] at hT' hcase
      have hdn := dueN_le (now := now') h1 h2 d0 (by omega)
      have Hst := Lib.hid (world_steps doc2 a 2 ev 0 (Hok.out 0) ((Hsame.out.step _ _).trans hs) (by omega) (by omega))
      have Hpl := Lib.hid ((Hsame.out.plays _ _).trans hpl)
      have HT' := Lib.hid hT'; have Hf := Lib.hid f; have Hu := Lib.hid u; have Hnow := Lib.hid hnow; have Hnow' := Lib.hid hnow'; have Hll := Lib.hid hll
      have hn0 : 0 ≤ now' := by omega
      have hnb : now' ≤ 1260 := by omega
      have Hnb : Hid (now ≤ (j : Int) * 60) := n1
      clear hT a f u hs hpl hT' hr hnow hnow' n1 n0 hll
      go_wp2_with fail
      refine Hst.out.mono ?_
      rintro e w2 ⟨v2, rfl, B2, S2, T2, f2, a2, u2, e2, t2⟩
      rw [costN2] at a2
      have Hmany := Lib.hid (top_many doc2 a2 4 (by omega) (Hok.out 0) Hpl.out (by rw [Hll.out]; omega) (by omega) (by omega))
      have Hf2 := Lib.hid f2; have Hu2 := Lib.hid u2
      clear f2 a2 u2 e2 t2 Hst
      obtain ⟨due', hd'⟩ : ∃ due', due' = dueN d due now' := ⟨_, rfl⟩
      rw [← hd'] at HT' hdn
      rcases hcase with ⟨hdue, htl⟩ | ⟨hdue, x, htl⟩
      · have Htl := Lib.hid htl
        have b1 : IntKind.i64.wrap (now' - due) = now' - due := IntWalk.i64_in _ (by omega)
        obtain ⟨qv, hqv⟩ : ∃ qv, qv = (now' - due).tdiv d := ⟨_, rfl⟩
        have e0 : (now' - due).tdiv d = (now' - due) / d := Int.tdiv_eq_ediv_of_nonneg (by omega)
        have hq0 : 0 ≤ qv := by rw [hqv, e0]; exact Int.ediv_nonneg (by omega) (by omega)
        have hq1 : qv ≤ 1260 := by rw [hqv, e0]; exact Int.le_trans (Int.ediv_le_self _ (by omega)) (by omega)
        have hdn' : due' = due + d * (qv + 1) := by rw [hd', hqv]; unfold dueN; rw [if_pos (by omega)]
        obtain ⟨pv, hpv⟩ : ∃ pv, pv = d * (qv + 1) := ⟨_, rfl⟩
        rw [← hpv] at hdn'
        have b2 : IntKind.i64.wrap qv = qv := IntWalk.i64_in _ (by omega)
        have b3 : IntKind.i64.wrap (qv + 1) = qv + 1 := IntWalk.i64_in _ (by omega)
        have b5 : IntKind.i64.wrap pv = pv := IntWalk.i64_in _ (by omega)
        have b6 : IntKind.i64.wrap (due + pv) = due' := by rw [← hdn']; exact IntWalk.i64_in _ (by omega)
        have hd0 : (d == 0) = false := by simp; omega
        have hd1 : d ≠ 0 := by omega
        have b7 : (now' - due).tdiv d = qv := hqv.symm
        have b8 : d * (qv + 1) = pv := hpv.symm
        clear hqv hpv hdn' hd' e0 htl
        go_wp2_with fail
        refine Hmany.out.mono ?_
        rintro e w3 ⟨v3, rfl, B3, S3, T3, f3, a3, u3, e3, t3⟩
        have Hot := Lib.hid (order_told w3 v3 l _ rfl (by rw [Hll.out]; omega) e3.rd 0)
        have hf3 : Fr Nob W w3 := (Hf.out.trans Hf2.out fun q hq b => by have := Hu.out q b; omega).trans f3 fun q hq b => by
          rcases Hu2.out q b with c | c
          · have := Hu.out q c; omega
          · have := Hf.out.size; omega
        have Hf3 := Lib.hid hf3
        have Hw3 : Hid (WAt w3 S3 wb (L, B3) u1 (20000 + 50000 * (j + 1)) (30 + 200 * (j + 1)) ∧ ∀ q, S3 q → W.heap.size ≤ q) := ⟨a3.mono (by omega) (by omega), fun q b => by
          rcases u3 q b with c | c
          · rcases Hu2.out q c with e | e
            · exact Hu.out q e
            · have := Hf.out.size; omega
          · have := Hf.out.size; have := Hf2.out.size; omega⟩
        clear f3 a3 u3 e3 t3 hf3 Hmany
        go_wp2_with fail
        refine Hot.out.mono ?_
        rintro e w4 ⟨tv, rfl, hf4, ht4⟩
        rw [Htl.out] at ht4
        obtain ⟨_, _, A4, c4, rfl, hc41, hc42, hA4⟩ := ht4
        obtain ⟨g, o, rfl, hgl, hcc⟩ := hA4 (by simp)
        have q0 := hcc 0 _ rfl
        have q1 := hcc 1 _ rfl
        rw [Nat.add_zero] at q0
        have Hf4 := Lib.hid (Hf3.out.trans0 hf4)
        have Hw4 := Lib.hid (WAt.fr0 Hw3.out.1 hf4)
        dsimp only [List.length_cons, List.length_nil] at hc41
        clear hf4 hcc hA4 Hot
        dsimp only [List.length_cons, List.length_nil]
        go_wp2_with fail
        go_roundw
        case rel => exact ⟨j + 1, due', now', u1, by omega, rfl, rfl, by go_num, by rw [Hnow'.out, Hnow.out]; simp [Int.add_mul], Lib.hid ⟨by rw [show 2 + 5 * (j + 1) = 2 + 5 * j + 5 by omega]; exact HT'.out, hdn.1, hdn.2, hn0, by have := Hnb.out; have := Hnow'.out; omega, B3, S3, Hf4.out, Hw4.out, Hw3.out.2⟩⟩
        case measure => simp [intOf]; omega
      · have Htl := Lib.hid htl
        have hde : due' = due := by rw [hd']; unfold dueN; rw [if_neg (by omega)]
        subst hde
        have hdue' : now' < due' := by omega
        clear hd' htl hdue
        go_wp2_with fail
        refine Hmany.out.mono ?_
        rintro e w3 ⟨v3, rfl, B3, S3, T3, f3, a3, u3, e3, t3⟩
        have Hot := Lib.hid (order_told w3 v3 l _ rfl (by rw [Hll.out]; omega) e3.rd 0)
        have hf3 : Fr Nob W w3 := (Hf.out.trans Hf2.out fun q hq b => by have := Hu.out q b; omega).trans f3 fun q hq b => by
          rcases Hu2.out q b with c | c
          · have := Hu.out q c; omega
          · have := Hf.out.size; omega
        have Hf3 := Lib.hid hf3
        have Hw3 : Hid (WAt w3 S3 wb (L, B3) u1 (20000 + 50000 * (j + 1)) (30 + 200 * (j + 1)) ∧ ∀ q, S3 q → W.heap.size ≤ q) := ⟨a3.mono (by omega) (by omega), fun q b => by
          rcases u3 q b with c | c
          · rcases Hu2.out q c with e | e
            · exact Hu.out q e
            · have := Hf.out.size; omega
          · have := Hf.out.size; have := Hf2.out.size; omega⟩
        clear f3 a3 u3 e3 t3 hf3 Hmany
        go_wp2_with fail
        refine Hot.out.mono ?_
        rintro e w4 ⟨tv, rfl, hf4, ht4⟩
        rw [Htl.out] at ht4
        obtain ⟨_, _, A4, c4, rfl, hc41, hc42, hA4⟩ := ht4
        obtain ⟨g, o, rfl, hgl, hcc⟩ := hA4 (by simp)
        have q0 := hcc 0 _ rfl
        have q1 := hcc 1 _ rfl
        rw [Nat.add_zero] at q0
        have Hf4 := Lib.hid (Hf3.out.trans0 hf4)
        have Hw4 := Lib.hid (WAt.fr0 Hw3.out.1 hf4)
        dsimp only [List.length_cons, List.length_nil] at hc41
        clear hf4 hcc hA4 Hot
        dsimp only [List.length_cons, List.length_nil]
        go_wp2_with fail
        go_roundw
        case rel => exact ⟨j + 1, due', now', u1, by omega, rfl, rfl, by go_num, by rw [Hnow'.out, Hnow.out]; simp [Int.add_mul], Lib.hid ⟨by rw [show 2 + 5 * (j + 1) = 2 + 5 * j + 5 by omega]; exact HT'.out, hdn.1, hdn.2, hn0, by have := Hnb.out; have := Hnow'.out; omega, B3, S3, Hf4.out, Hw4.out, Hw3.out.2⟩⟩
        case measure => simp [intOf]; omega
    · obtain rfl : j = n := by omega
      have hki : ¬ (j : Int) + 1 ≤ (j : Int) := by omega
      obtain ⟨_, _, _, _, _, B, S, f, a, u⟩ := hr.out
      have Hf := Lib.hid f
      clear f a u hr
      go_wp2_with fail
      refine (top_awake _).mono ?_
      rintro e w9 ⟨rfl, hf9⟩
      go_wp2_with fail
      go_ret
      exact ⟨rfl, (Hf.out.trans0 hf9).below (Nat.le_refl _) fun _ q => q.elim⟩
end Go.Proofs.YtcffplgimbbflaaGreat
