/- TopTimes answers true whatever its inputs are: no condition. -/
import Derived.Test.YtcffplgimbbflaaGreatTmQ21
set_option linter.unusedVariables false
set_option linter.unusedSimpArgs false
namespace Go.Proofs.YtcffplgimbbflaaGreat
open Go.RowKit
set_option maxRecDepth 100000
/-- Numbers in a row, and nothing behind them. -/
def ofL (l : List Int) : Nat → Int := fun j => l.getD j 0
theorem updR_ofL (l : List Int) (k : Nat) (v : Int) (h : k < l.length) : updR (ofL l) k v = ofL (l.set k v) := by
  funext j
  unfold updR ofL
  by_cases e : j = k
  · subst e; rw [if_pos rfl]; simp [List.getD, h]
  · rw [if_neg e]; simp only [List.getD, List.getElem?_set_ne (Ne.symm e)]
/-- A task that can run; one that waits; one that ended. -/
def tkR (pg pc : Int) (r : List Int) : Nat → Int := fun j => if j = 0 then pg else if j = 1 then pc else if j < 4 then 0 else if j < 12 then r.getD (j - 4) 0 else 0
def tkW (pg pc : Int) (r : List Int) (op a b c : Int) : Nat → Int := fun j => if j = 0 then pg else if j = 1 then pc else if j = 2 then 1 else if j < 4 then 0 else if j < 12 then r.getD (j - 4) 0 else if j = 12 then op else if j = 13 then a else if j = 14 then b else if j = 15 then c else 0
theorem regs_tkR {pg pc : Int} {r : List Int} (h : r.length = 8) : regsOf (tkR pg pc r) = ofL r := by
  funext j
  unfold regsOf tkR ofL
  rw [if_neg (by omega), if_neg (by omega), if_neg (by omega)]
  by_cases e : 4 + j < 12
  · rw [if_pos e, show 4 + j - 4 = j by omega]
  · rw [if_neg e]; simp [List.getD, List.getElem?_eq_none (show r.length ≤ j by omega)]
theorem put_tkR {pg pc pc' : Int} {r q : List Int} (h : q.length = 8) : putT (tkR pg pc r) pc' (ofL q) = tkR pg pc' q := by
  funext j
  unfold putT tkR ofL
  by_cases e0 : j = 0
  · subst e0; simp
  · by_cases e1 : j = 1
    · subst e1; simp
    · rw [if_neg e1, if_neg e0, if_neg e1, if_neg e0, if_neg e1]
      by_cases e2 : 4 ≤ j ∧ j < 12
      · rw [if_pos e2, if_neg (by omega), if_pos e2.2]
      · rw [if_neg e2]
        by_cases e3 : j < 4
        · rw [if_pos e3, if_pos e3]
        · rw [if_neg e3, if_neg e3, if_neg (by omega), if_neg (by omega)]
theorem new_tkR {pg : Int} {r : List Int} : newT pg (ofL r) = tkR pg 0 r := by
  funext j
  unfold newT tkR ofL
  by_cases e0 : j = 0
  · simp [e0]
  · rw [if_neg e0, if_neg e0]
    by_cases e2 : 4 ≤ j ∧ j < 12
    · rw [if_pos e2, if_neg (by omega), if_neg (by omega), if_pos e2.2]
    · rw [if_neg e2]
      by_cases e1 : j = 1
      · rw [if_pos e1]
      · rw [if_neg e1]
        by_cases e3 : j < 4
        · rw [if_pos e3]
        · rw [if_neg e3, if_neg (by omega)]
theorem park_tkR {pg pc : Int} {r : List Int} {op a b c : Int} : parkT (tkR pg pc r) op a b c = tkW pg pc r op a b c := by
  funext j
  unfold parkT updT tkR tkW
  by_cases h : j < 16
  · rcases (show j = 0 ∨ j = 1 ∨ j = 2 ∨ j = 3 ∨ (4 ≤ j ∧ j < 12) ∨ j = 12 ∨ j = 13 ∨ j = 14 ∨ j = 15 by omega) with rfl | rfl | rfl | rfl | ⟨h1, h2⟩ | rfl | rfl | rfl | rfl <;> try simp
    repeat (first | rw [if_neg (by omega)] | rw [if_pos (by omega)])
  · repeat (rw [if_neg (by omega)])
theorem wake_tkW {pg pc : Int} {r : List Int} {op a b c : Int} : wakeT (tkW pg pc r op a b c) = tkR pg (pc + 1) r := by
  funext j
  unfold wakeT updT tkR tkW
  by_cases h : j < 16
  · rcases (show j = 0 ∨ j = 1 ∨ j = 2 ∨ j = 3 ∨ (4 ≤ j ∧ j < 12) ∨ j = 12 ∨ j = 13 ∨ j = 14 ∨ j = 15 by omega) with rfl | rfl | rfl | rfl | ⟨h1, h2⟩ | rfl | rfl | rfl | rfl <;> try simp
    repeat (first | rw [if_neg (by omega)] | rw [if_pos (by omega)])
  · repeat (rw [if_neg (by omega)])
/-- A task is told while it waits. -/
theorem upd_tkW {pg pc : Int} {r : List Int} {op a b c v : Int} (k : Nat) (hk : k < 8) (hr : r.length = 8) : updT (tkW pg pc r op a b c) (4 + k) v = tkW pg pc (r.set k v) op a b c := by
  funext j
  unfold updT tkW
  by_cases e : j = 4 + k
  · subst e
    rw [if_pos rfl, if_neg (by omega), if_neg (by omega), if_neg (by omega), if_neg (by omega), if_pos (by omega), show 4 + k - 4 = k by omega]
    simp [List.getD, hr, hk]
  · rw [if_neg e]
    by_cases h : 4 ≤ j ∧ j < 12
    · have : (r.set k v).getD (j - 4) 0 = r.getD (j - 4) 0 := by simp only [List.getD]; rw [List.getElem?_set_ne (by omega)]
      rw [this]
    · by_cases e0 : j = 0
      · simp [e0]
      · by_cases e1 : j = 1
        · simp [e1]
        · by_cases e2 : j = 2
          · simp [e2]
          · by_cases e3 : j < 4
            · simp only [if_neg e0, if_neg e1, if_neg e2, if_pos e3]
            · simp only [if_neg e0, if_neg e1, if_neg e2, if_neg e3, if_neg (show ¬ j < 12 by omega)]
theorem got_tkW {pg pc : Int} {r : List Int} {op a b c v : Int} (B C : Nat) (hB : B < 8) (hC : C < 8) (hr : r.length = 8) : gotT (tkW pg pc r op a b c) B C v true = tkW pg pc (((r.set B v).set C 0).set C 1) op a b c := by
  unfold gotT
  rw [if_pos rfl, upd_tkW B hB hr, upd_tkW C hC (by simp [hr]), upd_tkW C hC (by simp [hr])]
section
variable {P : List (List Ins)} {st s : WS} {n dr : Int} {i : Nat} {t : Nat → Int} {d : Bool} {pi k : Nat} {p : List Ins}
/-- An instruction of its own. -/
theorem run_head (hid : st.line.getD (n % (st.line.length : Int)).toNat 0 = (i : Int)) (hl : st.line ≠ []) (hi : st.ts[i]? = some (t, d, [])) (h2 : t 2 = 0) (h0 : t 0 = (pi : Int)) (hp : P[pi]? = some p) (h1 : t 1 = (k : Int)) (hk : k ≤ p.length) (hg : progB p = true) :
    st.run P n dr = (if t 1 = p.length then
          (match st.endT i 0 with
            | none => none
            | some s => s.tellO 4 i 0 0 0)
        else match p[k]? with
          | none => none
          | some y =>
            if mineB y.1.1 then
              (let o := stepR y.1.1 y.1.2.1 y.1.2.2.1 k (regsOf t) st.now
              match st.put i o.1 o.2.1 with
              | none => none
              | some s =>
                match (if o.2.2.1 then s.tellO 1 i o.2.2.2.1 0 0 else some s) with
                | none => none
                | some s => if o.2.2.2.2 then (match s.endT i 0 with
                  | none => none
                  | some s => s.tellO 4 i 0 0 0) else some s)
            else if regsOk y = false then none else match st.act i y (regsOf t) dr with
              | none => none
              | some (s, none) => s.park i y
              | some (s, some r) => s.put i ((k : Int) + 1) r) := by
  unfold WS.run
  split
  · next e => exact absurd e hl
  · dsimp only
    rw [hid, if_neg (by omega), show ((i : Int)).toNat = i by omega, hi]
    dsimp only
    rw [if_neg (by intro q; rcases q with q | q | q | q; omega; exact q h2; exact q rfl; omega), show (t 0).toNat = pi by omega, hp]
    dsimp only
    rw [if_neg (by intro q; rcases q with q | q; rw [hg] at q; cases q; omega), show (t 1).toNat = k by omega, h1]
    rfl
theorem run_own (hid : st.line.getD (n % (st.line.length : Int)).toNat 0 = (i : Int)) (hl : st.line ≠ []) (hi : st.ts[i]? = some (t, d, [])) (h2 : t 2 = 0) (h0 : t 0 = (pi : Int)) (hp : P[pi]? = some p) (h1 : t 1 = (k : Int)) (hg : progB p = true) {y : Ins} (hy : p[k]? = some y) (hm : mineB y.1.1 = true)
    {pc : Int} {r : Nat → Int} (ho : stepR y.1.1 y.1.2.1 y.1.2.2.1 k (regsOf t) st.now = (pc, r, false, 0, false)) : st.run P n dr = some { st with ts := st.ts.set i (putT t pc r, d, []) } := by
  have hk := (List.getElem?_eq_some_iff.1 hy).1
  rw [run_head hid hl hi h2 h0 hp h1 (by omega) hg, if_neg (by omega), hy]
  dsimp only
  rw [if_pos hm, ho]
  dsimp only [WS.put]
  rw [hi]
  dsimp only
  rw [if_pos ⟨h2, rfl⟩]
  rfl
theorem run_tell (hid : st.line.getD (n % (st.line.length : Int)).toNat 0 = (i : Int)) (hl : st.line ≠ []) (hi : st.ts[i]? = some (t, d, [])) (h2 : t 2 = 0) (h0 : t 0 = (pi : Int)) (hp : P[pi]? = some p) (h1 : t 1 = (k : Int)) (hg : progB p = true) {y : Ins} (hy : p[k]? = some y) (hm : mineB y.1.1 = true)
    {pc v : Int} {r : Nat → Int} (ho : stepR y.1.1 y.1.2.1 y.1.2.2.1 k (regsOf t) st.now = (pc, r, true, v, false)) (hev : st.ev.length < 1000) : st.run P n dr = some { st with ts := st.ts.set i (putT t pc r, d, []), ev := st.ev ++ [((st.steps : Int), 1, (i : Int), v, 0, 0)] } := by
  have hk := (List.getElem?_eq_some_iff.1 hy).1
  rw [run_head hid hl hi h2 h0 hp h1 (by omega) hg, if_neg (by omega), hy]
  dsimp only
  rw [if_pos hm, ho]
  dsimp only [WS.put]
  rw [hi]
  dsimp only
  rw [if_pos ⟨h2, rfl⟩]
  dsimp only
  rw [if_pos rfl]
  unfold WS.tellO
  dsimp only
  rw [if_neg (by omega)]
  rfl
theorem run_act (hid : st.line.getD (n % (st.line.length : Int)).toNat 0 = (i : Int)) (hl : st.line ≠ []) (hi : st.ts[i]? = some (t, d, [])) (h2 : t 2 = 0) (h0 : t 0 = (pi : Int)) (hp : P[pi]? = some p) (h1 : t 1 = (k : Int)) (hg : progB p = true) {y : Ins} (hy : p[k]? = some y) (hm : mineB y.1.1 = false) (hr : regsOk y = true)
    {s1 : WS} {r : Nat → Int} (ha : st.act i y (regsOf t) dr = some (s1, some r)) : st.run P n dr = s1.put i ((k : Int) + 1) r := by
  have hk := (List.getElem?_eq_some_iff.1 hy).1
  rw [run_head hid hl hi h2 h0 hp h1 (by omega) hg, if_neg (by omega), hy]
  dsimp only
  rw [if_neg (by rw [hm]; decide), if_neg (by rw [hr]; decide), ha]
theorem run_wait (hid : st.line.getD (n % (st.line.length : Int)).toNat 0 = (i : Int)) (hl : st.line ≠ []) (hi : st.ts[i]? = some (t, d, [])) (h2 : t 2 = 0) (h0 : t 0 = (pi : Int)) (hp : P[pi]? = some p) (h1 : t 1 = (k : Int)) (hg : progB p = true) {y : Ins} (hy : p[k]? = some y) (hm : mineB y.1.1 = false) (hr : regsOk y = true)
    {s1 : WS} (ha : st.act i y (regsOf t) dr = some (s1, none)) : st.run P n dr = s1.park i y := by
  have hk := (List.getElem?_eq_some_iff.1 hy).1
  rw [run_head hid hl hi h2 h0 hp h1 (by omega) hg, if_neg (by omega), hy]
  dsimp only
  rw [if_neg (by rw [hm]; decide), if_neg (by rw [hr]; decide), ha]
theorem put_eq (hi : st.ts[i]? = some (t, d, [])) (h2 : t 2 = 0) (pc : Int) (r : Nat → Int) : st.put i pc r = some { st with ts := st.ts.set i (putT t pc r, d, []) } := by
  unfold WS.put
  rw [hi]
  dsimp only
  rw [if_pos ⟨h2, rfl⟩]
theorem park_eq (hi : st.ts[i]? = some (t, d, [])) (h2 : t 2 = 0) {y : Ins} (hg : goodB y 1 = true) (hop : y.1.1 = 10 ∨ y.1.1 = 11 ∨ y.1.1 = 15) (hev : st.ev.length < 1000) : st.park i y = some { st with ts := st.ts.set i (parkT t y.1.1 y.1.2.1 y.1.2.2.1 y.1.2.2.2, y.2.2.2, y.2.2.1), line := st.line.erase (i : Int), ev := st.ev ++ [((st.steps : Int), 2, (i : Int), 0, 0, 0)] } := by
  unfold WS.park
  rw [hi]
  dsimp only
  rw [if_pos ⟨h2, rfl, hg, hop⟩]
  unfold WS.tellO
  dsimp only
  rw [if_neg (by omega)]
  rfl
end
theorem run_idle' {P : List (List Ins)} {st : WS} {n dr : Int} (h : st.line = []) : st.run P n dr = some st := by
  unfold WS.run; rw [h]
theorem step_run {P : List (List Ins)} {st s1 : WS} {n d : Int} (hf : st.few = true) (h : ({ st with ev := [] } : WS).run P n d = some s1) (hs : s1.steps < 10000) (he : s1.ev.length ≤ 1000000) : st.step P (1, n, d) = some { s1 with steps := s1.steps + 1 } := by
  unfold WS.step
  rw [hf, if_neg (by decide)]
  dsimp only
  rw [if_pos rfl, h]
  dsimp only
  rw [if_neg (by omega)]
theorem step_adv {P : List (List Ins)} {st s1 : WS} {n : Int} (hf : st.few = true) (hn : 0 ≤ n) (h : ({ st with ev := [], now := addT st.now n } : WS).fires 9 = some s1) (hs : s1.steps < 10000) (he : s1.ev.length ≤ 1000000) : st.step P (2, n, 0) = some { s1 with steps := s1.steps + 1 } := by
  unfold WS.step
  rw [hf, if_neg (by decide)]
  dsimp only
  rw [if_neg (by decide), if_pos ⟨rfl, hn, rfl⟩, h]
  dsimp only
  rw [if_neg (by omega)]
theorem step_bad {P : List (List Ins)} {st : WS} {k n d : Int} (hf : st.few = true) (hb : entryOk k n d = false) (hs : st.steps < 10000) : st.step P (k, n, d) = some { st with ev := [((st.steps : Int), 8, 0, 0, 0, 0)], steps := st.steps + 1 } := by
  unfold WS.step
  rw [hf, if_neg (by decide)]
  dsimp only
  have h1 : ¬ k = 1 := fun e => by subst e; simp [entryOk] at hb
  have h2 : ¬ (k = 2 ∧ 0 ≤ n ∧ d = 0) := fun ⟨a, b, c⟩ => by subst a; subst c; simp [entryOk] at hb; omega
  rw [if_neg h1, if_neg h2]
  dsimp only [WS.tell]
  rw [if_neg (by simp; omega)]
  rfl
def pT (d op : Int) : List Ins := [ins 1 1 d 0, ins op 0 1 2, ins 11 2 3 4, ins 16 5 0 0, ins 6 3 0 0, ins 6 5 0 0, ins 13 2 6 0, ins 6 6 0 0, ins 14 2 6 0, ins 6 6 0 0, ins 4 2 0 0]
/-- Groups of four that are as they must be. -/
def grp (d : Int) (tick : Bool) : Int → Bool → List Int → Prop
  | l, f, v :: y :: a :: b :: T => (l < v ∧ d ≤ v ∧ v ≤ y ∧ a = 0 ∧ b = 0 ∧ (f = true ∨ tick = true)) ∧ grp d tick v false T
  | _, _, _ => True
def lastG : Int → List Int → Int
  | _, v :: _ :: _ :: _ :: T => lastG v T
  | l, _ => l
theorem four_ind {motive : List Int → Prop} (h0 : motive []) (hs : ∀ v y a b T, T.length % 4 = 0 → motive T → motive (v :: y :: a :: b :: T)) : ∀ T : List Int, T.length % 4 = 0 → motive T
  | [], _ => h0
  | [_], h => by simp at h
  | [_, _], h => by simp at h
  | [_, _, _], h => by simp at h
  | v :: y :: a :: b :: T, h => hs v y a b T (by simp at h; omega) (four_ind h0 hs T (by simp at h; omega))
theorem grp_snoc {d : Int} {tick : Bool} {v y : Int} (hd : d ≤ v) (hy : v ≤ y) : ∀ T : List Int, T.length % 4 = 0 → ∀ l f, grp d tick l f T → lastG l T < v → ((T = [] ∧ f = true) ∨ tick = true) → grp d tick l f (T ++ [v, y, 0, 0]) ∧ lastG l (T ++ [v, y, 0, 0]) = v := by
  refine four_ind ?_ ?_
  · intro l f _ h1 h2
    refine ⟨⟨⟨h1, hd, hy, rfl, rfl, ?_⟩, trivial⟩, rfl⟩
    rcases h2 with ⟨_, h⟩ | h
    · exact .inl h
    · exact .inr h
  · intro a b c e T hT ih l f h h1 h2
    have h2' : tick = true := by rcases h2 with ⟨q, _⟩ | q; cases q; exact q
    obtain ⟨q1, q2⟩ := ih a false h.2 h1 (.inr h2')
    exact ⟨⟨h.1, q1⟩, q2⟩
theorem grp_part {d : Int} {tick : Bool} {p : List Int} (hp : p.length < 4) : ∀ T : List Int, T.length % 4 = 0 → ∀ l f, grp d tick l f T → grp d tick l f (T ++ p) := by
  refine four_ind ?_ ?_
  · intro l f _
    match p, hp with
    | [], _ => trivial
    | [_], _ => trivial
    | [_, _], _ => trivial
    | [_, _, _], _ => trivial
  · intro a b c e T hT ih l f h
    exact ⟨h.1, ih a false h.2⟩
theorem grp_last {d : Int} {tick : Bool} : ∀ T : List Int, T.length % 4 = 0 → ∀ l f, grp d tick l f T → T = [] ∨ d ≤ lastG l T := by
  refine four_ind ?_ ?_
  · intro l f _; exact .inl rfl
  · intro a b c e T hT ih l f h
    rcases ih a false h.2 with q | q
    · subst q; exact .inr h.1.2.1
    · exact .inr q
/-- Where the task is, and what it told. -/
def Stg (d : Int) (tick : Bool) (now : Int) (pc : Nat) (r : List Int) (T : List Int) (last : Int) : Prop :=
  ∃ T0 part : List Int, T = T0 ++ part ∧ T0.length % 4 = 0 ∧ grp d tick (-1) true T0 ∧
    ((pc = 2 ∧ part = [] ∧ last = lastG (-1) T0) ∨ (pc = 10 ∧ part = [] ∧ last = lastG (-1) T0) ∨
     (lastG (-1) T0 < last ∧ d ≤ last ∧ last ≤ now ∧ (T0 = [] ∨ tick = true) ∧
       ((pc = 3 ∧ part = [] ∧ r.getD 3 0 = last) ∨ (pc = 4 ∧ part = [] ∧ r.getD 3 0 = last ∧ last ≤ r.getD 5 0) ∨ (pc = 5 ∧ part = [last] ∧ last ≤ r.getD 5 0) ∨
        ∃ y, last ≤ y ∧ ((pc = 6 ∧ part = [last, y]) ∨ (pc = 7 ∧ part = [last, y] ∧ r.getD 6 0 = 0) ∨ (pc = 8 ∧ part = [last, y, 0]) ∨ (pc = 9 ∧ part = [last, y, 0] ∧ r.getD 6 0 = 0)))))
theorem Stg.later {d : Int} {tick : Bool} {now now' : Int} {pc : Nat} {r T : List Int} {last : Int} (h : Stg d tick now pc r T last) (hn : now ≤ now') : Stg d tick now' pc r T last := by
  obtain ⟨T0, part, h1, h2, h3, h4⟩ := h
  refine ⟨T0, part, h1, h2, h3, ?_⟩
  rcases h4 with q | q | ⟨q1, q2, q3, q4⟩
  · exact .inl q
  · exact .inr (.inl q)
  · exact .inr (.inr ⟨q1, q2, by omega, q4⟩)
theorem Stg.good {d : Int} {tick : Bool} {now : Int} {pc : Nat} {r T : List Int} {last : Int} (h : Stg d tick now pc r T last) : grp d tick (-1) true T := by
  obtain ⟨T0, part, rfl, h2, h3, h4⟩ := h
  refine grp_part ?_ T0 h2 _ _ h3
  rcases h4 with ⟨_, rfl, _⟩ | ⟨_, rfl, _⟩ | ⟨_, _, _, _, ⟨_, rfl, _⟩ | ⟨_, rfl, _⟩ | ⟨_, rfl, _⟩ | ⟨y, _, ⟨_, rfl⟩ | ⟨_, rfl, _⟩ | ⟨_, rfl⟩ | ⟨_, rfl, _⟩⟩⟩ <;> simp
/-- The timer and its channel. -/
def Tmi (d : Int) (tick : Bool) (now : Int) (q : List Int) (hp : List Hi) (per : Int → Option Int) (last : Int) : Prop :=
  ∃ top : Int, -1 ≤ last ∧ last ≤ top ∧ top ≤ now ∧ (q = [] ∨ ∃ v, q = [v] ∧ last < v ∧ d ≤ v ∧ v ≤ top ∧ (tick = false → last = -1)) ∧
    (hp = [] ∨ ∃ when' sq, hp = [(0, when', sq)] ∧ top < when' ∧ d ≤ when' ∧ (tick = false → top = -1) ∧ per 0 = some (if tick then d else 0))
def kindT (tick : Bool) : Int := if tick then 2 else 1
def chT (q : List Int) (rv : List Wt) : ChS := ⟨1, q, rv, [], true, false, false⟩
def TC (tick : Bool) (now : Int) (t : Nat → Int) (line : List Int) (q : List Int) (rv : List Wt) (hp : List Hi) (seq : Nat) (per : Int → Option Int) (steps : Nat) (ev : List Ev) : WS :=
  { ws0 with now := now, ts := [(t, false, [])], line := line, ch := Go.Proofs.YtcffplgimbbflaaGreat.upd (fun _ => none) 0 (some (chT q rv)), nch := 1, tm := [(kindT tick, 0, 0, 1)], named := 1, hp := hp, seq := seq, per := per, steps := steps, ev := ev }
def TB (now : Int) (pc : Int) (r : List Int) (steps : Nat) (ev : List Ev) : WS := { ws0 with now := now, ts := [(tkR 0 pc r, false, [])], steps := steps, ev := ev }
/-- What holds at each step. -/
def InvT (d : Int) (tick : Bool) (k : Nat) (st : WS) (T : List Int) : Prop :=
  (∃ now ev, 0 ≤ now ∧ now ≤ maxT ∧ T = [] ∧ (st = TB now 0 [0, 0, 0, 0, 0, 0, 0, 0] k ev ∨ st = TB now 1 [0, d, 0, 0, 0, 0, 0, 0] k ev)) ∨
  (∃ now pc r q hp seq per ev last, 0 ≤ now ∧ now ≤ maxT ∧ r.length = 8 ∧ r.getD 2 0 = 0 ∧ Stg d tick now pc r T last ∧ Tmi d tick now q hp per last ∧
    (st = TC tick now (tkR 0 (pc : Int) r) [0] q [] hp seq per k ev ∨ (pc = 2 ∧ q = [] ∧ st = TC tick now (tkW 0 2 r 11 2 3 4) [] [] [(0, 0, 0)] hp seq per k ev)))
theorem hid0 (n : Int) : ([0] : List Int).getD (n % (([0] : List Int).length : Int)).toNat 0 = ((0 : Nat) : Int) := by
  have : n % (([0] : List Int).length : Int) = 0 := Int.emod_one n
  rw [this]; rfl
theorem goodT (d : Int) (tick : Bool) : progB (pT d (if tick then 18 else 17)) = true := by cases tick <;> rfl
theorem fewT (tick : Bool) (now : Int) (t : Nat → Int) (line : List Int) (q : List Int) (rv : List Wt) (hp : List Hi) (seq : Nat) (per : Int → Option Int) (steps : Nat) (ev : List Ev) (h : rv.length ≤ 900) : (TC tick now t line q rv hp seq per steps ev).few = true := by
  unfold WS.few TC
  simp [List.range_succ, Go.Proofs.YtcffplgimbbflaaGreat.upd, chT]
  omega
section
variable {d : Int} {tick : Bool} {now : Int} {r : List Int} {q : List Int} {hp : List Hi} {seq : Nat} {per : Int → Option Int} {k : Nat} {ev : List Ev} {pc : Nat} (n dr : Int) (hk : k < 10000) (hr : r.length = 8)
include hk hr
theorem tc_own {y : Ins} {pc' : Nat} {r' : List Int} (hy : (pT d (if tick then 18 else 17))[pc]? = some y) (hm : mineB y.1.1 = true) (hr' : r'.length = 8) (ho : stepR y.1.1 y.1.2.1 y.1.2.2.1 pc (ofL r) now = ((pc' : Int), ofL r', false, 0, false)) :
    (TC tick now (tkR 0 pc r) [0] q [] hp seq per k ev).step [pT d (if tick then 18 else 17)] (1, n, dr) = some (TC tick now (tkR 0 pc' r') [0] q [] hp seq per (k + 1) []) := by
  have h := run_own (P := [pT d (if tick then 18 else 17)]) (st := { TC tick now (tkR 0 pc r) [0] q [] hp seq per k ev with ev := [] }) (n := n) (dr := dr) (i := 0) (pi := 0) (k := pc) (hid0 n) (by simp [TC]) (t := tkR 0 pc r) (d := false) rfl rfl rfl rfl rfl (goodT d tick) hy hm (by rw [regs_tkR hr]; exact ho)
  rw [put_tkR hr'] at h
  exact step_run (fewT _ _ _ _ _ _ _ _ _ _ _ (by simp)) h hk (by simp [TC])
theorem tc_tell {y : Ins} {pc' : Nat} {v : Int} {r' : List Int} (hy : (pT d (if tick then 18 else 17))[pc]? = some y) (hm : mineB y.1.1 = true) (hr' : r'.length = 8) (ho : stepR y.1.1 y.1.2.1 y.1.2.2.1 pc (ofL r) now = ((pc' : Int), ofL r', true, v, false)) :
    (TC tick now (tkR 0 pc r) [0] q [] hp seq per k ev).step [pT d (if tick then 18 else 17)] (1, n, dr) = some (TC tick now (tkR 0 pc' r') [0] q [] hp seq per (k + 1) [((k : Int), 1, 0, v, 0, 0)]) := by
  have h := run_tell (P := [pT d (if tick then 18 else 17)]) (st := { TC tick now (tkR 0 pc r) [0] q [] hp seq per k ev with ev := [] }) (n := n) (dr := dr) (i := 0) (pi := 0) (k := pc) (hid0 n) (by simp [TC]) (t := tkR 0 pc r) (d := false) rfl rfl rfl rfl rfl (goodT d tick) hy hm (by rw [regs_tkR hr]; exact ho) (by simp [TC])
  rw [put_tkR hr'] at h
  exact step_run (fewT _ _ _ _ _ _ _ _ _ _ _ (by simp)) h hk (by simp [TC])
theorem tc_act {y : Ins} {q' : List Int} {r' : List Int} (hy : (pT d (if tick then 18 else 17))[pc]? = some y) (hm : mineB y.1.1 = false) (hreg : regsOk y = true) (hr' : r'.length = 8) (ho : (TC tick now (tkR 0 pc r) [0] q [] hp seq per k []).act 0 y (ofL r) dr = some (TC tick now (tkR 0 pc r) [0] q' [] hp seq per k [], some (ofL r'))) :
    (TC tick now (tkR 0 pc r) [0] q [] hp seq per k ev).step [pT d (if tick then 18 else 17)] (1, n, dr) = some (TC tick now (tkR 0 (pc + 1 : Nat) r') [0] q' [] hp seq per (k + 1) []) := by
  have h := run_act (P := [pT d (if tick then 18 else 17)]) (st := TC tick now (tkR 0 pc r) [0] q [] hp seq per k []) (n := n) (dr := dr) (i := 0) (pi := 0) (k := pc) (hid0 n) (by simp [TC]) (t := tkR 0 pc r) (d := false) rfl rfl rfl rfl rfl (goodT d tick) hy hm hreg (by rw [regs_tkR hr]; exact ho)
  rw [put_eq (t := tkR 0 pc r) (d := false) rfl rfl, put_tkR hr'] at h
  exact step_run (fewT _ _ _ _ _ _ _ _ _ _ _ (by simp)) h hk (by simp [TC])
omit hk hr in
theorem tc_recv (h2 : r.getD 2 0 = 0) : (TC tick now (tkR 0 (2 : Nat) r) [0] [] [] hp seq per k []).act 0 (ins 11 2 3 4) (ofL r) dr = some (TC tick now (tkR 0 (2 : Nat) r) [0] [] [(0, 0, 0)] hp seq per k [], none) := by
  have e0 : ofL r (2 : Int).toNat = 0 := h2
  unfold WS.act WS.actChan WS.chan
  simp only [ins]
  rw [if_neg (by decide), if_neg (by decide), if_neg (by decide), if_neg (by decide), if_neg (by decide), if_pos (by decide), e0]
  simp [TC, upd_same, upd_upd, chT, WS.actRecv, ChS.recvR, ChS.recvS, ChS.waitS, ChS.waitR, ChS.mute, ChS.free, ChS.queue]
omit hk hr in
theorem tc_take (v : Int) (hr : r.length = 8) (h2 : r.getD 2 0 = 0) : (TC tick now (tkR 0 (2 : Nat) r) [0] [v] [] hp seq per k []).act 0 (ins 11 2 3 4) (ofL r) dr = some (TC tick now (tkR 0 (2 : Nat) r) [0] [] [] hp seq per k [], some (ofL (((r.set 3 v).set 4 0).set 4 1))) := by
  have e0 : ofL r (2 : Int).toNat = 0 := h2
  unfold WS.act WS.actChan WS.chan
  simp only [ins]
  rw [if_neg (by decide), if_neg (by decide), if_neg (by decide), if_neg (by decide), if_neg (by decide), if_pos (by decide), e0]
  rw [← updR_ofL _ 4 1 (by simp [hr]), ← updR_ofL _ 4 0 (by simp [hr]), ← updR_ofL _ 3 v (by simp [hr])]
  simp [TC, upd_same, upd_upd, chT, WS.actRecv, ChS.recvR, ChS.recvS, WS.take, WS.wakes, WS.wake, bitI]
/-- Nothing has come yet: it waits. -/
theorem tc_park (h2 : r.getD 2 0 = 0) : (TC tick now (tkR 0 (2 : Nat) r) [0] [] [] hp seq per k ev).step [pT d (if tick then 18 else 17)] (1, n, dr) = some (TC tick now (tkW 0 2 r 11 2 3 4) [] [] [(0, 0, 0)] hp seq per (k + 1) [((k : Int), 2, 0, 0, 0, 0)]) := by
  have h := run_wait (P := [pT d (if tick then 18 else 17)]) (st := TC tick now (tkR 0 (2 : Nat) r) [0] [] [] hp seq per k []) (n := n) (dr := dr) (i := 0) (pi := 0) (k := 2) (p := pT d (if tick then 18 else 17)) (y := ins 11 2 3 4) (hid0 n) (by simp [TC]) (t := tkR 0 (2 : Nat) r) (d := false) rfl rfl rfl rfl rfl (goodT d tick) rfl rfl rfl (by rw [regs_tkR hr]; exact tc_recv dr h2)
  rw [park_eq (t := tkR 0 (2 : Nat) r) (d := false) rfl rfl rfl (.inr (.inl rfl)) (by simp [TC]), park_tkR] at h
  exact step_run (fewT _ _ _ _ _ _ _ _ _ _ _ (by simp)) h hk (by simp [TC])
omit hr in
theorem tc_idle {rr : List Int} : (TC tick now (tkW 0 2 rr 11 2 3 4) [] [] [(0, 0, 0)] hp seq per k ev).step [pT d (if tick then 18 else 17)] (1, n, dr) = some (TC tick now (tkW 0 2 rr 11 2 3 4) [] [] [(0, 0, 0)] hp seq per (k + 1) []) :=
  step_run (fewT _ _ _ _ _ _ _ _ _ _ _ (by simp)) (run_idle' rfl) hk (by simp [TC])
end
/-- Nothing is due. -/
theorem fires_none {st : WS} {n : Nat} (h0 : 0 ≤ st.now) (h1 : st.now ≤ maxT) (h : ∀ x r, st.hp = x :: r → st.now < x.2.1) : st.fires (n + 1) = some st := by
  have : st.fire = some none := by
    unfold WS.fire
    rw [if_neg (by omega)]
    split
    · rfl
    · next x r hx => rw [if_pos (h x r hx)]
  unfold WS.fires
  rw [this]
theorem addT_le {a d : Int} (ha : 0 ≤ a) (ham : a ≤ maxT) (hd : 0 ≤ d) : a ≤ addT a d ∧ 0 ≤ addT a d ∧ addT a d ≤ maxT := by unfold addT heldT maxT at *; omega
theorem addT_ge {a d : Int} (ha : 0 ≤ a) (ham : a ≤ maxT) (hd : 0 ≤ d) (hd2 : d ≤ maxT) : d ≤ addT a d := by unfold addT heldT maxT at *; omega
/-- The timer is taken: it is due again behind now, or no more. -/
theorem take_t {d : Int} {tick : Bool} {now when' sq : Int} {seq : Nat} {per : Int → Option Int} (hp : per 0 = some (if tick then d else 0)) (hw : d ≤ when') (hn : when' ≤ now) :
    ∃ hp' seq' per', takeR [(0, when', sq)] seq per (0, when', sq) now = some (hp', seq', per') ∧ (hp' = [] ∨ ∃ w2 sq2, hp' = [(0, w2, sq2)] ∧ now < w2 ∧ tick = true ∧ per' 0 = some d) := by
  unfold takeR
  dsimp only
  rw [hp]
  have e1 : heapDel [((0 : Int), when', sq)] 0 = [] := by simp [heapDel]
  cases tick with
  | false => rw [if_neg (by simp), e1]; exact ⟨_, _, _, rfl, .inl rfl⟩
  | true =>
    simp only [if_true, Option.getD_some]
    by_cases h : 1 ≤ d ∧ now < nextT when' d now
    · rw [if_pos h, e1]
      simp only [heapDel, List.filter_nil, heapAdd]
      exact ⟨_, _, _, rfl, .inr ⟨_, _, rfl, h.2, by simp, by simp [putP, delP, fup]⟩⟩
    · rw [if_neg h, e1]; exact ⟨_, _, _, rfl, .inl rfl⟩
theorem fire_eq {st s : WS} {x : Hi} {r : List Hi} {i : Nat} {kind data : Int} {c : Nat} {gen : Int} {cc : ChS} {hp' : List Hi} {seq' : Nat} {per' : Int → Option Int} (h0 : 0 ≤ st.now) (h1 : st.now ≤ maxT) (hx : st.hp = x :: r) (hn : x.2.1 ≤ st.now) (hi : x.1 = (i : Int)) (ht : st.tm[i]? = some (kind, data, c, gen)) (hk : ¬ (kind = 3 ∨ kind = 4)) (hc : st.ch c = some cc)
    (htk : takeR st.hp st.seq st.per x st.now = some (hp', seq', per')) (hev : st.ev.length < 1000) (hw : ({ st with hp := hp', seq := seq', per := per', ch := Go.Proofs.YtcffplgimbbflaaGreat.upd st.ch c (some (cc.putS st.now)) }.tell 6 (-1) x.1 x.2.1 0).wakes (cc.putR st.now).1 = some s) : st.fire = some (some s) := by
  unfold WS.fire
  rw [if_neg (show ¬ (st.now < 0 ∨ maxT < st.now) by omega)]
  split
  · next e => rw [hx] at e; cases e
  · next x' r' e =>
    rw [hx] at e
    cases e
    rw [if_neg (show ¬ st.now < x.2.1 by omega), show x.1.toNat = i by omega, ht]
    dsimp only
    rw [if_neg hk, hc]
    dsimp only
    rw [htk]
    dsimp only
    rw [if_neg (show ¬ 1000 ≤ st.ev.length by omega), hw]
theorem kind_t (tick : Bool) : ¬ (kindT tick = 3 ∨ kindT tick = 4) := by cases tick <;> simp [kindT]
section
variable {tick : Bool} {now : Int} {q : List Int} {seq : Nat} {per : Int → Option Int} {k : Nat} {when' sq : Int} {hp' : List Hi} {seq' : Nat} {per' : Int → Option Int} (h0 : 0 ≤ now) (h1 : now ≤ maxT) (hn : when' ≤ now) (ht : takeR [(0, when', sq)] seq per (0, when', sq) now = some (hp', seq', per'))
include h0 h1 hn ht
/-- It fires, and nobody waits. -/
theorem fire_free {t : Nat → Int} {line : List Int} : (TC tick now t line q [] [(0, when', sq)] seq per k []).fire = some (some (TC tick now t line (if q.length < 1 then q ++ [now] else q) [] hp' seq' per' k [((k : Int), 6, -1, 0, when', 0)])) := by
  refine fire_eq (i := 0) h0 h1 (x := (0, when', sq)) (r := []) rfl hn rfl (kind := kindT tick) rfl (kind_t tick) (cc := chT q []) (by simp [TC, upd_same]) ht (by simp [TC]) ?_
  have e1 : (ChS.putR (chT q []) now).1 = [] := by simp [ChS.putR, chT]
  have e2 : ChS.putS (chT q []) now = chT (if q.length < 1 then q ++ [now] else q) [] := by
    unfold ChS.putS chT
    by_cases hq : q.length < 1 <;> simp [hq]
  simp only [TC]
  rw [e1, e2, upd_upd]
  rfl
/-- It fires, and the task goes on. -/
theorem fire_wait {r : List Int} (hr : r.length = 8) : (TC tick now (tkW 0 2 r 11 2 3 4) [] [] [(0, 0, 0)] [(0, when', sq)] seq per k []).fire = some (some (TC tick now (tkR 0 (3 : Nat) (((r.set 3 now).set 4 0).set 4 1)) [0] [] [] hp' seq' per' k [((k : Int), 6, -1, 0, when', 0), ((k : Int), 3, 0, 0, now, 1)])) := by
  refine fire_eq (i := 0) h0 h1 (x := (0, when', sq)) (r := []) rfl hn rfl (kind := kindT tick) rfl (kind_t tick) (cc := chT [] [(0, 0, 0)]) (by simp [TC, upd_same]) ht (by simp [TC]) ?_
  have e1 : (ChS.putR (chT [] [(0, 0, 0)]) now).1 = [(0, 0, now, true, false)] := by simp [ChS.putR, chT, wakeOf]
  have e2 : ChS.putS (chT [] [(0, 0, 0)]) now = chT [] [] := by simp [ChS.putS, chT]
  simp only [TC]
  rw [e1, e2, upd_upd]
  have hw : wakeT (toldT (tkW 0 2 r 11 2 3 4) [] 0 now true) = tkR 0 (3 : Nat) (((r.set 3 now).set 4 0).set 4 1) := by
    unfold toldT
    rw [if_neg (show ¬ (tkW 0 2 r 11 2 3 4) 12 = 15 by simp [tkW]), if_pos (show (tkW 0 2 r 11 2 3 4) 12 = 11 by simp [tkW])]
    rw [show ((tkW 0 2 r 11 2 3 4) 14).toNat = 3 by simp [tkW], show ((tkW 0 2 r 11 2 3 4) 15).toNat = 4 by simp [tkW], got_tkW 3 4 (by omega) (by omega) hr, wake_tkW]
    rfl
  have r3 : regs3 (tkW 0 2 r 11 2 3 4) = true := by simp [regs3, tkW, regB]
  have k2 : (tkW 0 2 r 11 2 3 4) 2 = 1 := by simp [tkW]
  have k1 : (tkW 0 2 r 11 2 3 4) 1 = 2 := by simp [tkW]
  have k12 : (tkW 0 2 r 11 2 3 4) 12 = 11 := by simp [tkW]
  simp [WS.tell, WS.wakes, WS.wake, WS.wake1, r3, k2, k1, k12, WS.cases, leaveF, WS.tellO, hw, bitI]
end
theorem fires_one {st s : WS} {n : Nat} (h : st.fire = some (some s)) (h0 : 0 ≤ s.now) (h1 : s.now ≤ maxT) (hno : ∀ x r, s.hp = x :: r → s.now < x.2.1) : st.fires (n + 2) = some s := by
  unfold WS.fires
  rw [h]
  exact fires_none h0 h1 hno
abbrev PT (d : Int) (tick : Bool) : List (List Ins) := [pT d (if tick then 18 else 17)]
section
variable {d : Int} {tick : Bool} {now : Int} {k : Nat} {ev : List Ev} (n dr : Int) (hk : k < 10000)
include hk
theorem tb_set : (TB now 0 [0, 0, 0, 0, 0, 0, 0, 0] k ev).step (PT d tick) (1, n, dr) = some (TB now 1 [0, d, 0, 0, 0, 0, 0, 0] (k + 1) []) := by
  have h := run_own (P := PT d tick) (st := TB now 0 [0, 0, 0, 0, 0, 0, 0, 0] k []) (n := n) (dr := dr) (i := 0) (pi := 0) (k := 0) (p := pT d (if tick then 18 else 17)) (y := ins 1 1 d 0) (hid0 n) (by simp [TB, ws0]) (t := tkR 0 0 [0, 0, 0, 0, 0, 0, 0, 0]) (d := false) rfl rfl rfl rfl rfl (goodT d tick) rfl rfl (pc := 1) (r := ofL [0, d, 0, 0, 0, 0, 0, 0]) (by rw [regs_tkR rfl]; show (((0 : Nat) : Int) + 1, updR (ofL [0, 0, 0, 0, 0, 0, 0, 0]) 1 d, false, 0, false) = _; rw [updR_ofL _ 1 d (by simp)]; rfl)
  rw [put_tkR rfl] at h
  exact step_run (st := TB now 0 [0, 0, 0, 0, 0, 0, 0, 0] k ev) rfl h hk (by simp [TB])
theorem tb_timer (h0 : 0 ≤ now) (h1 : now ≤ maxT) (hd : 1 ≤ d) : (TB now 1 [0, d, 0, 0, 0, 0, 0, 0] k ev).step (PT d tick) (1, n, dr) = some (TC tick now (tkR 0 (2 : Nat) [0, d, 0, 0, 0, 0, 0, 0]) [0] [] [] [(0, addT now d, 1)] 1 (putP (fun _ => none) 0 (perOf (kindT tick) d)) (k + 1) []) := by
  have ht : (TB now 1 [0, d, 0, 0, 0, 0, 0, 0] k []).timer (kindT tick) d = some (TC tick now (tkR 0 1 [0, d, 0, 0, 0, 0, 0, 0]) [0] [] [] [(0, addT now d, 1)] 1 (putP (fun _ => none) 0 (perOf (kindT tick) d)) k []) := by
    unfold WS.timer
    refine (if_neg ?_).trans rfl
    show ¬ (now < 0 ∨ maxT < now ∨ d < 1 ∨ 64 ≤ 0 ∨ 900 ≤ 0)
    omega
  have ha : (TB now 1 [0, d, 0, 0, 0, 0, 0, 0] k []).act 0 (ins (if tick then 18 else 17) 0 1 2) (ofL [0, d, 0, 0, 0, 0, 0, 0]) dr = some (TC tick now (tkR 0 1 [0, d, 0, 0, 0, 0, 0, 0]) [0] [] [] [(0, addT now d, 1)] 1 (putP (fun _ => none) 0 (perOf (kindT tick) d)) k [], some (ofL [0, d, 0, 0, 0, 0, 0, 0])) := by
    have e1 : (TB now 1 [0, d, 0, 0, 0, 0, 0, 0] k []).act 0 (ins (if tick then 18 else 17) 0 1 2) (ofL [0, d, 0, 0, 0, 0, 0, 0]) dr = (TB now 1 [0, d, 0, 0, 0, 0, 0, 0] k []).actTimer (kindT tick) (ins (if tick then 18 else 17) 0 1 2) (ofL [0, d, 0, 0, 0, 0, 0, 0]) := by cases tick <;> rfl
    rw [e1]
    unfold WS.actTimer
    rw [if_neg (show ¬ 90000 ≤ (TB now 1 [0, d, 0, 0, 0, 0, 0, 0] k []).nch by simp [TB, ws0, ws00])]
    rw [show ofL [0, d, 0, 0, 0, 0, 0, 0] (ins (if tick then 18 else 17) 0 1 2).1.2.2.1.toNat = d from rfl, ht]
    dsimp only
    rw [updR_ofL _ _ _ (by simp [ins]), updR_ofL _ _ _ (by simp [ins])]
    rfl
  have h := run_act (P := PT d tick) (st := TB now 1 [0, d, 0, 0, 0, 0, 0, 0] k []) (n := n) (dr := dr) (i := 0) (pi := 0) (k := 1) (p := pT d (if tick then 18 else 17)) (y := ins (if tick then 18 else 17) 0 1 2) (hid0 n) (by simp [TB, ws0]) (t := tkR 0 1 [0, d, 0, 0, 0, 0, 0, 0]) (d := false) rfl rfl rfl rfl rfl (goodT d tick) rfl (by cases tick <;> rfl) (by cases tick <;> rfl) (by rw [regs_tkR rfl]; exact ha)
  rw [put_eq (t := tkR 0 1 [0, d, 0, 0, 0, 0, 0, 0]) (d := false) rfl rfl, put_tkR rfl] at h
  exact step_run (st := TB now 1 [0, d, 0, 0, 0, 0, 0, 0] k ev) rfl h hk (by simp [TC])
end
theorem bad_of {a n dd : Int} (h1 : ¬ a = 1) (h2 : ¬ (a = 2 ∧ 0 ≤ n ∧ dd = 0)) : entryOk a n dd = false := by
  unfold entryOk
  cases q : (a == 1 || (a == 2 && decide (0 ≤ n) && dd == 0))
  · rfl
  · exfalso
    simp only [Bool.or_eq_true, Bool.and_eq_true, beq_iff_eq, decide_eq_true_eq] at q
    rcases q with q | q
    · exact h1 q
    · exact h2 ⟨q.1.1, q.1.2, q.2⟩
theorem getD_set_ne {r : List Int} {k j : Nat} {v : Int} (h : j ≠ k) : (r.set k v).getD j 0 = r.getD j 0 := by simp only [List.getD]; rw [List.getElem?_set_ne (Ne.symm h)]
theorem getD_set_self {r : List Int} {k : Nat} {v : Int} (h : k < r.length) : (r.set k v).getD k 0 = v := by simp [List.getD, h]
/-- The task's own steps. -/
theorem inv_run {d : Int} {tick : Bool} {now : Int} {pc : Nat} {r q : List Int} {hp : List Hi} {seq : Nat} {per : Int → Option Int} {k : Nat} {ev : List Ev} {last : Int} {T : List Int} (n dr : Int) (hk : k < 10000) (hd : 1 ≤ d) (h0 : 0 ≤ now) (h1 : now ≤ maxT) (hr : r.length = 8) (h2 : r.getD 2 0 = 0) (hs : Stg d tick now pc r T last) (ht : Tmi d tick now q hp per last) :
    ∃ s, (TC tick now (tkR 0 (pc : Int) r) [0] q [] hp seq per k ev).step (PT d tick) (1, n, dr) = some s ∧ InvT d tick (k + 1) s (T ++ toldL 0 s.ev) := by
  obtain ⟨T0, part, rfl, hT0, hg, hst⟩ := id hs
  have hlt : last ≤ now := by obtain ⟨top, _, a, b, _⟩ := ht; omega
  rcases hst with ⟨rfl, rfl, hl⟩ | ⟨rfl, rfl, hl⟩ | ⟨hl1, hl2, hl3, hl4, hst⟩
  · -- it receives
    obtain ⟨top, t1, t2, t3, t4, t5⟩ := ht
    rcases t4 with rfl | ⟨v, rfl, v1, v2, v3, v4⟩
    · refine ⟨_, tc_park n dr hk hr h2, .inr ⟨now, 2, r, [], hp, seq, per, _, last, h0, h1, hr, h2, ?_, ⟨top, t1, t2, t3, .inl rfl, t5⟩, .inr ⟨rfl, rfl, rfl⟩⟩⟩
      have : toldL 0 [((k : Int), 2, 0, 0, 0, 0)] = [] := by simp [toldL]
      simp only [TC]
      rw [this, List.append_nil]
      exact hs
    · refine ⟨_, tc_act n dr hk hr (pc := 2) (y := ins 11 2 3 4) rfl rfl rfl (by simp [hr]) (tc_take dr v hr h2), .inr ⟨now, 3, _, [], hp, seq, per, _, v, h0, h1, by simp [hr], ?_, ?_, ⟨top, by omega, v3, t3, .inl rfl, t5⟩, .inl rfl⟩⟩
      · rw [getD_set_ne (by omega), getD_set_ne (by omega), getD_set_ne (by omega)]; exact h2
      · refine ⟨T0, [], by simp [TC, toldL], hT0, hg, .inr (.inr ⟨by omega, v2, by omega, ?_, .inl ⟨rfl, rfl, ?_⟩⟩)⟩
        · cases tick with
          | true => exact .inr rfl
          | false =>
            left
            rcases grp_last T0 hT0 _ _ hg with e | e
            · exact e
            · have := v4 rfl; omega
        · rw [getD_set_ne (by omega), getD_set_ne (by omega), getD_set_self (by omega)]
  · -- back to where it receives
    refine ⟨_, tc_own n dr hk hr (y := ins 4 2 0 0) (pc' := 2) (r' := r) rfl rfl hr rfl, .inr ⟨now, 2, r, q, hp, seq, per, _, last, h0, h1, hr, h2, ⟨T0, [], by simp [TC, toldL], hT0, hg, .inl ⟨rfl, rfl, hl⟩⟩, ht, .inl rfl⟩⟩
  · rcases hst with ⟨rfl, rfl, e3⟩ | ⟨rfl, rfl, e3, e5⟩ | ⟨rfl, rfl, e5⟩ | ⟨y, hy, hst⟩
    · refine ⟨_, tc_own n dr hk hr (y := ins 16 5 0 0) (pc' := 4) (r' := r.set 5 now) rfl rfl (by simp [hr]) (by rw [← updR_ofL _ 5 now (by omega)]; rfl), .inr ⟨now, 4, _, q, hp, seq, per, _, last, h0, h1, by simp [hr], by rw [getD_set_ne (by omega)]; exact h2, ⟨T0, [], by simp [TC, toldL], hT0, hg, .inr (.inr ⟨hl1, hl2, hl3, hl4, .inr (.inl ⟨rfl, rfl, by rw [getD_set_ne (by omega)]; exact e3, by rw [getD_set_self (by omega)]; exact hl3⟩)⟩)⟩, ht, .inl rfl⟩⟩
    · refine ⟨_, tc_tell n dr hk hr (y := ins 6 3 0 0) (pc' := 5) (v := last) (r' := r) rfl rfl hr (by show (_, _, true, ofL r 3, false) = _; rw [show ofL r 3 = last from e3]; rfl), .inr ⟨now, 5, r, q, hp, seq, per, _, last, h0, h1, hr, h2, ⟨T0, [last], by simp [TC, toldL], hT0, hg, .inr (.inr ⟨hl1, hl2, hl3, hl4, .inr (.inr (.inl ⟨rfl, rfl, e5⟩))⟩)⟩, ht, .inl rfl⟩⟩
    · refine ⟨_, tc_tell n dr hk hr (y := ins 6 5 0 0) (pc' := 6) (v := r.getD 5 0) (r' := r) rfl rfl hr rfl, .inr ⟨now, 6, r, q, hp, seq, per, _, last, h0, h1, hr, h2, ⟨T0, [last, r.getD 5 0], by simp [TC, toldL], hT0, hg, .inr (.inr ⟨hl1, hl2, hl3, hl4, .inr (.inr (.inr ⟨_, e5, .inl ⟨rfl, rfl⟩⟩))⟩)⟩, ht, .inl rfl⟩⟩
    · have hz : ∀ (op : Int), op = 13 ∨ op = 14 → (pcx : Nat) → (TC tick now (tkR 0 (pcx : Int) r) [0] q [] hp seq per k []).act 0 (ins op 2 6 0) (ofL r) dr = some (TC tick now (tkR 0 (pcx : Int) r) [0] q [] hp seq per k [], some (ofL (r.set 6 0))) := by
        intro op hop pcx
        have e0 : ofL r (2 : Int).toNat = 0 := h2
        unfold WS.act WS.actChan WS.chan
        simp only [ins]
        rcases hop with rfl | rfl
        · rw [if_neg (by decide), if_neg (by decide), if_neg (by decide), if_neg (by decide), if_neg (by decide), if_pos (by decide), e0, ← updR_ofL _ 6 0 (by omega)]
          simp [TC, upd_same, chT, ChS.lenR]
        · rw [if_neg (by decide), if_neg (by decide), if_neg (by decide), if_neg (by decide), if_neg (by decide), if_pos (by decide), e0, ← updR_ofL _ 6 0 (by omega)]
          simp [TC, upd_same, chT, ChS.capR]
      rcases hst with ⟨rfl, rfl⟩ | ⟨rfl, rfl, e6⟩ | ⟨rfl, rfl⟩ | ⟨rfl, rfl, e6⟩
      · refine ⟨_, tc_act n dr hk hr (pc := 6) (y := ins 13 2 6 0) rfl rfl rfl (by simp [hr]) (hz 13 (.inl rfl) 6), .inr ⟨now, 7, _, q, hp, seq, per, _, last, h0, h1, by simp [hr], by rw [getD_set_ne (by omega)]; exact h2, ⟨T0, [last, y], by simp [TC, toldL], hT0, hg, .inr (.inr ⟨hl1, hl2, hl3, hl4, .inr (.inr (.inr ⟨y, hy, .inr (.inl ⟨rfl, rfl, by rw [getD_set_self (by omega)]⟩)⟩))⟩)⟩, ht, .inl rfl⟩⟩
      · refine ⟨_, tc_tell n dr hk hr (y := ins 6 6 0 0) (pc' := 8) (v := 0) (r' := r) rfl rfl hr (by show (_, _, true, ofL r 6, false) = _; rw [show ofL r 6 = 0 from e6]; rfl), .inr ⟨now, 8, r, q, hp, seq, per, _, last, h0, h1, hr, h2, ⟨T0, [last, y, 0], by simp [TC, toldL], hT0, hg, .inr (.inr ⟨hl1, hl2, hl3, hl4, .inr (.inr (.inr ⟨y, hy, .inr (.inr (.inl ⟨rfl, rfl⟩))⟩))⟩)⟩, ht, .inl rfl⟩⟩
      · refine ⟨_, tc_act n dr hk hr (pc := 8) (y := ins 14 2 6 0) rfl rfl rfl (by simp [hr]) (hz 14 (.inr rfl) 8), .inr ⟨now, 9, _, q, hp, seq, per, _, last, h0, h1, by simp [hr], by rw [getD_set_ne (by omega)]; exact h2, ⟨T0, [last, y, 0], by simp [TC, toldL], hT0, hg, .inr (.inr ⟨hl1, hl2, hl3, hl4, .inr (.inr (.inr ⟨y, hy, .inr (.inr (.inr ⟨rfl, rfl, by rw [getD_set_self (by omega)]⟩))⟩))⟩)⟩, ht, .inl rfl⟩⟩
      · obtain ⟨g1, g2⟩ := grp_snoc (v := last) (y := y) hl2 hy T0 hT0 (-1) true hg hl1 (by rcases hl4 with e | e; exact .inl ⟨e, rfl⟩; exact .inr e)
        refine ⟨_, tc_tell n dr hk hr (y := ins 6 6 0 0) (pc' := 10) (v := 0) (r' := r) rfl rfl hr (by show (_, _, true, ofL r 6, false) = _; rw [show ofL r 6 = 0 from e6]; rfl), .inr ⟨now, 10, r, q, hp, seq, per, _, last, h0, h1, hr, h2, ⟨T0 ++ [last, y, 0, 0], [], by simp [TC, toldL], by simp; omega, g1, .inr (.inl ⟨rfl, rfl, g2.symm⟩)⟩, ht, .inl rfl⟩⟩
/-- The clock goes on. -/
theorem inv_adv {d : Int} {tick : Bool} {now : Int} {pc : Nat} {r q : List Int} {hp : List Hi} {seq : Nat} {per : Int → Option Int} {k : Nat} {ev : List Ev} {last : Int} {T : List Int} (n : Int) (hn : 0 ≤ n) (hk : k < 10000) (hd : 1 ≤ d) (h0 : 0 ≤ now) (h1 : now ≤ maxT) (hr : r.length = 8) (h2 : r.getD 2 0 = 0) (hs : Stg d tick now pc r T last) (ht : Tmi d tick now q hp per last) {st : WS}
    (hst : st = TC tick now (tkR 0 (pc : Int) r) [0] q [] hp seq per k ev ∨ (pc = 2 ∧ q = [] ∧ st = TC tick now (tkW 0 2 r 11 2 3 4) [] [] [(0, 0, 0)] hp seq per k ev)) :
    ∃ s, st.step (PT d tick) (2, n, 0) = some s ∧ InvT d tick (k + 1) s (T ++ toldL 0 s.ev) := by
  obtain ⟨top, t1, t2, t3, t4, t5⟩ := ht
  obtain ⟨a1, a2, a3⟩ := addT_le h0 h1 hn
  obtain ⟨now', hnow⟩ : ∃ now', now' = addT now n := ⟨_, rfl⟩
  rw [← hnow] at a1 a2 a3
  have hs' := hs.later a1
  -- nothing is due
  have hquiet : (∀ x r', hp = x :: r' → now' < x.2.1) → ∃ s, st.step (PT d tick) (2, n, 0) = some s ∧ InvT d tick (k + 1) s (T ++ toldL 0 s.ev) := by
    intro hno
    have htm : Tmi d tick now' q hp per last := ⟨top, t1, t2, by omega, t4, t5⟩
    rcases hst with rfl | ⟨rfl, rfl, rfl⟩
    · refine ⟨_, step_adv (fewT _ _ _ _ _ _ _ _ _ _ _ (by simp)) hn (s1 := TC tick now' (tkR 0 (pc : Int) r) [0] q [] hp seq per k []) ?_ hk (by simp [TC]), .inr ⟨now', pc, r, q, hp, seq, per, [], last, a2, a3, hr, h2, by simpa [TC, toldL] using hs', htm, .inl rfl⟩⟩
      rw [hnow]
      exact fires_none (n := 8) (by show 0 ≤ addT now n; omega) (by show addT now n ≤ maxT; omega) (by rw [hnow] at hno; exact hno)
    · refine ⟨_, step_adv (fewT _ _ _ _ _ _ _ _ _ _ _ (by simp)) hn (s1 := TC tick now' (tkW 0 2 r 11 2 3 4) [] [] [(0, 0, 0)] hp seq per k []) ?_ hk (by simp [TC]), .inr ⟨now', 2, r, [], hp, seq, per, [], last, a2, a3, hr, h2, by simpa [TC, toldL] using hs', htm, .inr ⟨rfl, rfl, rfl⟩⟩⟩
      rw [hnow]
      exact fires_none (n := 8) (by show 0 ≤ addT now n; omega) (by show addT now n ≤ maxT; omega) (by rw [hnow] at hno; exact hno)
  rcases t5 with rfl | ⟨when', sq, rfl, w1, w2, w3, w4⟩
  · exact hquiet fun x r' e => by cases e
  · by_cases hdue : now' < when'
    · exact hquiet fun x r' e => by cases e; exact hdue
    · have hdue' : when' ≤ now' := by omega
      obtain ⟨hp', seq', per', htk, hp5⟩ := take_t (seq := seq) (sq := sq) w4 w2 hdue'
      have hnx : ∀ x r', hp' = x :: r' → now' < x.2.1 := fun x r' e => by
        rcases hp5 with rfl | ⟨u, v, rfl, hu, _⟩
        · cases e
        · cases e; exact hu
      have t5' : hp' = [] ∨ ∃ w sq, hp' = [(0, w, sq)] ∧ now' < w ∧ d ≤ w ∧ (tick = false → now' = -1) ∧ per' 0 = some (if tick then d else 0) := by
        rcases hp5 with e | ⟨u, v, e, hu, ht, hp⟩
        · exact .inl e
        · exact .inr ⟨u, v, e, hu, by omega, fun q => absurd (ht.symm.trans q) (by decide), by rw [ht]; exact hp⟩
      rcases hst with rfl | ⟨rfl, rfl, rfl⟩
      · have hf := fire_free (tick := tick) (q := q) (k := k) (t := tkR 0 (pc : Int) r) (line := [0]) a2 a3 hdue' htk
        refine ⟨_, step_adv (fewT _ _ _ _ _ _ _ _ _ _ _ (by simp)) hn (s1 := TC tick now' (tkR 0 (pc : Int) r) [0] (if q.length < 1 then q ++ [now'] else q) [] hp' seq' per' k [((k : Int), 6, -1, 0, when', 0)]) ?_ hk (by simp [TC]), .inr ⟨now', pc, r, (if q.length < 1 then q ++ [now'] else q), hp', seq', per', _, last, a2, a3, hr, h2, ?_, ⟨now', t1, by omega, Int.le_refl _, ?_, t5'⟩, .inl rfl⟩⟩
        · rw [hnow] at hf hnx a2 a3 ⊢
          exact fires_one (n := 7) hf a2 a3 hnx
        · have : toldL 0 [((k : Int), 6, -1, 0, when', 0)] = [] := by simp [toldL]
          simp only [TC]
          rw [this, List.append_nil]
          exact hs'
        · rcases t4 with rfl | ⟨v, rfl, v1, v2, v3, v4⟩
          · right
            exact ⟨now', rfl, by omega, by omega, Int.le_refl _, fun q => by have := w3 q; omega⟩
          · right
            exact ⟨v, rfl, v1, v2, by omega, v4⟩
      · have hf := fire_wait (tick := tick) (k := k) a2 a3 hdue' htk hr
        refine ⟨_, step_adv (fewT _ _ _ _ _ _ _ _ _ _ _ (by simp)) hn (s1 := TC tick now' (tkR 0 (3 : Nat) (((r.set 3 now').set 4 0).set 4 1)) [0] [] [] hp' seq' per' k [((k : Int), 6, -1, 0, when', 0), ((k : Int), 3, 0, 0, now', 1)]) ?_ hk (by simp [TC]), .inr ⟨now', 3, _, [], hp', seq', per', _, now', a2, a3, by simp [hr], ?_, ?_, ⟨now', by omega, Int.le_refl _, Int.le_refl _, .inl rfl, t5'⟩, .inl rfl⟩⟩
        · rw [hnow] at hf hnx a2 a3 ⊢
          exact fires_one (n := 7) hf a2 a3 hnx
        · rw [getD_set_ne (by omega), getD_set_ne (by omega), getD_set_ne (by omega)]; exact h2
        · have : toldL 0 [((k : Int), 6, -1, 0, when', 0), ((k : Int), 3, 0, 0, now', 1)] = [] := by simp [toldL]
          simp only [TC]
          rw [this, List.append_nil]
          obtain ⟨T0, part, rfl, hT0, hg, hst⟩ := hs
          rcases hst with ⟨_, rfl, hl⟩ | ⟨e, _⟩ | ⟨_, _, _, _, hst⟩
          · refine ⟨T0, [], rfl, hT0, hg, .inr (.inr ⟨by omega, by omega, Int.le_refl _, ?_, .inl ⟨rfl, rfl, ?_⟩⟩)⟩
            · cases tick with
              | true => exact .inr rfl
              | false =>
                left
                rcases grp_last T0 hT0 _ _ hg with e | e
                · exact e
                · have := w3 rfl; omega
            · rw [getD_set_ne (by omega), getD_set_ne (by omega), getD_set_self (by omega)]
          · cases e
          · exfalso
            rcases hst with ⟨e, _⟩ | ⟨e, _⟩ | ⟨e, _⟩ | ⟨y, _, ⟨e, _⟩ | ⟨e, _⟩ | ⟨e, _⟩ | ⟨e, _⟩⟩ <;> cases e
/-- Each entry keeps what holds. -/
theorem inv_step {d : Int} {tick : Bool} {k : Nat} {st : WS} {T : List Int} (hd : 1 ≤ d) (hd2 : d ≤ 1000) (hk : k < 10000) (h : InvT d tick k st T) (e : En) : ∃ s, st.step (PT d tick) e = some s ∧ InvT d tick (k + 1) s (T ++ toldL 0 s.ev) := by
  obtain ⟨a, n, dr⟩ := e
  have hbad : toldL 0 [((k : Int), 8, 0, 0, 0, 0)] = [] := by simp [toldL]
  rcases h with ⟨now, ev, h0, h1, rfl, hst⟩ | ⟨now, pc, r, q, hp, seq, per, ev, last, h0, h1, hr, h2, hs, ht, hst⟩
  · by_cases ha : a = 1
    · subst ha
      rcases hst with rfl | rfl
      · exact ⟨_, tb_set n dr hk, .inl ⟨now, [], h0, h1, by simp [TB, toldL], .inr rfl⟩⟩
      · refine ⟨_, tb_timer n dr hk h0 h1 hd, .inr ⟨now, 2, _, [], _, 1, _, [], -1, h0, h1, rfl, rfl, ⟨[], [], by simp [TC, toldL], rfl, trivial, .inl ⟨rfl, rfl, rfl⟩⟩, ⟨-1, Int.le_refl _, Int.le_refl _, by omega, .inl rfl, .inr ⟨_, _, rfl, ?_, ?_, fun _ => rfl, ?_⟩⟩, .inl rfl⟩⟩
        · have := addT_le h0 h1 (show 0 ≤ d by omega); omega
        · exact addT_ge h0 h1 (by omega) (by unfold maxT; omega)
        · cases tick <;> simp [putP, fup, perOf, kindT, maxT] <;> omega
    · by_cases hb : a = 2 ∧ 0 ≤ n ∧ dr = 0
      · obtain ⟨rfl, hn, rfl⟩ := hb
        obtain ⟨a1, a2, a3⟩ := addT_le h0 h1 hn
        rcases hst with rfl | rfl
        · exact ⟨_, step_adv rfl hn (s1 := TB (addT now n) 0 [0, 0, 0, 0, 0, 0, 0, 0] k []) (fires_none (n := 8) a2 a3 fun x r q => by cases q) hk (by simp [TB]), .inl ⟨_, [], a2, a3, by simp [TB, toldL], .inl rfl⟩⟩
        · exact ⟨_, step_adv rfl hn (s1 := TB (addT now n) 1 [0, d, 0, 0, 0, 0, 0, 0] k []) (fires_none (n := 8) a2 a3 fun x r q => by cases q) hk (by simp [TB]), .inl ⟨_, [], a2, a3, by simp [TB, toldL], .inr rfl⟩⟩
      · rcases hst with rfl | rfl
        · exact ⟨_, step_bad rfl (bad_of ha hb) hk, .inl ⟨now, [((k : Int), 8, 0, 0, 0, 0)], h0, h1, by simp [TB, toldL], .inl rfl⟩⟩
        · exact ⟨_, step_bad rfl (bad_of ha hb) hk, .inl ⟨now, [((k : Int), 8, 0, 0, 0, 0)], h0, h1, by simp [TB, toldL], .inr rfl⟩⟩
  · by_cases ha : a = 1
    · subst ha
      rcases hst with rfl | ⟨rfl, rfl, rfl⟩
      · exact inv_run n dr hk hd h0 h1 hr h2 hs ht
      · exact ⟨_, tc_idle n dr hk, .inr ⟨now, 2, r, [], hp, seq, per, [], last, h0, h1, hr, h2, by simpa [TC, toldL] using hs, ht, .inr ⟨rfl, rfl, rfl⟩⟩⟩
    · by_cases hb : a = 2 ∧ 0 ≤ n ∧ dr = 0
      · obtain ⟨rfl, hn, rfl⟩ := hb
        exact inv_adv n hn hk hd h0 h1 hr h2 hs ht hst
      · rcases hst with rfl | ⟨rfl, rfl, rfl⟩
        · refine ⟨_, step_bad (fewT _ _ _ _ _ _ _ _ _ _ _ (by simp)) (bad_of ha hb) hk, .inr ⟨now, pc, r, q, hp, seq, per, [((k : Int), 8, 0, 0, 0, 0)], last, h0, h1, hr, h2, ?_, ht, .inl rfl⟩⟩
          simp only [TC]
          rw [hbad, List.append_nil]
          exact hs
        · refine ⟨_, step_bad (fewT _ _ _ _ _ _ _ _ _ _ _ (by simp)) (bad_of ha hb) hk, .inr ⟨now, 2, r, [], hp, seq, per, [((k : Int), 8, 0, 0, 0, 0)], last, h0, h1, hr, h2, ?_, ht, .inr ⟨rfl, rfl, rfl⟩⟩⟩
          simp only [TC]
          rw [hbad, List.append_nil]
          exact hs
theorem inv_start (d : Int) (tick : Bool) : InvT d tick 0 ws0 [] := by
  refine .inl ⟨0, [], by omega, by unfold maxT; omega, rfl, .inl ?_⟩
  unfold TB ws0
  rw [show (newT 0 (fun _ => 0) : Nat → Int) = tkR 0 0 [0, 0, 0, 0, 0, 0, 0, 0] by
    have : (fun _ => 0 : Nat → Int) = ofL [0, 0, 0, 0, 0, 0, 0, 0] := by
      funext j; unfold ofL
      rcases (show j = 0 ∨ j = 1 ∨ j = 2 ∨ j = 3 ∨ j = 4 ∨ j = 5 ∨ j = 6 ∨ j = 7 ∨ 8 ≤ j by omega) with rfl | rfl | rfl | rfl | rfl | rfl | rfl | rfl | h <;> try rfl
      simp [List.getD, List.getElem?_eq_none (show ([0, 0, 0, 0, 0, 0, 0, 0] : List Int).length ≤ j by simpa using h)]
    rw [this, new_tkR]]
  rfl
/-- What is told is as it must be; the channel has neither room nor value. -/
theorem InvT.good {d : Int} {tick : Bool} {k : Nat} {st : WS} {T : List Int} (h : InvT d tick k st T) : grp d tick (-1) true T ∧ (st.nch = 0 ∨ (st.nch = 1 ∧ ∃ q rv, st.ch 0 = some (chT q rv))) := by
  rcases h with ⟨now, ev, h0, h1, rfl, hst⟩ | ⟨now, pc, r, q, hp, seq, per, ev, last, h0, h1, hr, h2, hs, ht, hst⟩
  · exact ⟨trivial, .inl (by rcases hst with rfl | rfl <;> rfl)⟩
  · refine ⟨hs.good, .inr ?_⟩
    rcases hst with rfl | ⟨rfl, rfl, rfl⟩
    · exact ⟨rfl, q, [], by simp [TC, upd_same]⟩
    · exact ⟨rfl, [], [(0, 0, 0)], by simp [TC, upd_same]⟩
theorem len_nil (w : World) : Calls Tryz.prog 16 #[.pointer none] w fun e w' => e = .returned (inV 0) ∧ w = w' := by
  go_enter Tryz.func16, Tryz.ntmps16
  go_wp2_with fail
  go_ret
  exact ⟨rfl, rfl⟩
theorem cap_nil (w : World) : Calls Tryz.prog 17 #[.pointer none] w fun e w' => e = .returned (inV 0) ∧ w = w' := by
  go_enter Tryz.func17, Tryz.ntmps17
  go_wp2_with fail
  go_ret
  exact ⟨rfl, rfl⟩
theorem world_chan_no {w : World} {F : Nat → Nat → Prop} {c : Cfg} {P : Pg} {st : WS} {nd nm : Nat} (h : WP H0 w F c P st nd nm) (hd : Int) (h0 : 0 ≤ hd) (hn : (st.nch : Int) ≤ hd) : Calls Tryz.prog 32 #[ptV c.wb, inV hd] w fun e w' => e = .returned (.tuple #[.pointer none, .bool false]) ∧ w = w' := by
  have hb := h.blk id
  have hs := h.chs id
  obtain ⟨A, cp, hvc⟩ := hs.slice
  have c3 := blk_cell hb 3 rfl
  rw [hvc] at c3
  have e0 : ¬ hd < 0 := by omega
  have e1 : (hd == -1) = false := by simp; omega
  clear h hb hs hvc
  go_enter Tryz.func32, Tryz.ntmps32
  go_wp2_with fail
  go_ret2
  exact ⟨rfl, rfl⟩
/-- A handle's channel; none. -/
theorem world_chanAt {w : World} {S : Nat → Prop} {wb : Nat} {P : Pg} {st : WS} {nd nm : Nat} (h : WAt w S wb P st nd nm) (i : Nat) (hi : i < st.nch) : Calls Tryz.prog 15 #[ptV wb, inV (i : Int)] w fun e w' => e = .returned (ptV (P.2 i)) ∧ w = w' := by
  obtain ⟨F, c, h, rfl, hS⟩ := h
  have Hc := Lib.hid (world_channel h (i : Int) (some i) (by unfold WS.chan; rw [if_neg (by omega)]; simp))
  have he := Lib.hid (show Value.pointer (pa c.B (some i)) = ptV (P.2 i) by rw [← h.pad.2.2 i hi]; rfl)
  clear h hS
  go_enter Tryz.func15, Tryz.ntmps15
  go_wp2_with fail
  refine Hc.out.mono ?_
  rintro e _ ⟨rfl, rfl⟩
  rw [he.out]
  go_wp2_with fail
  go_ret
  exact ⟨rfl, rfl⟩
theorem world_chanNo {w : World} {S : Nat → Prop} {wb : Nat} {P : Pg} {st : WS} {nd nm : Nat} (h : WAt w S wb P st nd nm) (i : Nat) (hi : st.nch ≤ i) : Calls Tryz.prog 15 #[ptV wb, inV (i : Int)] w fun e w' => e = .returned (.pointer none) ∧ w = w' := by
  obtain ⟨F, c, h, rfl, hS⟩ := h
  have Hc := Lib.hid (world_chan_no h (i : Int) (by omega) (by omega))
  clear h hS
  go_enter Tryz.func15, Tryz.ntmps15
  go_wp2_with fail
  refine Hc.out.mono ?_
  rintro e _ ⟨rfl, rfl⟩
  go_wp2_with fail
  go_ret
  exact ⟨rfl, rfl⟩
theorem WAt.len {w : World} {S : Nat → Prop} {wb : Nat} {P : Pg} {st : WS} {nd nm : Nat} (h : WAt w S wb P st nd nm) {i : Nat} {c : ChS} (hi : st.ch i = some c) (hn : i < st.nch) (n : Nat) (hl : c.lenR = n) : Calls Tryz.prog 16 #[ptV (P.2 i)] w fun e w' => e = .returned (inV (n : Int)) ∧ w = w' := by
  obtain ⟨F, c', h, rfl, hS⟩ := h
  rw [← h.pad.2.2 i hn]
  exact pool_len (h.pool id) i hi n hl
theorem WAt.cap {w : World} {S : Nat → Prop} {wb : Nat} {P : Pg} {st : WS} {nd nm : Nat} (h : WAt w S wb P st nd nm) {i : Nat} {c : ChS} (hi : st.ch i = some c) (hn : i < st.nch) (n : Nat) (hl : c.capR = n) : Calls Tryz.prog 17 #[ptV (P.2 i)] w fun e w' => e = .returned (inV (n : Int)) ∧ w = w' := by
  obtain ⟨F, c', h, rfl, hS⟩ := h
  rw [← h.pad.2.2 i hn]
  exact pool_cap (h.pool id) i hi n hl
end Go.Proofs.YtcffplgimbbflaaGreat
