/- Who waits on a channel, from outside; what two laws need. -/
import Derived.Test.YtcffplgimbbflaaGreatSlQ25
set_option linter.unusedVariables false
set_option linter.unusedSimpArgs false
namespace Go.Proofs.YtcffplgimbbflaaGreat
open Go.RowKit
set_option maxRecDepth 100000
/-- Numbers in a row, and nothing behind them. -/
def ofL (l : List Int) : Nat → Int := fun j => l.getD j 0
/-- A task that can run; one that waits; one that ended. -/
def tkR (pg pc : Int) (r : List Int) : Nat → Int := fun j => if j = 0 then pg else if j = 1 then pc else if j < 4 then 0 else if j < 12 then r.getD (j - 4) 0 else 0
def tkW (pg pc : Int) (r : List Int) (op a b c : Int) : Nat → Int := fun j => if j = 0 then pg else if j = 1 then pc else if j = 2 then 1 else if j < 4 then 0 else if j < 12 then r.getD (j - 4) 0 else if j = 12 then op else if j = 13 then a else if j = 14 then b else if j = 15 then c else 0
theorem new_tkR {pg : Int} {r : List Int} : newT pg (ofL r) = tkR pg 0 r := by
  funext j
  unfold newT tkR ofL
  by_cases e0 : j = 0
  · simp [e0]
  · rw [if_neg e0, if_neg e0]
    by_cases e2 : 4 ≤ j ∧ j < 12
    · rw [if_pos e2, if_neg (by omega), if_neg (by omega), if_pos e2.2]
    · rw [if_neg e2]
      by_cases e1 : j = 1
      · rw [if_pos e1]
      · rw [if_neg e1]
        by_cases e3 : j < 4
        · rw [if_pos e3]
        · rw [if_neg e3, if_neg (by omega)]
theorem wake_tkW {pg pc : Int} {r : List Int} {op a b c : Int} : wakeT (tkW pg pc r op a b c) = tkR pg (pc + 1) r := by
  funext j
  unfold wakeT updT tkR tkW
  by_cases h : j < 16
  · rcases (show j = 0 ∨ j = 1 ∨ j = 2 ∨ j = 3 ∨ (4 ≤ j ∧ j < 12) ∨ j = 12 ∨ j = 13 ∨ j = 14 ∨ j = 15 by omega) with rfl | rfl | rfl | rfl | ⟨h1, h2⟩ | rfl | rfl | rfl | rfl <;> try simp
    repeat (first | rw [if_neg (by omega)] | rw [if_pos (by omega)])
  · repeat (rw [if_neg (by omega)])
/-- A task is told while it waits. -/
theorem upd_tkW {pg pc : Int} {r : List Int} {op a b c v : Int} (k : Nat) (hk : k < 8) (hr : r.length = 8) : updT (tkW pg pc r op a b c) (4 + k) v = tkW pg pc (r.set k v) op a b c := by
  funext j
  unfold updT tkW
  by_cases e : j = 4 + k
  · subst e
    rw [if_pos rfl, if_neg (by omega), if_neg (by omega), if_neg (by omega), if_neg (by omega), if_pos (by omega), show 4 + k - 4 = k by omega]
    simp [List.getD, hr, hk]
  · rw [if_neg e]
    by_cases h : 4 ≤ j ∧ j < 12
    · have : (r.set k v).getD (j - 4) 0 = r.getD (j - 4) 0 := by simp only [List.getD]; rw [List.getElem?_set_ne (by omega)]
      rw [this]
    · by_cases e0 : j = 0
      · simp [e0]
      · by_cases e1 : j = 1
        · simp [e1]
        · by_cases e2 : j = 2
          · simp [e2]
          · by_cases e3 : j < 4
            · simp only [if_neg e0, if_neg e1, if_neg e2, if_pos e3]
            · simp only [if_neg e0, if_neg e1, if_neg e2, if_neg e3, if_neg (show ¬ j < 12 by omega)]
theorem got_tkW {pg pc : Int} {r : List Int} {op a b c v : Int} (B C : Nat) (hB : B < 8) (hC : C < 8) (hr : r.length = 8) : gotT (tkW pg pc r op a b c) B C v true = tkW pg pc (((r.set B v).set C 0).set C 1) op a b c := by
  unfold gotT
  rw [if_pos rfl, upd_tkW B hB hr, upd_tkW C hC (by simp [hr]), upd_tkW C hC (by simp [hr])]
section
variable {P : List (List Ins)} {st s : WS} {n dr : Int} {i : Nat} {t : Nat → Int} {d : Bool} {pi k : Nat} {p : List Ins}
/-- An instruction of its own. -/
theorem run_head (hid : st.line.getD (n % (st.line.length : Int)).toNat 0 = (i : Int)) (hl : st.line ≠ []) (hi : st.ts[i]? = some (t, d, [])) (h2 : t 2 = 0) (h0 : t 0 = (pi : Int)) (hp : P[pi]? = some p) (h1 : t 1 = (k : Int)) (hk : k ≤ p.length) (hg : progB p = true) :
    st.run P n dr = (if t 1 = p.length then
          (match st.endT i 0 with
            | none => none
            | some s => s.tellO 4 i 0 0 0)
        else match p[k]? with
          | none => none
          | some y =>
            if mineB y.1.1 then
              (let o := stepR y.1.1 y.1.2.1 y.1.2.2.1 k (regsOf t) st.now
              match st.put i o.1 o.2.1 with
              | none => none
              | some s =>
                match (if o.2.2.1 then s.tellO 1 i o.2.2.2.1 0 0 else some s) with
                | none => none
                | some s => if o.2.2.2.2 then (match s.endT i 0 with
                  | none => none
                  | some s => s.tellO 4 i 0 0 0) else some s)
            else if regsOk y = false then none else match st.act i y (regsOf t) dr with
              | none => none
              | some (s, none) => s.park i y
              | some (s, some r) => s.put i ((k : Int) + 1) r) := by
  unfold WS.run
  split
  · next e => exact absurd e hl
  · dsimp only
    rw [hid, if_neg (by omega), show ((i : Int)).toNat = i by omega, hi]
    dsimp only
    rw [if_neg (by intro q; rcases q with q | q | q | q; omega; exact q h2; exact q rfl; omega), show (t 0).toNat = pi by omega, hp]
    dsimp only
    rw [if_neg (by intro q; rcases q with q | q; rw [hg] at q; cases q; omega), show (t 1).toNat = k by omega, h1]
    rfl
theorem run_own (hid : st.line.getD (n % (st.line.length : Int)).toNat 0 = (i : Int)) (hl : st.line ≠ []) (hi : st.ts[i]? = some (t, d, [])) (h2 : t 2 = 0) (h0 : t 0 = (pi : Int)) (hp : P[pi]? = some p) (h1 : t 1 = (k : Int)) (hg : progB p = true) {y : Ins} (hy : p[k]? = some y) (hm : mineB y.1.1 = true)
    {pc : Int} {r : Nat → Int} (ho : stepR y.1.1 y.1.2.1 y.1.2.2.1 k (regsOf t) st.now = (pc, r, false, 0, false)) : st.run P n dr = some { st with ts := st.ts.set i (putT t pc r, d, []) } := by
  have hk := (List.getElem?_eq_some_iff.1 hy).1
  rw [run_head hid hl hi h2 h0 hp h1 (by omega) hg, if_neg (by omega), hy]
  dsimp only
  rw [if_pos hm, ho]
  dsimp only [WS.put]
  rw [hi]
  dsimp only
  rw [if_pos ⟨h2, rfl⟩]
  rfl
theorem run_tell (hid : st.line.getD (n % (st.line.length : Int)).toNat 0 = (i : Int)) (hl : st.line ≠ []) (hi : st.ts[i]? = some (t, d, [])) (h2 : t 2 = 0) (h0 : t 0 = (pi : Int)) (hp : P[pi]? = some p) (h1 : t 1 = (k : Int)) (hg : progB p = true) {y : Ins} (hy : p[k]? = some y) (hm : mineB y.1.1 = true)
    {pc v : Int} {r : Nat → Int} (ho : stepR y.1.1 y.1.2.1 y.1.2.2.1 k (regsOf t) st.now = (pc, r, true, v, false)) (hev : st.ev.length < 1000) : st.run P n dr = some { st with ts := st.ts.set i (putT t pc r, d, []), ev := st.ev ++ [((st.steps : Int), 1, (i : Int), v, 0, 0)] } := by
  have hk := (List.getElem?_eq_some_iff.1 hy).1
  rw [run_head hid hl hi h2 h0 hp h1 (by omega) hg, if_neg (by omega), hy]
  dsimp only
  rw [if_pos hm, ho]
  dsimp only [WS.put]
  rw [hi]
  dsimp only
  rw [if_pos ⟨h2, rfl⟩]
  dsimp only
  rw [if_pos rfl]
  unfold WS.tellO
  dsimp only
  rw [if_neg (by omega)]
  rfl
theorem run_act (hid : st.line.getD (n % (st.line.length : Int)).toNat 0 = (i : Int)) (hl : st.line ≠ []) (hi : st.ts[i]? = some (t, d, [])) (h2 : t 2 = 0) (h0 : t 0 = (pi : Int)) (hp : P[pi]? = some p) (h1 : t 1 = (k : Int)) (hg : progB p = true) {y : Ins} (hy : p[k]? = some y) (hm : mineB y.1.1 = false) (hr : regsOk y = true)
    {s1 : WS} {r : Nat → Int} (ha : st.act i y (regsOf t) dr = some (s1, some r)) : st.run P n dr = s1.put i ((k : Int) + 1) r := by
  have hk := (List.getElem?_eq_some_iff.1 hy).1
  rw [run_head hid hl hi h2 h0 hp h1 (by omega) hg, if_neg (by omega), hy]
  dsimp only
  rw [if_neg (by rw [hm]; decide), if_neg (by rw [hr]; decide), ha]
theorem run_wait (hid : st.line.getD (n % (st.line.length : Int)).toNat 0 = (i : Int)) (hl : st.line ≠ []) (hi : st.ts[i]? = some (t, d, [])) (h2 : t 2 = 0) (h0 : t 0 = (pi : Int)) (hp : P[pi]? = some p) (h1 : t 1 = (k : Int)) (hg : progB p = true) {y : Ins} (hy : p[k]? = some y) (hm : mineB y.1.1 = false) (hr : regsOk y = true)
    {s1 : WS} (ha : st.act i y (regsOf t) dr = some (s1, none)) : st.run P n dr = s1.park i y := by
  have hk := (List.getElem?_eq_some_iff.1 hy).1
  rw [run_head hid hl hi h2 h0 hp h1 (by omega) hg, if_neg (by omega), hy]
  dsimp only
  rw [if_neg (by rw [hm]; decide), if_neg (by rw [hr]; decide), ha]
theorem run_end (hid : st.line.getD (n % (st.line.length : Int)).toNat 0 = (i : Int)) (hl : st.line ≠ []) (hi : st.ts[i]? = some (t, d, [])) (h2 : t 2 = 0) (h0 : t 0 = (pi : Int)) (hp : P[pi]? = some p) (h1 : t 1 = (p.length : Int)) (hg : progB p = true) (hev : st.ev.length < 1000) :
    st.run P n dr = some { st with ts := st.ts.set i (endT t 0, false, []), line := st.line.erase (i : Int), ev := st.ev ++ [((st.steps : Int), 4, (i : Int), 0, 0, 0)] } := by
  rw [run_head hid hl hi h2 h0 hp h1 (Nat.le_refl _) hg, if_pos h1]
  dsimp only [WS.endT]
  rw [hi]
  dsimp only
  rw [if_neg (by intro q; rcases q with q | q; omega; exact q rfl)]
  dsimp only
  unfold WS.tellO
  dsimp only
  rw [if_neg (by omega)]
  rfl
theorem park_eq (hi : st.ts[i]? = some (t, d, [])) (h2 : t 2 = 0) {y : Ins} (hg : goodB y 1 = true) (hop : y.1.1 = 10 ∨ y.1.1 = 11 ∨ y.1.1 = 15) (hev : st.ev.length < 1000) : st.park i y = some { st with ts := st.ts.set i (parkT t y.1.1 y.1.2.1 y.1.2.2.1 y.1.2.2.2, y.2.2.2, y.2.2.1), line := st.line.erase (i : Int), ev := st.ev ++ [((st.steps : Int), 2, (i : Int), 0, 0, 0)] } := by
  unfold WS.park
  rw [hi]
  dsimp only
  rw [if_pos ⟨h2, rfl, hg, hop⟩]
  unfold WS.tellO
  dsimp only
  rw [if_neg (by omega)]
  rfl
end
theorem step_run {P : List (List Ins)} {st s1 : WS} {n d : Int} (hf : st.few = true) (h : ({ st with ev := [] } : WS).run P n d = some s1) (hs : s1.steps < 10000) (he : s1.ev.length ≤ 1000000) : st.step P (1, n, d) = some { s1 with steps := s1.steps + 1 } := by
  unfold WS.step
  rw [hf, if_neg (by decide)]
  dsimp only
  rw [if_pos rfl, h]
  dsimp only
  rw [if_neg (by omega)]
theorem step_adv {P : List (List Ins)} {st s1 : WS} {n : Int} (hf : st.few = true) (hn : 0 ≤ n) (h : ({ st with ev := [], now := addT st.now n } : WS).fires 9 = some s1) (hs : s1.steps < 10000) (he : s1.ev.length ≤ 1000000) : st.step P (2, n, 0) = some { s1 with steps := s1.steps + 1 } := by
  unfold WS.step
  rw [hf, if_neg (by decide)]
  dsimp only
  rw [if_neg (by decide), if_pos ⟨rfl, hn, rfl⟩, h]
  dsimp only
  rw [if_neg (by omega)]
def stripI (y : Ins) : Ins := (y.1, .slice none 0 0, y.2.2)
def stripP (P : List (List Ins)) : List (List Ins) := P.map fun p => p.map stripI
theorem progB_strip (p : List Ins) : progB (p.map stripI) = progB p := by
  unfold progB
  rw [List.length_map, List.all_map]
  rfl
theorem run_strip (P : List (List Ins)) (st : WS) (n d : Int) : st.run (stripP P) n d = st.run P n d := by
  unfold WS.run
  split
  · rfl
  · dsimp only
    split
    · rfl
    · split
      · rfl
      · next t df cs ht =>
        split
        · rfl
        · rw [stripP, List.getElem?_map]
          cases hp : P[(t 0).toNat]? with
          | none => rfl
          | some p =>
            simp only [Option.map_some]
            rw [progB_strip, List.length_map, List.getElem?_map]
            split
            · rfl
            · split
              · rfl
              · cases hy : p[(t 1).toNat]? with
                | none => rfl
                | some y => rfl
theorem step_strip (P : List (List Ins)) (st : WS) (e : En) : st.step (stripP P) e = st.step P e := by
  unfold WS.step
  dsimp only
  rw [run_strip]
theorem SameP.strip {P L : List (List Ins)} (h : SameP P L) : stripP L = stripP P := by
  refine List.ext_getElem? fun i => ?_
  unfold stripP
  rw [List.getElem?_map, List.getElem?_map]
  by_cases hi : i < P.length
  · obtain ⟨q, h1, h2, h3⟩ := h.2 i P[i] (List.getElem?_eq_getElem hi)
    rw [h1, List.getElem?_eq_getElem hi]
    simp only [Option.map_some]
    congr 1
    refine List.ext_getElem? fun j => ?_
    rw [List.getElem?_map, List.getElem?_map]
    by_cases hj : j < P[i].length
    · obtain ⟨y', k1, k2, k3, k4⟩ := h3 j P[i][j] (List.getElem?_eq_getElem hj)
      rw [k1, List.getElem?_eq_getElem hj]
      simp only [Option.map_some, stripI, k2, k3]
    · rw [List.getElem?_eq_none (by omega), List.getElem?_eq_none (by omega)]
  · rw [List.getElem?_eq_none (by rw [h.1]; omega), List.getElem?_eq_none (by omega)]
theorem SameP.step {P L : List (List Ins)} (h : SameP P L) (st : WS) (e : En) : st.step L e = st.step P e := by rw [← step_strip, h.strip, step_strip]
theorem SameP.plays {P L : List (List Ins)} (h : SameP P L) : ∀ (es : List En) (st : WS), Go.Proofs.YtcffplgimbbflaaGreat.plays L st es = Go.Proofs.YtcffplgimbbflaaGreat.plays P st es
  | [], st => rfl
  | e :: es, st => by
    unfold Go.Proofs.YtcffplgimbbflaaGreat.plays
    rw [h.step]
    cases st.step P e with
    | none => rfl
    | some s => simp only [SameP.plays h es s]
theorem SameP.mem {P L : List (List Ins)} (h : SameP P L) {q : List Ins} (hq : q ∈ L) {y' : Ins} (hy : y' ∈ q) : ∃ p ∈ P, ∃ y ∈ p, SameI y y' := by
  obtain ⟨i, hi, rfl⟩ := List.mem_iff_getElem.1 hq
  have hiP : i < P.length := by rw [← h.1]; exact hi
  obtain ⟨q2, h1, h2, h3⟩ := h.2 i P[i] (List.getElem?_eq_getElem hiP)
  rw [List.getElem?_eq_getElem hi] at h1
  cases h1
  obtain ⟨j, hj, rfl⟩ := List.mem_iff_getElem.1 hy
  have hjP : j < P[i].length := by rw [← h2]; exact hj
  obtain ⟨y2, k1, k2⟩ := h3 j P[i][j] (List.getElem?_eq_getElem hjP)
  rw [List.getElem?_eq_getElem hj] at k1
  cases k1
  exact ⟨_, List.getElem_mem hiP, _, List.getElem_mem hjP, k2⟩
/-- What Step needs to know of programs. -/
theorem PgOk.same {K : Int → Prop} {P L : List (List Ins)} (h : SameP P L) (hk : ∀ p ∈ P, ∀ y ∈ p, mineB y.1.1 = true ∨ K y.1.1) (d : Int) : PgOk K L d := by
  refine ⟨fun q hq y' hy' hm => ?_⟩
  obtain ⟨p, hp, y, hy, e1, e2, _⟩ := h.mem hq hy'
  rcases hk p hp y hy with a | a
  · rw [e1, a] at hm; cases hm
  · rw [e1]; exact a
end Go.Proofs.YtcffplgimbbflaaGreat
