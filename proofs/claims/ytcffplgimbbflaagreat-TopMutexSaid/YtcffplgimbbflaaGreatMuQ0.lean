/- TopMutex answers true whatever its inputs are: no condition. -/
import Derived.Test.YtcffplgimbbflaaGreatTmQ21
set_option linter.unusedVariables false
set_option linter.unusedSimpArgs false
namespace Go.Proofs.YtcffplgimbbflaaGreat
open Go.RowKit
set_option maxRecDepth 100000
theorem notT_le (ws : List Wt) (t : Int) : (notT ws t).length ≤ ws.length := List.length_filter_le _ _
theorem RingAt.mem {w : World} {S : Nat → Prop} {b size : Nat} {q : List Int} (h : RingAt w S b size q) : S b ∧ b < w.heap.size := by
  obtain ⟨g, blk, f, n, hSb, hSg, hbg, hs, hb, hg, hsz, hq, hf, hc⟩ := h; exact ⟨hSb, lt_of_block hb⟩
theorem remove_few (t : Int) (m : Nat) (c : ChS) (h1 : c.rv.length ≤ m) (h2 : c.sd.length ≤ m) : (c.removeS t).rv.length ≤ m ∧ (c.removeS t).sd.length ≤ m :=
  ⟨Nat.le_trans (notT_le _ _) h1, Nat.le_trans (notT_le _ _) h2⟩
theorem CsOk.leave {x : Cs} (t : Int) : ∀ (l : List Cs) (P : Nat → Option ChS), CsOk P x → CsOk (leaveF t l P) x
  | [], _, h => h
  | y :: l, P, h => CsOk.leave t l _ (h.step _ _)
theorem Few.leave (t : Int) (m : Nat) : ∀ (l : List Cs) (P : Nat → Option ChS), Few P m → Few (leaveF t l P) m
  | [], _, h => h
  | y :: l, P, h => Few.leave t m l _ (h.step (Nat.le_refl m) (fun c => c.removeS t) (fun c a b => remove_few t m c a b) y.1)
/-- Two lists of whole numbers that read alike: true. -/
theorem alike_ints (w : World) (va vb : Value) (l : List Int) (ha : Rd w 1 va l.length (ints l)) (hb : Rd w 1 vb l.length (ints l)) :
    Calls Tryz.prog 14 #[va, vb] w fun e w' => e = .returned (.bool true) ∧ ∃ m, w' = w.drewN m := by
  obtain ⟨_, hl, A, ca, rfl, hca, hca2, hA⟩ := ha
  obtain ⟨_, _, B, cb, rfl, hcb, hcb2, hB⟩ := hb
  unfold maxLen at hl
  generalize hn : l.length = n at *
  have Hn := Lib.hid hn; clear hn
  have hnn : ((n : Int) != n) = false := by simp
  have HA := Lib.hid hA; have HB := Lib.hid hB; clear hA hB
  go_enter Tryz.func14, Tryz.ntmps14
  go_wp2
  go_loopw [5] (fun i wr => ∃ k m : Nat, k ≤ n ∧ i = .int .i64 k ∧ wr = w.drewN m) (fun i _ => n - (intOf i).toNat)
  case atStart => exact ⟨0, 0, Nat.zero_le _, rfl, rfl⟩
  case round =>
    obtain ⟨k, m, hk, rfl, rfl⟩ := hrel
    by_cases hlt : k < n
    · obtain ⟨g, o, rfl, hg, hc⟩ := HA.out (by omega)
      obtain ⟨g2, o2, rfl, hg2, hc2⟩ := HB.out (by omega)
      have h1 := hc k _ (ints_get (by rw [Hn.out]; exact hlt))
      have h2 := hc2 k _ (ints_get (by rw [Hn.out]; exact hlt))
      clear hc hc2
      generalize l.getD k 0 = x at *
      have hxx : (x != x) = false := by simp
      have hki : (k : Int) < (n : Int) := by omega
      go_wp2
      go_quiet (fail)
      go_wp2
      go_roundw
      case rel => exact ⟨k + 1, m + nq, by omega, by go_num, rfl⟩
      case measure => simp [intOf]; omega
    · go_wp2
      go_ret
      exact ⟨rfl, _, rfl⟩
theorem alike_ints_n (w : World) (va vb : Value) (l : List Int) (n : Nat) (hn : l.length = n) (ha : Rd w 1 va n (ints l)) (hb : Rd w 1 vb n (ints l)) :
    Calls Tryz.prog 14 #[va, vb] w fun e w' => e = .returned (.bool true) ∧ ∃ m, w' = w.drewN m := by
  subst hn; exact alike_ints w va vb l ha hb
open Go.ChangeShapes Go.WideShapes Go.ChangeAt Go.RowKit
section
variable {P : Program} {w : World} {e t : TypeId}
theorem flat_one {α : Type} (f : α → Value) : ∀ l : List α, l.flatMap (fun x => [f x]) = l.map f
  | [] => rfl
  | x :: l => by rw [List.flatMap_cons, flat_one f l]; rfl
end
/-- A slice of whole numbers that came in. -/
def IsInts (w : World) (v : Value) (l : List Int) : Prop := Rd w 1 v l.length (ints l) ∧ ∀ x ∈ l, (Lit.int .i64 x).wf = true
theorem opn_ints {H : Type} {enc : TypeId × Value → H} {W : World} {base : Nat} {v : Value} {d : DataW H} {p : List MemPlace} (hv : Value.okWide Tryz.prog W .any base 39 v) (h : DataW.Trod enc Tryz.prog W 0 (fun _ => true) true 39 v d p) : ∃ l, IsInts W v l := by
  obtain ⟨l, h1, h2⟩ := opn_slice (sz := 1) (fun x : Int => [.int .i64 x]) (fun x => (Lit.int .i64 x).wf = true) (by omega) Tryz.underlying39 (by kernel_rfl) (fun _ => rfl) (dec_int Tryz.underlying3) hv h
  exact ⟨l, by rw [flat_one] at h1; exact h1, h2⟩
/-- Entries in a row, and all that they tell. -/
def plays (P : List (List Ins)) : WS → List En → Option (WS × List Ev)
  | st, [] => some (st, [])
  | st, e :: es => match st.step P e with
    | none => none
    | some s => match plays P s es with
      | none => none
      | some (u, l) => some (u, s.ev ++ l)
theorem plays_cons {P : List (List Ins)} {st u : WS} {e : En} {es : List En} {l : List Ev} (h : plays P st (e :: es) = some (u, l)) : ∃ s l', st.step P e = some s ∧ plays P s es = some (u, l') ∧ l = s.ev ++ l' := by
  unfold plays at h
  split at h
  · cases h
  · next s hs =>
    split at h
    · cases h
    · next u' l' hp => cases h; exact ⟨s, l', hs, hp, rfl⟩
def runsE (n : Nat) : List En := (List.range n).map fun i : Nat => ((1 : Int), (i : Int), (0 : Int))
theorem runsE_drop {n k : Nat} (h : k < n) : (runsE n).drop k = (1, (k : Int), 0) :: (runsE n).drop (k + 1) := by
  unfold runsE
  rw [List.drop_eq_getElem_cons (by simpa using h)]
  simp
set_option maxHeartbeats 1000000 in
theorem top_many {KO : Int → Prop} (hD : DoC KO) {w : World} {S : Nat → Prop} {wb : Nat} {L : List (List Ins)} {B : Nat → Nat} {st s : WS} {l : List Ev} {nd nm : Nat} (h : WAt w S wb (L, B) st nd nm) (n : Nat) (hn : n ≤ 1000) (hok : PgOk KO L 0) (hp : plays L st (runsE n) = some (s, l)) (hl : l.length ≤ 1000000000) (hnd : nd + n * 10000 ≤ 80000000000) (hnm : nm + n * 10 < 600000) :
    Calls Tryz.prog 11 #[ptV wb, inV (n : Int)] w fun en w' => ∃ v, en = .returned v ∧ Gath w w' S wb L s v l (nd + n * 10000) (nm + n * 10) := by
  have Hp := Lib.hid hp; have Hok := Lib.hid hok; have Hh := Lib.hid (Gath.nil h)
  clear h hp hok
  go_enter Tryz.func11, Tryz.ntmps11
  go_wp2_with fail
  go_loopw [5, 6] (fun lv i wr => ∃ (k : Nat) (sk : WS) (lk lr : List Ev), k ≤ n ∧ i = .int .i64 k ∧ Hid (plays L sk ((runsE n).drop k) = some (s, lr) ∧ lk ++ lr = l ∧ Gath w wr S wb L sk lv lk (nd + k * 10000) (nm + k * 10))) (fun _ i _ => n - (intOf i).toNat)
  case atStart => exact ⟨0, st, [], l, Nat.zero_le _, rfl, Lib.hid ⟨Hp.out, rfl, by simpa using Hh.out⟩⟩
  case round =>
    rename_i lv iv
    obtain ⟨k, sk, lk, lr, hk, rfl, hr⟩ := hrel
    by_cases hlt : k < n
    · obtain ⟨hpl, hll, hg⟩ := hr.out
      rw [runsE_drop hlt] at hpl
      obtain ⟨s1, l', hs1, hp1, rfl⟩ := plays_cons hpl
      obtain ⟨B1, S1, T1, f1, a1, u1, e1, t1⟩ := hg
      have hki : (k : Int) < n := by omega
      have Hst := Lib.hid (world_steps hD a1 1 (k : Int) 0 Hok.out hs1 (by omega) (by omega))
      obtain ⟨Av, cv, rfl⟩ := e1.slice
      have hlen : lk.length + (s1.ev.length + l'.length) ≤ 1000000000 := by rw [← hll] at hl; simp at hl; omega
      have Hf1 := Lib.hid f1; have Hu1 := Lib.hid u1; have He1 := Lib.hid e1; have Ht1 := Lib.hid t1; have Hp1 := Lib.hid hp1; have Hll := Lib.hid hll
      clear hpl hll f1 a1 u1 e1 t1 hp1 hs1 hr
      go_wp2_with fail
      refine Hst.out.mono ?_
      rintro e w2 ⟨v2, rfl, hg2⟩
      have Hg2 := Lib.hid hg2
      obtain ⟨B2, S2, T2, f2, a2, u2, e2, t2⟩ := hg2
      have He2 := Lib.hid e2.rd
      have He1' := Lib.hid (He1.out.fr f2 fun q a b => (Ht1.out q a).2.2 b)
      clear f2 a2 u2 e2 t2
      go_wp2_with (at_builtin; refine wpList_append_rd _ rfl _ _ _ rfl T1 43 _ 6 48 Tryz.underlying34 Tryz.info_clone_evs rfl (by omega) (.slice Av lk.length cv) lk.length (evs lk) rfl He1'.out v2 s1.ev.length (evs s1.ev) rfl He2.out (evs_one _) (by omega) (by omega) ?_; intro v3 w3 hs3 hf3; have Hs3 := Lib.hid hs3; have Hf3 := Lib.hid hf3; clear hs3 hf3)
      go_roundw
      case rel =>
        refine ⟨k + 1, s1, lk ++ s1.ev, l', by omega, by go_num, Lib.hid ⟨Hp1.out, by rw [List.append_assoc]; exact Hll.out, ?_⟩⟩
        have q := Gath.join (l := lk) Hf1.out Hu1.out Ht1.out Hg2.out Hf3.out Hs3.out rfl
        rw [show nd + (k + 1) * 10000 = nd + k * 10000 + 10000 by omega, show nm + (k + 1) * 10 = nm + k * 10 + costN 1 by show _ = nm + k * 10 + 10; omega]
        exact q
      case measure => simp [intOf]; omega
    · obtain rfl : k = n := by omega
      go_wp2_with fail
      go_ret
      obtain ⟨hpl, hll, hg⟩ := hr.out
      rw [List.drop_of_length_le (by simp [runsE])] at hpl
      simp only [plays, Option.some.injEq, Prod.mk.injEq] at hpl
      obtain ⟨rfl, rfl⟩ := hpl
      rw [List.append_nil] at hll
      subst hll
      exact ⟨_, rfl, hg⟩
/-- Numbers in a row, and nothing behind them. -/
def ofL (l : List Int) : Nat → Int := fun j => l.getD j 0
theorem updR_ofL (l : List Int) (k : Nat) (v : Int) (h : k < l.length) : updR (ofL l) k v = ofL (l.set k v) := by
  funext j
  unfold updR ofL
  by_cases e : j = k
  · subst e; rw [if_pos rfl]; simp [List.getD, h]
  · rw [if_neg e]; simp only [List.getD, List.getElem?_set_ne (Ne.symm e)]
/-- A task that can run; one that waits; one that ended. -/
def tkR (pg pc : Int) (r : List Int) : Nat → Int := fun j => if j = 0 then pg else if j = 1 then pc else if j < 4 then 0 else if j < 12 then r.getD (j - 4) 0 else 0
def tkW (pg pc : Int) (r : List Int) (op a b c : Int) : Nat → Int := fun j => if j = 0 then pg else if j = 1 then pc else if j = 2 then 1 else if j < 4 then 0 else if j < 12 then r.getD (j - 4) 0 else if j = 12 then op else if j = 13 then a else if j = 14 then b else if j = 15 then c else 0
def tkO (pg pc : Int) (r : List Int) : Nat → Int := fun j => if j = 0 then pg else if j = 1 then pc else if j = 2 then 2 else if j < 4 then 0 else if j < 12 then r.getD (j - 4) 0 else 0
theorem regs_tkR {pg pc : Int} {r : List Int} (h : r.length = 8) : regsOf (tkR pg pc r) = ofL r := by
  funext j
  unfold regsOf tkR ofL
  rw [if_neg (by omega), if_neg (by omega), if_neg (by omega)]
  by_cases e : 4 + j < 12
  · rw [if_pos e, show 4 + j - 4 = j by omega]
  · rw [if_neg e]; simp [List.getD, List.getElem?_eq_none (show r.length ≤ j by omega)]
theorem put_tkR {pg pc pc' : Int} {r q : List Int} (h : q.length = 8) : putT (tkR pg pc r) pc' (ofL q) = tkR pg pc' q := by
  funext j
  unfold putT tkR ofL
  by_cases e0 : j = 0
  · subst e0; simp
  · by_cases e1 : j = 1
    · subst e1; simp
    · rw [if_neg e1, if_neg e0, if_neg e1, if_neg e0, if_neg e1]
      by_cases e2 : 4 ≤ j ∧ j < 12
      · rw [if_pos e2, if_neg (by omega), if_pos e2.2]
      · rw [if_neg e2]
        by_cases e3 : j < 4
        · rw [if_pos e3, if_pos e3]
        · rw [if_neg e3, if_neg e3, if_neg (by omega), if_neg (by omega)]
theorem new_tkR {pg : Int} {r : List Int} : newT pg (ofL r) = tkR pg 0 r := by
  funext j
  unfold newT tkR ofL
  by_cases e0 : j = 0
  · simp [e0]
  · rw [if_neg e0, if_neg e0]
    by_cases e2 : 4 ≤ j ∧ j < 12
    · rw [if_pos e2, if_neg (by omega), if_neg (by omega), if_pos e2.2]
    · rw [if_neg e2]
      by_cases e1 : j = 1
      · rw [if_pos e1]
      · rw [if_neg e1]
        by_cases e3 : j < 4
        · rw [if_pos e3]
        · rw [if_neg e3, if_neg (by omega)]
theorem park_tkR {pg pc : Int} {r : List Int} {op a b c : Int} : parkT (tkR pg pc r) op a b c = tkW pg pc r op a b c := by
  funext j
  unfold parkT updT tkR tkW
  by_cases h : j < 16
  · rcases (show j = 0 ∨ j = 1 ∨ j = 2 ∨ j = 3 ∨ (4 ≤ j ∧ j < 12) ∨ j = 12 ∨ j = 13 ∨ j = 14 ∨ j = 15 by omega) with rfl | rfl | rfl | rfl | ⟨h1, h2⟩ | rfl | rfl | rfl | rfl <;> try simp
    repeat (first | rw [if_neg (by omega)] | rw [if_pos (by omega)])
  · repeat (rw [if_neg (by omega)])
theorem wake_tkW {pg pc : Int} {r : List Int} {op a b c : Int} : wakeT (tkW pg pc r op a b c) = tkR pg (pc + 1) r := by
  funext j
  unfold wakeT updT tkR tkW
  by_cases h : j < 16
  · rcases (show j = 0 ∨ j = 1 ∨ j = 2 ∨ j = 3 ∨ (4 ≤ j ∧ j < 12) ∨ j = 12 ∨ j = 13 ∨ j = 14 ∨ j = 15 by omega) with rfl | rfl | rfl | rfl | ⟨h1, h2⟩ | rfl | rfl | rfl | rfl <;> try simp
    repeat (first | rw [if_neg (by omega)] | rw [if_pos (by omega)])
  · repeat (rw [if_neg (by omega)])
theorem end_tkR {pg pc : Int} {r : List Int} : endT (tkR pg pc r) 0 = tkO pg pc r := by
  funext j
  unfold endT updT tkR tkO
  by_cases h : j < 16
  · rcases (show j = 0 ∨ j = 1 ∨ j = 2 ∨ j = 3 ∨ (4 ≤ j ∧ j < 12) ∨ j = 12 ∨ j = 13 ∨ j = 14 ∨ j = 15 by omega) with rfl | rfl | rfl | rfl | ⟨h1, h2⟩ | rfl | rfl | rfl | rfl <;> try simp
    repeat (first | rw [if_neg (by omega)] | rw [if_pos (by omega)])
  · repeat (rw [if_neg (by omega)])
/-- A task is told while it waits. -/
theorem upd_tkW {pg pc : Int} {r : List Int} {op a b c v : Int} (k : Nat) (hk : k < 8) (hr : r.length = 8) : updT (tkW pg pc r op a b c) (4 + k) v = tkW pg pc (r.set k v) op a b c := by
  funext j
  unfold updT tkW
  by_cases e : j = 4 + k
  · subst e
    rw [if_pos rfl, if_neg (by omega), if_neg (by omega), if_neg (by omega), if_neg (by omega), if_pos (by omega), show 4 + k - 4 = k by omega]
    simp [List.getD, hr, hk]
  · rw [if_neg e]
    by_cases h : 4 ≤ j ∧ j < 12
    · have : (r.set k v).getD (j - 4) 0 = r.getD (j - 4) 0 := by simp only [List.getD]; rw [List.getElem?_set_ne (by omega)]
      rw [this]
    · by_cases e0 : j = 0
      · simp [e0]
      · by_cases e1 : j = 1
        · simp [e1]
        · by_cases e2 : j = 2
          · simp [e2]
          · by_cases e3 : j < 4
            · simp only [if_neg e0, if_neg e1, if_neg e2, if_pos e3]
            · simp only [if_neg e0, if_neg e1, if_neg e2, if_neg e3, if_neg (show ¬ j < 12 by omega)]
theorem got_tkW {pg pc : Int} {r : List Int} {op a b c v : Int} (B C : Nat) (hB : B < 8) (hC : C < 8) (hr : r.length = 8) : gotT (tkW pg pc r op a b c) B C v true = tkW pg pc (((r.set B v).set C 0).set C 1) op a b c := by
  unfold gotT
  rw [if_pos rfl, upd_tkW B hB hr, upd_tkW C hC (by simp [hr]), upd_tkW C hC (by simp [hr])]
section
variable {P : List (List Ins)} {st s : WS} {n dr : Int} {i : Nat} {t : Nat → Int} {d : Bool} {pi k : Nat} {p : List Ins}
/-- An instruction of its own. -/
theorem run_head (hid : st.line.getD (n % (st.line.length : Int)).toNat 0 = (i : Int)) (hl : st.line ≠ []) (hi : st.ts[i]? = some (t, d, [])) (h2 : t 2 = 0) (h0 : t 0 = (pi : Int)) (hp : P[pi]? = some p) (h1 : t 1 = (k : Int)) (hk : k ≤ p.length) (hg : progB p = true) :
    st.run P n dr = (if t 1 = p.length then
          (match st.endT i 0 with
            | none => none
            | some s => s.tellO 4 i 0 0 0)
        else match p[k]? with
          | none => none
          | some y =>
            if mineB y.1.1 then
              (let o := stepR y.1.1 y.1.2.1 y.1.2.2.1 k (regsOf t) st.now
              match st.put i o.1 o.2.1 with
              | none => none
              | some s =>
                match (if o.2.2.1 then s.tellO 1 i o.2.2.2.1 0 0 else some s) with
                | none => none
                | some s => if o.2.2.2.2 then (match s.endT i 0 with
                  | none => none
                  | some s => s.tellO 4 i 0 0 0) else some s)
            else if regsOk y = false then none else match st.act i y (regsOf t) dr with
              | none => none
              | some (s, none) => s.park i y
              | some (s, some r) => s.put i ((k : Int) + 1) r) := by
  unfold WS.run
  split
  · next e => exact absurd e hl
  · dsimp only
    rw [hid, if_neg (by omega), show ((i : Int)).toNat = i by omega, hi]
    dsimp only
    rw [if_neg (by intro q; rcases q with q | q | q | q; omega; exact q h2; exact q rfl; omega), show (t 0).toNat = pi by omega, hp]
    dsimp only
    rw [if_neg (by intro q; rcases q with q | q; rw [hg] at q; cases q; omega), show (t 1).toNat = k by omega, h1]
    rfl
theorem run_own (hid : st.line.getD (n % (st.line.length : Int)).toNat 0 = (i : Int)) (hl : st.line ≠ []) (hi : st.ts[i]? = some (t, d, [])) (h2 : t 2 = 0) (h0 : t 0 = (pi : Int)) (hp : P[pi]? = some p) (h1 : t 1 = (k : Int)) (hg : progB p = true) {y : Ins} (hy : p[k]? = some y) (hm : mineB y.1.1 = true)
    {pc : Int} {r : Nat → Int} (ho : stepR y.1.1 y.1.2.1 y.1.2.2.1 k (regsOf t) st.now = (pc, r, false, 0, false)) : st.run P n dr = some { st with ts := st.ts.set i (putT t pc r, d, []) } := by
  have hk := (List.getElem?_eq_some_iff.1 hy).1
  rw [run_head hid hl hi h2 h0 hp h1 (by omega) hg, if_neg (by omega), hy]
  dsimp only
  rw [if_pos hm, ho]
  dsimp only [WS.put]
  rw [hi]
  dsimp only
  rw [if_pos ⟨h2, rfl⟩]
  rfl
theorem run_tell (hid : st.line.getD (n % (st.line.length : Int)).toNat 0 = (i : Int)) (hl : st.line ≠ []) (hi : st.ts[i]? = some (t, d, [])) (h2 : t 2 = 0) (h0 : t 0 = (pi : Int)) (hp : P[pi]? = some p) (h1 : t 1 = (k : Int)) (hg : progB p = true) {y : Ins} (hy : p[k]? = some y) (hm : mineB y.1.1 = true)
    {pc v : Int} {r : Nat → Int} (ho : stepR y.1.1 y.1.2.1 y.1.2.2.1 k (regsOf t) st.now = (pc, r, true, v, false)) (hev : st.ev.length < 1000) : st.run P n dr = some { st with ts := st.ts.set i (putT t pc r, d, []), ev := st.ev ++ [((st.steps : Int), 1, (i : Int), v, 0, 0)] } := by
  have hk := (List.getElem?_eq_some_iff.1 hy).1
  rw [run_head hid hl hi h2 h0 hp h1 (by omega) hg, if_neg (by omega), hy]
  dsimp only
  rw [if_pos hm, ho]
  dsimp only [WS.put]
  rw [hi]
  dsimp only
  rw [if_pos ⟨h2, rfl⟩]
  dsimp only
  rw [if_pos rfl]
  unfold WS.tellO
  dsimp only
  rw [if_neg (by omega)]
  rfl
theorem run_act (hid : st.line.getD (n % (st.line.length : Int)).toNat 0 = (i : Int)) (hl : st.line ≠ []) (hi : st.ts[i]? = some (t, d, [])) (h2 : t 2 = 0) (h0 : t 0 = (pi : Int)) (hp : P[pi]? = some p) (h1 : t 1 = (k : Int)) (hg : progB p = true) {y : Ins} (hy : p[k]? = some y) (hm : mineB y.1.1 = false) (hr : regsOk y = true)
    {s1 : WS} {r : Nat → Int} (ha : st.act i y (regsOf t) dr = some (s1, some r)) : st.run P n dr = s1.put i ((k : Int) + 1) r := by
  have hk := (List.getElem?_eq_some_iff.1 hy).1
  rw [run_head hid hl hi h2 h0 hp h1 (by omega) hg, if_neg (by omega), hy]
  dsimp only
  rw [if_neg (by rw [hm]; decide), if_neg (by rw [hr]; decide), ha]
theorem run_wait (hid : st.line.getD (n % (st.line.length : Int)).toNat 0 = (i : Int)) (hl : st.line ≠ []) (hi : st.ts[i]? = some (t, d, [])) (h2 : t 2 = 0) (h0 : t 0 = (pi : Int)) (hp : P[pi]? = some p) (h1 : t 1 = (k : Int)) (hg : progB p = true) {y : Ins} (hy : p[k]? = some y) (hm : mineB y.1.1 = false) (hr : regsOk y = true)
    {s1 : WS} (ha : st.act i y (regsOf t) dr = some (s1, none)) : st.run P n dr = s1.park i y := by
  have hk := (List.getElem?_eq_some_iff.1 hy).1
  rw [run_head hid hl hi h2 h0 hp h1 (by omega) hg, if_neg (by omega), hy]
  dsimp only
  rw [if_neg (by rw [hm]; decide), if_neg (by rw [hr]; decide), ha]
theorem run_end (hid : st.line.getD (n % (st.line.length : Int)).toNat 0 = (i : Int)) (hl : st.line ≠ []) (hi : st.ts[i]? = some (t, d, [])) (h2 : t 2 = 0) (h0 : t 0 = (pi : Int)) (hp : P[pi]? = some p) (h1 : t 1 = (p.length : Int)) (hg : progB p = true) (hev : st.ev.length < 1000) :
    st.run P n dr = some { st with ts := st.ts.set i (endT t 0, false, []), line := st.line.erase (i : Int), ev := st.ev ++ [((st.steps : Int), 4, (i : Int), 0, 0, 0)] } := by
  rw [run_head hid hl hi h2 h0 hp h1 (Nat.le_refl _) hg, if_pos h1]
  dsimp only [WS.endT]
  rw [hi]
  dsimp only
  rw [if_neg (by intro q; rcases q with q | q; omega; exact q rfl)]
  dsimp only
  unfold WS.tellO
  dsimp only
  rw [if_neg (by omega)]
  rfl
theorem put_eq (hi : st.ts[i]? = some (t, d, [])) (h2 : t 2 = 0) (pc : Int) (r : Nat → Int) : st.put i pc r = some { st with ts := st.ts.set i (putT t pc r, d, []) } := by
  unfold WS.put
  rw [hi]
  dsimp only
  rw [if_pos ⟨h2, rfl⟩]
theorem park_eq (hi : st.ts[i]? = some (t, d, [])) (h2 : t 2 = 0) {y : Ins} (hg : goodB y 1 = true) (hop : y.1.1 = 10 ∨ y.1.1 = 11 ∨ y.1.1 = 15) (hev : st.ev.length < 1000) : st.park i y = some { st with ts := st.ts.set i (parkT t y.1.1 y.1.2.1 y.1.2.2.1 y.1.2.2.2, y.2.2.2, y.2.2.1), line := st.line.erase (i : Int), ev := st.ev ++ [((st.steps : Int), 2, (i : Int), 0, 0, 0)] } := by
  unfold WS.park
  rw [hi]
  dsimp only
  rw [if_pos ⟨h2, rfl, hg, hop⟩]
  unfold WS.tellO
  dsimp only
  rw [if_neg (by omega)]
  rfl
end
theorem run_idle' {P : List (List Ins)} {st : WS} {n dr : Int} (h : st.line = []) : st.run P n dr = some st := by
  unfold WS.run; rw [h]
theorem step_run {P : List (List Ins)} {st s1 : WS} {n d : Int} (hf : st.few = true) (h : ({ st with ev := [] } : WS).run P n d = some s1) (hs : s1.steps < 10000) (he : s1.ev.length ≤ 1000000) : st.step P (1, n, d) = some { s1 with steps := s1.steps + 1 } := by
  unfold WS.step
  rw [hf, if_neg (by decide)]
  dsimp only
  rw [if_pos rfl, h]
  dsimp only
  rw [if_neg (by omega)]
def cm0 (b : List Int) (q : List Wt) : ChS := ⟨1, b, q, [], false, false, false⟩
def cm1 (r s : List Wt) : ChS := ⟨0, [], r, s, false, false, false⟩
def chM (c0 c1 : ChS) : Nat → Option ChS := Go.Proofs.YtcffplgimbbflaaGreat.upd (Go.Proofs.YtcffplgimbbflaaGreat.upd (fun _ => none) 0 (some c0)) 1 (some c1)
theorem chM0 (c0 c1 : ChS) : chM c0 c1 0 = some c0 := rfl
theorem chM1 (c0 c1 : ChS) : chM c0 c1 1 = some c1 := rfl
theorem chM_set0 (c0 c1 c : ChS) : Go.Proofs.YtcffplgimbbflaaGreat.upd (chM c0 c1) 0 (some c) = chM c c1 := by
  funext j; unfold chM Go.Proofs.YtcffplgimbbflaaGreat.upd
  by_cases h : j = 0
  · subst h; rfl
  · rw [if_neg h, if_neg h]; by_cases h1 : j = 1
    · rw [if_pos h1, if_pos h1]
    · rw [if_neg h1, if_neg h1, if_neg h]
theorem chM_set1 (c0 c1 c : ChS) : Go.Proofs.YtcffplgimbbflaaGreat.upd (chM c0 c1) 1 (some c) = chM c0 c := by
  funext j; unfold chM Go.Proofs.YtcffplgimbbflaaGreat.upd
  by_cases h : j = 1
  · subst h; rfl
  · rw [if_neg h, if_neg h, if_neg h]
def MW (ts : List TkS) (line : List Int) (b : List Int) (q r s : List Wt) (k : Nat) (ev : List Ev) : WS :=
  { ws0 with ts := ts, line := line, ch := chM (cm0 b q) (cm1 r s), nch := 2, made := 2, steps := k, ev := ev }
theorem few_mw {ts : List TkS} {line b : List Int} {q r s : List Wt} {k : Nat} {ev : List Ev} (hq : q.length ≤ 900) (hr : r.length ≤ 900) (hs : s.length ≤ 900) : (MW ts line b q r s k ev).few = true := by
  unfold WS.few MW
  simp [List.range_succ, chM0, chM1, cm0, cm1]
  omega
theorem act_recvE {st : WS} {id : Nat} {y : Ins} {x : Nat → Int} {dr : Int} {ci : Nat} {c : ChS} (hop : y.1.1 = 11) (hc : st.chan (x y.1.2.1.toNat) = some (some ci)) (hcc : st.ch ci = some c) : st.act id y x dr = st.actRecv id ci c y.1.2.2.1.toNat y.1.2.2.2.toNat x := by
  unfold WS.act WS.actChan
  rw [hop, if_neg (by decide), if_neg (by decide), if_neg (by decide), if_neg (by decide), if_neg (by decide), if_pos (by decide), hc]
  dsimp only
  rw [hcc]
  rfl
theorem act_sendE {st : WS} {id : Nat} {y : Ins} {x : Nat → Int} {dr : Int} {ci : Nat} {c : ChS} (hop : y.1.1 = 10) (hc : st.chan (x y.1.2.1.toNat) = some (some ci)) (hcc : st.ch ci = some c) : st.act id y x dr = st.actSend id ci c (x y.1.2.2.1.toNat) x := by
  unfold WS.act WS.actChan
  rw [hop, if_neg (by decide), if_neg (by decide), if_neg (by decide), if_neg (by decide), if_neg (by decide), if_pos (by decide), hc]
  dsimp only
  rw [hcc]
  rfl
theorem chan_mw {ts : List TkS} {line b : List Int} {q r s : List Wt} {k : Nat} {ev : List Ev} {h : Int} (h0 : 0 ≤ h) (h1 : h < 2) : (MW ts line b q r s k ev).chan h = some (some h.toNat) := by
  unfold WS.chan
  rw [if_neg (by simp [MW]; omega)]
theorem actSend_hand {st s : WS} {id i : Nat} {c : ChS} {v : Int} {x : Nat → Int} {y : Wt} {l : List Wt} (h : c.rv = y :: l) (hm : c.mute = false) (hc : c.closed = false) (hw : ({ st with ch := Go.Proofs.YtcffplgimbbflaaGreat.upd st.ch i (some { c with rv := l }) } : WS).wakes [wakeOf y v true false] = some s) : st.actSend id i c v x = some (s, some x) := by
  have e1 : c.sendR v = (true, [wakeOf y v true false], 0) := by unfold ChS.sendR; rw [hm, hc, h]; rfl
  have e2 : c.sendS v = { c with rv := l } := by unfold ChS.sendS; rw [hm, hc, h]; rfl
  unfold WS.actSend
  rw [e1, e2, if_neg (by simp), if_pos rfl]
  dsimp only
  rw [hw]
theorem actRecv_from {st s : WS} {id i : Nat} {c : ChS} {b d : Nat} {x : Nat → Int} {y : Wt} {l : List Wt} (hq : c.q = []) (h : c.sd = y :: l) (hw : ({ st with ch := Go.Proofs.YtcffplgimbbflaaGreat.upd st.ch i (some { c with sd := l }) } : WS).wakes [wakeOf y 0 true false] = some s) : st.actRecv id i c b d x = some (s, some (updR (updR (updR x b y.2.2) d 0) d 1)) := by
  have e1 : c.recvR = (y.2.2, true, true, [wakeOf y 0 true false]) := by unfold ChS.recvR; rw [hq, h]
  have e2 : c.recvS = { c with sd := l } := by unfold ChS.recvS; rw [hq, h]
  unfold WS.actRecv
  rw [e1, e2, if_pos rfl]
  unfold WS.take
  rw [hw]
  rfl
/-- One that waits goes on. -/
theorem wake_one {st : WS} {j : Nat} {pg pc op a b c v : Int} {r : List Int} (hj : st.ts[j]? = some (tkW pg pc r op a b c, false, [])) (hop : op = 11 ∨ op = 10) (ha : regB a = true) (hb : regB b = true) (hc : regB c = true) (hl : (j : Int) ∉ st.line) (hll : st.line.length < 100000) (hpc : 0 ≤ pc ∧ pc ≤ 1000) (hr : r.length = 8) (hev : st.ev.length < 1000) :
    st.wakes [((j : Int), 0, v, true, false)] = some { st with ts := st.ts.set j (tkR pg (pc + 1) (if op = 11 then ((r.set b.toNat v).set c.toNat 0).set c.toNat 1 else r), false, []), line := st.line ++ [(j : Int)], ev := st.ev ++ [((st.steps : Int), 3, (j : Int), 0, v, 1)] } := by
  have t1 : tkW pg pc r op a b c 1 = pc := rfl
  have t2 : tkW pg pc r op a b c 2 = 1 := rfl
  have t12 : tkW pg pc r op a b c 12 = op := rfl
  have t13 : tkW pg pc r op a b c 13 = a := rfl
  have t14 : tkW pg pc r op a b c 14 = b := rfl
  have t15 : tkW pg pc r op a b c 15 = c := rfl
  have hB : b.toNat < 8 := by unfold regB at hb; simp at hb; omega
  have hC : c.toNat < 8 := by unfold regB at hc; simp at hc; omega
  have htold : toldT (tkW pg pc r op a b c) [] 0 v true = tkW pg pc (if op = 11 then ((r.set b.toNat v).set c.toNat 0).set c.toNat 1 else r) op a b c := by
    unfold toldT
    rw [t12, t14, t15, if_neg (by omega)]
    rcases hop with rfl | rfl
    · rw [if_pos rfl, if_pos rfl, got_tkW _ _ hB hC hr]
    · rw [if_neg (by decide), if_neg (by decide)]
  unfold WS.wakes
  rw [if_neg (by simp)]
  unfold WS.wake WS.wake WS.wake1
  dsimp only
  rw [if_neg (by omega), show ((j : Int)).toNat = j by omega, hj]
  dsimp only
  rw [if_neg (by simp), if_neg (by rw [t2]; decide), if_neg (by decide), if_neg (by unfold regs3; rw [t13, t14, t15, ha, hb, hc]; decide), if_neg (by rw [t12]; rcases hop with rfl | rfl <;> decide), if_neg (by intro q; rcases q with q | q; exact hl (by simpa using q); omega), if_neg (by rw [t1]; omega)]
  dsimp only [WS.cases]
  unfold WS.tellO
  dsimp only
  rw [if_neg (by omega)]
  dsimp only [leaveF]
  rw [htold, wake_tkW]
  rfl
section
variable {P : List (List Ins)} {ts : List TkS} {line b : List Int} {q r s : List Wt} {k : Nat} {ev : List Ev} {n dr : Int} {i pi pc : Nat} {x : List Int} {p : List Ins} {A B C : Int}
  (hid : line.getD (n % (line.length : Int)).toNat 0 = (i : Int)) (hl : line ≠ []) (hi : ts[i]? = some (tkR (pi : Int) (pc : Int) x, false, [])) (hp : P[pi]? = some p) (hg : progB p = true) (hx : x.length = 8) (hk : k < 10000) (hq : q.length ≤ 900) (hr : r.length ≤ 900) (hs : s.length ≤ 900)
include hid hl hi hp hg hx hk hq hr hs
theorem mw_own {y : Ins} {x' : List Int} (hy : p[pc]? = some y) (hm : mineB y.1.1 = true) (hx' : x'.length = 8) (ho : stepR y.1.1 y.1.2.1 y.1.2.2.1 pc (ofL x) 0 = (((pc + 1 : Nat) : Int), ofL x', false, 0, false)) :
    (MW ts line b q r s k ev).step P (1, n, dr) = some (MW (ts.set i (tkR (pi : Int) ((pc + 1 : Nat) : Int) x', false, [])) line b q r s (k + 1) []) := by
  have h := run_own (P := P) (st := MW ts line b q r s k []) (n := n) (dr := dr) (i := i) (pi := pi) (k := pc) hid hl hi rfl rfl hp rfl hg hy hm (by rw [regs_tkR hx]; exact ho)
  rw [put_tkR hx'] at h
  exact step_run (few_mw hq hr hs) h hk (by simp [MW])
theorem mw_tell {y : Ins} {v : Int} {x' : List Int} (hy : p[pc]? = some y) (hm : mineB y.1.1 = true) (hx' : x'.length = 8) (ho : stepR y.1.1 y.1.2.1 y.1.2.2.1 pc (ofL x) 0 = (((pc + 1 : Nat) : Int), ofL x', true, v, false)) :
    (MW ts line b q r s k ev).step P (1, n, dr) = some (MW (ts.set i (tkR (pi : Int) ((pc + 1 : Nat) : Int) x', false, [])) line b q r s (k + 1) [((k : Int), 1, (i : Int), v, 0, 0)]) := by
  have h := run_tell (P := P) (st := MW ts line b q r s k []) (n := n) (dr := dr) (i := i) (pi := pi) (k := pc) hid hl hi rfl rfl hp rfl hg hy hm (by rw [regs_tkR hx]; exact ho) (by simp [MW])
  rw [put_tkR hx'] at h
  exact step_run (few_mw hq hr hs) h hk (by simp [MW])
omit hx in
theorem mw_end (hpc : pc = p.length) :
    (MW ts line b q r s k ev).step P (1, n, dr) = some (MW (ts.set i (tkO (pi : Int) (pc : Int) x, false, [])) (line.erase (i : Int)) b q r s (k + 1) [((k : Int), 4, (i : Int), 0, 0, 0)]) := by
  have h := run_end (P := P) (st := MW ts line b q r s k []) (n := n) (dr := dr) (i := i) (pi := pi) hid hl hi rfl rfl hp (by show (pc : Int) = _; rw [hpc]) hg (by simp [MW])
  rw [end_tkR] at h
  exact step_run (few_mw hq hr hs) h hk (by simp [MW])
/-- What is done by a step that concerns others. -/
theorem mw_act {y : Ins} {x' : List Int} {ts' : List TkS} {line' b' : List Int} {q' r' s' : List Wt} {ev' : List Ev} (hy : p[pc]? = some y) (hm : mineB y.1.1 = false) (hreg : regsOk y = true) (hx' : x'.length = 8) (hi' : ts'[i]? = some (tkR (pi : Int) (pc : Int) x, false, [])) (hev : ev'.length ≤ 10)
    (ha : (MW ts line b q r s k []).act i y (ofL x) dr = some (MW ts' line' b' q' r' s' k ev', some (ofL x'))) :
    (MW ts line b q r s k ev).step P (1, n, dr) = some (MW (ts'.set i (tkR (pi : Int) ((pc + 1 : Nat) : Int) x', false, [])) line' b' q' r' s' (k + 1) ev') := by
  have h := run_act (P := P) (st := MW ts line b q r s k []) (n := n) (dr := dr) (i := i) (pi := pi) (k := pc) hid hl hi rfl rfl hp rfl hg hy hm hreg (by rw [regs_tkR hx]; exact ha)
  rw [put_eq (st := MW ts' line' b' q' r' s' k ev') (t := tkR (pi : Int) (pc : Int) x) (d := false) hi' rfl, show ((pc : Int) + 1) = ((pc + 1 : Nat) : Int) by omega, put_tkR hx'] at h
  exact step_run (few_mw hq hr hs) h hk (by simp [MW]; omega)
theorem mw_park {y : Ins} {q' r' s' : List Wt} (hy : p[pc]? = some y) (hm : mineB y.1.1 = false) (hreg : regsOk y = true) (hgd : goodB y 1 = true) (hop : y.1.1 = 10 ∨ y.1.1 = 11) (hcs : y.2.2.1 = []) (hdf : y.2.2.2 = false)
    (ha : (MW ts line b q r s k []).act i y (ofL x) dr = some (MW ts line b q' r' s' k [], none)) :
    (MW ts line b q r s k ev).step P (1, n, dr) = some (MW (ts.set i (tkW (pi : Int) (pc : Int) x y.1.1 y.1.2.1 y.1.2.2.1 y.1.2.2.2, false, [])) (line.erase (i : Int)) b q' r' s' (k + 1) [((k : Int), 2, (i : Int), 0, 0, 0)]) := by
  have h := run_wait (P := P) (st := MW ts line b q r s k []) (n := n) (dr := dr) (i := i) (pi := pi) (k := pc) hid hl hi rfl rfl hp rfl hg hy hm hreg (by rw [regs_tkR hx]; exact ha)
  rw [park_eq (st := MW ts line b q' r' s' k []) (t := tkR (pi : Int) (pc : Int) x) (d := false) hi rfl hgd (by rcases hop with q | q; exact .inl q; exact .inr (.inl q)) (by simp [MW]), hcs, hdf, park_tkR] at h
  exact step_run (few_mw hq hr hs) h hk (by simp [MW])
end
section
variable {ts : List TkS} {line b : List Int} {q r s : List Wt} {k : Nat} {dr : Int} {i : Nat} {x : List Int} {A B C v : Int}
/-- What the one channel has is taken. -/
theorem a_take0 (hA : ofL x A.toNat = 0) (hB : regB B = true) (hC : regB C = true) (hx : x.length = 8) : (MW ts line [v] q r s k []).act i (ins 11 A B C) (ofL x) dr = some (MW ts line [] q r s k [], some (ofL (((x.set B.toNat v).set C.toNat 0).set C.toNat 1))) := by
  have hB' : B.toNat < 8 := by unfold regB at hB; simp at hB; omega
  have hC' : C.toNat < 8 := by unfold regB at hC; simp at hC; omega
  rw [act_recvE (ci := 0) (c := cm0 [v] q) rfl (by show WS.chan _ (ofL x A.toNat) = _; rw [hA]; exact chan_mw (by decide) (by decide)) (chM0 _ (cm1 r s))]
  rw [← updR_ofL _ C.toNat 1 (by simp [hx, hC']), ← updR_ofL _ C.toNat 0 (by simp [hx, hC']), ← updR_ofL _ B.toNat v (by simp [hx, hB'])]
  simp [WS.actRecv, cm0, ChS.recvR, ChS.recvS, WS.take, WS.wakes, WS.wake, bitI, MW, chM_set0]
theorem a_wait0 (hA : ofL x A.toNat = 0) (ho : ∀ y ∈ q, y.1 ≠ (i : Int)) : (MW ts line [] q r s k []).act i (ins 11 A B C) (ofL x) dr = some (MW ts line [] (q ++ [((i : Int), 0, 0)]) r s k [], none) := by
  rw [act_recvE (ci := 0) (c := cm0 [] q) rfl (by show WS.chan _ (ofL x A.toNat) = _; rw [hA]; exact chan_mw (by decide) (by decide)) (chM0 _ (cm1 r s))]
  simp [WS.actRecv, cm0, ChS.recvR, ChS.recvS, ChS.waitS, ChS.waitR, ChS.mute, ChS.free, ChS.queue, MW, chM_set0]
theorem a_put0 (hA : ofL x A.toNat = 0) : (MW ts line [] [] r s k []).act i (ins 10 A B C) (ofL x) dr = some (MW ts line [ofL x B.toNat] [] r s k [], some (ofL x)) := by
  rw [act_sendE (ci := 0) (c := cm0 [] []) rfl (by show WS.chan _ (ofL x A.toNat) = _; rw [hA]; exact chan_mw (by decide) (by decide)) (chM0 _ (cm1 r s))]
  simp [WS.actSend, cm0, ChS.sendR, ChS.sendS, ChS.mute, WS.wakes, WS.wake, MW, chM_set0]
/-- Who waits for the one channel has it at once. -/
theorem a_hand0 (hA : ofL x A.toNat = 0) {j : Nat} {u pg op a' b' c' : Int} {pc : Nat} {z : List Int} (hj : ts[j]? = some (tkW pg (pc : Int) z op a' b' c', false, [])) (hop : op = 11) (ha : regB a' = true) (hb : regB b' = true) (hc : regB c' = true) (hl : (j : Int) ∉ line) (hll : line.length < 100000) (hpc : pc ≤ 1000) (hz : z.length = 8) :
    (MW ts line [] (((j : Int), 0, u) :: q) r s k []).act i (ins 10 A B C) (ofL x) dr = some (MW (ts.set j (tkR pg ((pc + 1 : Nat) : Int) (((z.set b'.toNat (ofL x B.toNat)).set c'.toNat 0).set c'.toNat 1), false, [])) (line ++ [(j : Int)]) [] q r s k [((k : Int), 3, (j : Int), 0, ofL x B.toNat, 1)], some (ofL x)) := by
  rw [act_sendE (ci := 0) (c := cm0 [] (((j : Int), 0, u) :: q)) rfl (by show WS.chan _ (ofL x A.toNat) = _; rw [hA]; exact chan_mw (by decide) (by decide)) (chM0 _ (cm1 r s))]
  have hw := wake_one (st := MW ts line [] q r s k []) (v := ofL x B.toNat) hj (.inl hop) ha hb hc hl hll ⟨by omega, by omega⟩ hz (by simp [MW])
  rw [if_pos hop, show ((pc : Int) + 1) = ((pc + 1 : Nat) : Int) by omega] at hw
  exact actSend_hand (c := cm0 [] (((j : Int), 0, u) :: q)) (l := q) rfl rfl rfl (by
    show WS.wakes { MW ts line [] (((j : Int), 0, u) :: q) r s k [] with ch := Go.Proofs.YtcffplgimbbflaaGreat.upd (chM (cm0 [] (((j : Int), 0, u) :: q)) (cm1 r s)) 0 (some (cm0 [] q)) } _ = _
    rw [chM_set0]; exact hw)
/-- The other channel: nobody is there. -/
theorem a_wait1 (hA : ofL x A.toNat = 1) (ho : ∀ y ∈ r, y.1 ≠ (i : Int)) : (MW ts line b q r [] k []).act i (ins 11 A B C) (ofL x) dr = some (MW ts line b q (r ++ [((i : Int), 0, 0)]) [] k [], none) := by
  rw [act_recvE (ci := 1) (c := cm1 r []) rfl (by show WS.chan _ (ofL x A.toNat) = _; rw [hA]; exact chan_mw (by decide) (by decide)) (chM1 (cm0 b q) _)]
  simp [WS.actRecv, cm1, ChS.recvR, ChS.recvS, ChS.waitS, ChS.waitR, ChS.mute, ChS.free, ChS.queue, MW, chM_set1]
theorem a_stay1 (hA : ofL x A.toNat = 1) : (MW ts line b q [] s k []).act i (ins 10 A B C) (ofL x) dr = some (MW ts line b q [] (s ++ [((i : Int), 0, ofL x B.toNat)]) k [], none) := by
  rw [act_sendE (ci := 1) (c := cm1 [] s) rfl (by show WS.chan _ (ofL x A.toNat) = _; rw [hA]; exact chan_mw (by decide) (by decide)) (chM1 (cm0 b q) _)]
  simp [WS.actSend, cm1, ChS.sendR, ChS.sendS, ChS.waitS, ChS.waitR, ChS.mute, ChS.free, ChS.queue, MW, chM_set1]
theorem a_hand1 (hA : ofL x A.toNat = 1) {j : Nat} {u pg op a' b' c' : Int} {pc : Nat} {z : List Int} (hj : ts[j]? = some (tkW pg (pc : Int) z op a' b' c', false, [])) (hop : op = 11) (ha : regB a' = true) (hb : regB b' = true) (hc : regB c' = true) (hl : (j : Int) ∉ line) (hll : line.length < 100000) (hpc : pc ≤ 1000) (hz : z.length = 8) :
    (MW ts line b q (((j : Int), 0, u) :: r) s k []).act i (ins 10 A B C) (ofL x) dr = some (MW (ts.set j (tkR pg ((pc + 1 : Nat) : Int) (((z.set b'.toNat (ofL x B.toNat)).set c'.toNat 0).set c'.toNat 1), false, [])) (line ++ [(j : Int)]) b q r s k [((k : Int), 3, (j : Int), 0, ofL x B.toNat, 1)], some (ofL x)) := by
  rw [act_sendE (ci := 1) (c := cm1 (((j : Int), 0, u) :: r) s) rfl (by show WS.chan _ (ofL x A.toNat) = _; rw [hA]; exact chan_mw (by decide) (by decide)) (chM1 (cm0 b q) _)]
  have hw := wake_one (st := MW ts line b q r s k []) (v := ofL x B.toNat) hj (.inl hop) ha hb hc hl hll ⟨by omega, by omega⟩ hz (by simp [MW])
  rw [if_pos hop, show ((pc : Int) + 1) = ((pc + 1 : Nat) : Int) by omega] at hw
  exact actSend_hand (c := cm1 (((j : Int), 0, u) :: r) s) (l := r) rfl rfl rfl (by
    show WS.wakes { MW ts line b q (((j : Int), 0, u) :: r) s k [] with ch := Go.Proofs.YtcffplgimbbflaaGreat.upd (chM (cm0 b q) (cm1 (((j : Int), 0, u) :: r) s)) 1 (some (cm1 r s)) } _ = _
    rw [chM_set1]; exact hw)
theorem a_from1 (hA : ofL x A.toNat = 1) (hB : regB B = true) (hC : regB C = true) (hx : x.length = 8) {j : Nat} {u pg op a' b' c' : Int} {pc : Nat} {z : List Int} (hj : ts[j]? = some (tkW pg (pc : Int) z op a' b' c', false, [])) (hop : op = 10) (ha : regB a' = true) (hb : regB b' = true) (hc : regB c' = true) (hl : (j : Int) ∉ line) (hll : line.length < 100000) (hpc : pc ≤ 1000) (hz : z.length = 8) :
    (MW ts line b q r (((j : Int), 0, u) :: s) k []).act i (ins 11 A B C) (ofL x) dr = some (MW (ts.set j (tkR pg ((pc + 1 : Nat) : Int) z, false, [])) (line ++ [(j : Int)]) b q r s k [((k : Int), 3, (j : Int), 0, 0, 1)], some (ofL (((x.set B.toNat u).set C.toNat 0).set C.toNat 1))) := by
  have hB' : B.toNat < 8 := by unfold regB at hB; simp at hB; omega
  have hC' : C.toNat < 8 := by unfold regB at hC; simp at hC; omega
  rw [act_recvE (ci := 1) (c := cm1 r (((j : Int), 0, u) :: s)) rfl (by show WS.chan _ (ofL x A.toNat) = _; rw [hA]; exact chan_mw (by decide) (by decide)) (chM1 (cm0 b q) _)]
  have hw := wake_one (st := MW ts line b q r s k []) (v := 0) hj (.inr hop) ha hb hc hl hll ⟨by omega, by omega⟩ hz (by simp [MW])
  rw [if_neg (by rw [hop]; decide), show ((pc : Int) + 1) = ((pc + 1 : Nat) : Int) by omega] at hw
  rw [← updR_ofL _ C.toNat 1 (by simp [hx, hC']), ← updR_ofL _ C.toNat 0 (by simp [hx, hC']), ← updR_ofL _ B.toNat u (by simp [hx, hB'])]
  exact actRecv_from (c := cm1 r (((j : Int), 0, u) :: s)) (y := ((j : Int), 0, u)) (l := s) rfl rfl (by
    show WS.wakes { MW ts line b q r (((j : Int), 0, u) :: s) k [] with ch := Go.Proofs.YtcffplgimbbflaaGreat.upd (chM (cm0 b q) (cm1 r (((j : Int), 0, u) :: s))) 1 (some (cm1 r s)) } _ = _
    rw [chM_set1]; exact hw)
theorem start_mw (hm : ts.length < 64) (hl : (ts.length : Int) ∉ line) (hll : line.length < 100000) : (MW ts line b q r s k []).start 1 (ofL x) = some (MW (ts ++ [(tkR 1 (0 : Nat) x, false, [])]) (line ++ [(ts.length : Int)]) b q r s k [((k : Int), 5, (ts.length : Int), 1, 0, 0)]) := by
  unfold WS.start
  have hc : ¬ ((1 : Int) < 0 ∨ 64 ≤ (MW ts line b q r s k []).ts.length ∨ (MW ts line b q r s k []).line.contains ((MW ts line b q r s k []).ts.length : Int) ∨ 100000 ≤ (MW ts line b q r s k []).line.length) := by
    simp only [MW]
    intro h; rcases h with h | h | h | h; exact absurd h (by decide); omega; exact hl (by simpa using h); omega
  rw [if_neg hc]
  unfold WS.tellO
  rw [if_neg (by simp [MW]), new_tkR]
  rfl
/-- Another task starts. -/
theorem a_go (hA : regB A = true) (hx : x.length = 8) (hm : ts.length < 64) (hl : (ts.length : Int) ∉ line) (hll : line.length < 100000) : (MW ts line b q r s k []).act i (ins 8 A 1 0) (ofL x) dr = some (MW (ts ++ [(tkR 1 (0 : Nat) x, false, [])]) (line ++ [(ts.length : Int)]) b q r s k [((k : Int), 5, (ts.length : Int), 1, 0, 0)], some (ofL (x.set A.toNat (ts.length : Int)))) := by
  have hA' : A.toNat < 8 := by unfold regB at hA; simp at hA; omega
  unfold WS.act
  rw [if_pos rfl]
  unfold WS.actGo
  have h := start_mw (ts := ts) (line := line) (b := b) (q := q) (r := r) (s := s) (k := k) (x := x) hm hl hll
  show (match (MW ts line b q r s k []).start 1 (ofL x) with
    | none => none
    | some s' => some (s', some (updR (ofL x) A.toNat (MW ts line b q r s k []).ts.length))) = _
  rw [h, updR_ofL _ _ _ (by omega)]
  rfl
end
structure MT where
  pc : Nat
  md : Nat
  r : List Int
def wI : Nat → Ins
  | 0 => ins 11 0 5 6
  | 1 => ins 3 5 1 0
  | 2 => ins 16 6 0 0
  | _ => ins 10 0 5 0
def pWi (t : Nat) : List Ins := (List.range (4 * t)).map fun k => wI (k % 4)
def pW (t : Nat) : List Ins := pWi t ++ [ins 10 1 5 0]
def pM (n : Nat) : List Ins := [ins 9 0 1 0, ins 9 1 0 0, ins 10 0 2 0] ++ List.replicate n (ins 8 7 1 0) ++ List.replicate n (ins 11 1 3 4) ++ [ins 11 0 3 4, ins 6 3 0 0]
theorem pWi_len (t : Nat) : (pWi t).length = 4 * t := by simp [pWi]
theorem pW_len (t : Nat) : (pW t).length = 4 * t + 1 := by simp [pW, pWi_len]
theorem pM_len (n : Nat) : (pM n).length = 2 * n + 5 := by simp [pM]; omega
theorem pW_at {t k : Nat} (h : k < 4 * t) : (pW t)[k]? = some (wI (k % 4)) := by
  unfold pW
  rw [List.getElem?_append_left (by rw [pWi_len]; exact h)]
  simp [pWi, h]
theorem pW_last (t : Nat) : (pW t)[4 * t]? = some (ins 10 1 5 0) := by
  unfold pW
  rw [List.getElem?_append_right (by rw [pWi_len]; exact Nat.le_refl _), pWi_len, Nat.sub_self]
  rfl
theorem pM_go {n k : Nat} (h1 : 3 ≤ k) (h2 : k < n + 3) : (pM n)[k]? = some (ins 8 7 1 0) := by
  unfold pM
  rw [List.getElem?_append_left (by simp; omega), List.getElem?_append_left (by simp; omega), List.getElem?_append_right (by simpa using h1)]
  simp [List.getElem?_replicate]; omega
theorem pM_recv {n k : Nat} (h1 : n + 3 ≤ k) (h2 : k < 2 * n + 3) : (pM n)[k]? = some (ins 11 1 3 4) := by
  unfold pM
  rw [List.getElem?_append_left (by simp; omega), List.getElem?_append_right (by simp; omega)]
  simp [List.getElem?_replicate]; omega
theorem pM_take (n : Nat) : (pM n)[2 * n + 3]? = some (ins 11 0 3 4) := by
  unfold pM
  rw [List.getElem?_append_right (by simp; omega)]
  simp only [List.length_append, List.length_cons, List.length_nil, List.length_replicate]
  rw [show 2 * n + 3 - (0 + 1 + 1 + 1 + n + n) = 0 by omega]; rfl
theorem pM_tell (n : Nat) : (pM n)[2 * n + 4]? = some (ins 6 3 0 0) := by
  unfold pM
  rw [List.getElem?_append_right (by simp; omega)]
  simp only [List.length_append, List.length_cons, List.length_nil, List.length_replicate]
  rw [show 2 * n + 4 - (0 + 1 + 1 + 1 + n + n) = 1 by omega]; rfl
abbrev PMu (n t : Nat) : List (List Ins) := [pM n, pW t]
def pgI (i : Nat) : Nat := if i = 0 then 0 else 1
def pgm (n t i : Nat) : List Ins := if i = 0 then pM n else pW t
theorem pgm_at (n t i : Nat) : (PMu n t)[pgI i]? = some (pgm n t i) := by
  unfold pgI pgm
  by_cases h : i = 0
  · rw [if_pos h, if_pos h]; rfl
  · rw [if_neg h, if_neg h]; rfl
theorem progB_pM {n : Nat} (h : n ≤ 6) : progB (pM n) = true := by
  rcases (show n = 0 ∨ n = 1 ∨ n = 2 ∨ n = 3 ∨ n = 4 ∨ n = 5 ∨ n = 6 by omega) with rfl | rfl | rfl | rfl | rfl | rfl | rfl <;> rfl
theorem progB_pW {t : Nat} (h : t ≤ 4) : progB (pW t) = true := by
  rcases (show t = 0 ∨ t = 1 ∨ t = 2 ∨ t = 3 ∨ t = 4 by omega) with rfl | rfl | rfl | rfl | rfl <;> rfl
theorem progB_pgm {n t i : Nat} (h : n ≤ 6) (h2 : t ≤ 4) : progB (pgm n t i) = true := by
  unfold pgm; split; exact progB_pM h; exact progB_pW h2
def pI (n t i pc : Nat) : Ins := ((pgm n t i)[pc]?).getD (ins 0 0 0 0)
def tkM (n t i : Nat) (x : MT) : TkS :=
  if x.md = 0 then (tkR (pgI i : Nat) (x.pc : Nat) x.r, false, [])
  else if x.md = 4 then (tkO (pgI i : Nat) (x.pc : Nat) x.r, false, [])
  else (tkW (pgI i : Nat) (x.pc : Nat) x.r (pI n t i x.pc).1.1 (pI n t i x.pc).1.2.1 (pI n t i x.pc).1.2.2.1 (pI n t i x.pc).1.2.2.2, false, [])
def tsM (n t m : Nat) (f : Nat → MT) : List TkS := (List.range m).map fun i => tkM n t i (f i)
theorem tsM_len (n t m : Nat) (f : Nat → MT) : (tsM n t m f).length = m := by simp [tsM]
theorem tsM_get {n t m : Nat} {f : Nat → MT} {i : Nat} (h : i < m) : (tsM n t m f)[i]? = some (tkM n t i (f i)) := by simp [tsM, h]
theorem tsM_set {n t m : Nat} {f : Nat → MT} {i : Nat} {z : MT} {y : TkS} (h : y = tkM n t i z) : (tsM n t m f).set i y = tsM n t m (Go.Proofs.YtcffplgimbbflaaGreat.upd f i z) := by
  subst h
  refine List.ext_getElem? fun j => ?_
  rw [List.getElem?_set, tsM_len]
  by_cases hj : j < m
  · rw [tsM_get hj]
    by_cases e : i = j
    · subst e; rw [if_pos rfl, if_pos hj, tsM_get hj, upd_same]
    · rw [if_neg e, tsM_get hj]; unfold Go.Proofs.YtcffplgimbbflaaGreat.upd; rw [if_neg (Ne.symm e)]
  · have h1 : (tsM n t m f)[j]? = none := List.getElem?_eq_none (by rw [tsM_len]; omega)
    have h2 : (tsM n t m (Go.Proofs.YtcffplgimbbflaaGreat.upd f i z))[j]? = none := List.getElem?_eq_none (by rw [tsM_len]; omega)
    rw [h1, h2]
    by_cases e : i = j
    · rw [if_pos e, if_neg (by omega)]
    · rw [if_neg e]
theorem tsM_snoc {n t m : Nat} {f : Nat → MT} {z : MT} {y : TkS} (h : y = tkM n t m z) : tsM n t m f ++ [y] = tsM n t (m + 1) (Go.Proofs.YtcffplgimbbflaaGreat.upd f m z) := by
  subst h
  unfold tsM
  rw [List.range_succ, List.map_append]
  congr 1
  · refine List.map_congr_left fun j hj => ?_
    have : j < m := by simpa using hj
    unfold Go.Proofs.YtcffplgimbbflaaGreat.upd; rw [if_neg (by omega)]
  · simp [upd_same]
/-- Those of whom it holds, each once. -/
def Ids (l : List Int) (P : Nat → Prop) : Prop := l.Nodup ∧ ∀ x, x ∈ l ↔ ∃ i : Nat, x = (i : Int) ∧ P i
abbrev IdM (n : Nat) (f : Nat → MT) (c : Nat) (l : List Int) : Prop := Ids l fun i => i ≤ n ∧ (f i).md = c
section
variable {n : Nat} {f : Nat → MT} {c i : Nat} {z : MT} {l : List Int}
theorem IdM.mem (h : IdM n f c l) : (i : Int) ∈ l ↔ (i ≤ n ∧ (f i).md = c) := by
  rw [h.2]
  constructor
  · rintro ⟨j, e, hj⟩; obtain rfl : i = j := by omega
    exact hj
  · intro hj; exact ⟨i, rfl, hj⟩
theorem IdM.stay (h : IdM n f c l) (he : z.md = c ↔ (f i).md = c) : IdM n (Go.Proofs.YtcffplgimbbflaaGreat.upd f i z) c l := by
  refine ⟨h.1, fun x => (h.2 x).trans (exists_congr fun j => and_congr_right fun _ => and_congr_right fun _ => ?_)⟩
  unfold Go.Proofs.YtcffplgimbbflaaGreat.upd
  by_cases e : j = i
  · subst e; rw [if_pos rfl]; exact he.symm
  · rw [if_neg e]
theorem IdM.come (h : IdM n f c l) (h1 : (f i).md ≠ c) (hi : i ≤ n) (hz : z.md = c) : IdM n (Go.Proofs.YtcffplgimbbflaaGreat.upd f i z) c (l ++ [(i : Int)]) := by
  have hni : (i : Int) ∉ l := fun q => h1 (h.mem.1 q).2
  refine ⟨?_, fun x => ?_⟩
  · rw [List.nodup_append]
    exact ⟨h.1, by simp, fun a ha b hb => by simp at hb; subst hb; rintro rfl; exact hni ha⟩
  · rw [List.mem_append, List.mem_singleton, h.2]
    constructor
    · rintro (⟨j, rfl, hj, hm⟩ | rfl)
      · refine ⟨j, rfl, hj, ?_⟩
        unfold Go.Proofs.YtcffplgimbbflaaGreat.upd
        by_cases e : j = i
        · subst e; exact absurd hm h1
        · rw [if_neg e]; exact hm
      · exact ⟨i, rfl, hi, by rw [upd_same]; exact hz⟩
    · rintro ⟨j, rfl, hj, hm⟩
      by_cases e : j = i
      · right; rw [e]
      · left; refine ⟨j, rfl, hj, ?_⟩
        unfold Go.Proofs.YtcffplgimbbflaaGreat.upd at hm; rw [if_neg e] at hm; exact hm
theorem IdM.leave (h : IdM n f c l) (hz : z.md ≠ c) : IdM n (Go.Proofs.YtcffplgimbbflaaGreat.upd f i z) c (l.erase (i : Int)) := by
  refine ⟨h.1.erase _, fun x => ?_⟩
  rw [h.1.mem_erase_iff, h.2]
  constructor
  · rintro ⟨hx, j, rfl, hj, hm⟩
    refine ⟨j, rfl, hj, ?_⟩
    unfold Go.Proofs.YtcffplgimbbflaaGreat.upd
    rw [if_neg (by rintro rfl; exact hx rfl)]; exact hm
  · rintro ⟨j, rfl, hj, hm⟩
    unfold Go.Proofs.YtcffplgimbbflaaGreat.upd at hm
    by_cases e : j = i
    · rw [if_pos e] at hm; exact absurd hm hz
    · rw [if_neg e] at hm
      exact ⟨by omega, j, rfl, hj, hm⟩
theorem IdM.pop (h : IdM n f c ((i : Int) :: l)) (hz : z.md ≠ c) : IdM n (Go.Proofs.YtcffplgimbbflaaGreat.upd f i z) c l := by
  have := h.leave (i := i) hz
  rwa [List.erase_cons_head] at this
end
/-- A sum over 1 to n. -/
def sm (g : Nat → Nat) : Nat → Nat
  | 0 => 0
  | k + 1 => sm g k + g (k + 1)
theorem sm_congr {g h : Nat → Nat} : ∀ {n : Nat}, (∀ i, 1 ≤ i → i ≤ n → g i = h i) → sm g n = sm h n
  | 0, _ => rfl
  | n + 1, e => by unfold sm; rw [sm_congr fun i h1 h2 => e i h1 (by omega), e (n + 1) (by omega) (Nat.le_refl _)]
theorem sm_upd (f : Nat → MT) (g : MT → Nat) (z : MT) {i : Nat} (h1 : 1 ≤ i) : ∀ {n : Nat}, i ≤ n → sm (fun j => g (Go.Proofs.YtcffplgimbbflaaGreat.upd f i z j)) n + g (f i) = sm (fun j => g (f j)) n + g z
  | 0, h => by omega
  | n + 1, h => by
    unfold sm
    by_cases e : i = n + 1
    · subst e
      rw [upd_same, sm_congr (h := fun j => g (f j)) fun j a b => by show g (Go.Proofs.YtcffplgimbbflaaGreat.upd f (n + 1) z j) = _; unfold Go.Proofs.YtcffplgimbbflaaGreat.upd; rw [if_neg (by omega)]]
      omega
    · have := sm_upd f g z h1 (n := n) (by omega)
      have e2 : Go.Proofs.YtcffplgimbbflaaGreat.upd f i z (n + 1) = f (n + 1) := by unfold Go.Proofs.YtcffplgimbbflaaGreat.upd; rw [if_neg (by omega)]
      rw [e2]; omega
theorem sm_upd0 (f : Nat → MT) (g : MT → Nat) (z : MT) (n : Nat) : sm (fun j => g (Go.Proofs.YtcffplgimbbflaaGreat.upd f 0 z j)) n = sm (fun j => g (f j)) n :=
  sm_congr fun j a b => by show g (Go.Proofs.YtcffplgimbbflaaGreat.upd f 0 z j) = _; unfold Go.Proofs.YtcffplgimbbflaaGreat.upd; rw [if_neg (by omega)]
theorem sm_ge {g : Nat → Nat} {i : Nat} (h1 : 1 ≤ i) : ∀ {n : Nat}, i ≤ n → g i ≤ sm g n
  | 0, h => by omega
  | n + 1, h => by
    unfold sm
    by_cases e : i = n + 1
    · subst e; omega
    · have := sm_ge (g := g) h1 (n := n) (by omega); omega
theorem sm_const {g : Nat → Nat} {c : Nat} : ∀ {n : Nat}, (∀ i, 1 ≤ i → i ≤ n → g i = c) → sm g n = n * c
  | 0, _ => by simp [sm]
  | n + 1, e => by unfold sm; rw [sm_const fun i h1 h2 => e i h1 (by omega), e (n + 1) (by omega) (Nat.le_refl _), Nat.succ_mul]
theorem sm_le {g : Nat → Nat} {c : Nat} : ∀ {n : Nat}, (∀ i, 1 ≤ i → i ≤ n → g i ≤ c) → sm g n ≤ n * c
  | 0, _ => by simp [sm]
  | n + 1, e => by
    unfold sm
    have a : sm g n ≤ n * c := sm_le fun i h1 h2 => e i h1 (by omega)
    have b := e (n + 1) (by omega) (Nat.le_refl _)
    rw [Nat.succ_mul]; omega
theorem sm_full {g : Nat → Nat} : ∀ {n : Nat}, (∀ i, 1 ≤ i → i ≤ n → g i ≤ 1) → sm g n = n → ∀ i, 1 ≤ i → i ≤ n → g i = 1
  | 0, _, _, i, h1, h2 => by omega
  | n + 1, e, h, i, h1, h2 => by
    unfold sm at h
    have a : sm g n ≤ n * 1 := sm_le fun i h1 h2 => e i h1 (by omega)
    have b := e (n + 1) (by omega) (Nat.le_refl _)
    rw [Nat.mul_one] at a
    by_cases q : i = n + 1
    · subst q; omega
    · exact sm_full (n := n) (fun i h1 h2 => e i h1 (by omega)) (by omega) i h1 (by omega)
end Go.Proofs.YtcffplgimbbflaaGreat
