/- Who waits on a channel, from outside; what two laws need. -/
import Derived.Test.YtcffplgimbbflaaGreatSlQ17
set_option linter.unusedVariables false
set_option linter.unusedSimpArgs false
namespace Go.Proofs.YtcffplgimbbflaaGreat
open Go.RowKit
set_option maxRecDepth 100000
/-- A store of a whole row as one step of a region that draws. -/
theorem step_store_row {P : Program} {ops : Array Oper} {o : Oper} {a : Act} {K : Act → World → Prop} {Q : Exit → Act → World → Prop} {E : Prop} (w : World) (hgd : o.guard = none) (ty : TypeId) (x y : Operand) (ho : o.op = .store ty x y)
    (b : Nat) (cells old : Array Value) (T : TypeId) (hx : a.eval x = .pointer (some ⟨b, 0, none⟩)) (hy : a.eval y = .agg cells) (hb : w.heap[b]? = some (.cells old T (0, 0))) (hsz : old.size = cells.size)
    (hi : (P.info? ty).map (·.size) = some cells.size) (h1 : cells.all (·.oneCell') = true)
    (h : ∀ w', w'.heap[b]? = some (.cells cells T (0, 0)) → Fr (fun k => k = b) w w' → K (a.put o.dst undef) w') : if Region.wanted o (yielded ops a.tmps) = true then Oper.wp P o a w K Q else E := by
  have hw : Region.wanted o (yielded ops a.tmps) = true := by simp [Region.wanted, hgd]
  rw [if_pos hw]
  refine wp_store_mid ty x y ho b 0 cells hx hy (fun j hj => ?_) hi h1 (h _ ?_ ?_)
  · rw [Nat.zero_add]
    have hj' : j < old.size := by omega
    exact ⟨by rw [blk_cell hb j (Array.getElem?_eq_getElem hj')]; rfl, blk_froz hb j⟩
  · obtain ⟨blk', q1, q2, q3, q4⟩ := setCells_blk b T (0, 0) cells.toList 0 w old hb (by simp; omega)
    have : blk' = cells := by
      apply Array.ext_getElem?
      intro i
      by_cases hi : i < cells.size
      · have := q4 i cells[i] (by simp [hi])
        rw [Nat.zero_add] at this
        rw [this]; simp [hi]
      · rw [Array.getElem?_eq_none (by omega), Array.getElem?_eq_none (by omega)]
    rw [q1, this]
  · exact setCells_fr b _ 0 w
theorem wks_get (l : List Wk) (i j : Nat) (x : Wk) (h : l[i]? = some x) (hj : j < 5) : (wks l)[i * 5 + j]? = (wkEn x)[j]? := rowsGet wkEn (fun _ => rfl) l i j x h hj
theorem stepF_some (P : Nat → Option ChS) (f : ChS → ChS) (o : Option Nat) (i : Nat) : (stepF P f o i).isSome = (P i).isSome := by
  cases o with
  | none => rfl
  | some j =>
    unfold stepF
    cases hp : P j with
    | none => simp only [hp]
    | some c =>
      simp only [hp]
      by_cases e : i = j
      · subst e; rw [upd_same, hp]; rfl
      · rw [upd_ne _ _ e]
theorem leaveF_some (t : Int) : ∀ (l : List Cs) (P : Nat → Option ChS) (i : Nat), (leaveF t l P i).isSome = (P i).isSome
  | [], _, _ => rfl
  | x :: l, P, i => by unfold leaveF; rw [leaveF_some t l _ i, stepF_some]
theorem cases_ok {st : WS} (hchn : ∀ i, (st.ch i).isSome = decide (i < st.nch)) {r : Nat → Int} {cs : List ICs} {l : List Cs} (h : st.cases r cs = some l) : ∀ x ∈ l, CsOk st.ch x := by
  intro x hx i hi
  obtain ⟨k, hk, he⟩ := List.mem_iff_getElem.1 hx
  obtain ⟨hl, hg⟩ := cases_get h
  obtain ⟨y, hy⟩ : ∃ y, cs[k]? = some y := ⟨cs[k]'(by omega), by simp⟩
  obtain ⟨o, ho, hlk⟩ := hg k y hy
  have e : x = (o, y.1, r y.2.2.toNat) := by
    have : l[k]? = some x := by rw [List.getElem?_eq_getElem hk, he]
    rw [this] at hlk; exact Option.some.inj hlk
  rw [e] at hi
  dsimp only at hi
  subst hi
  unfold WS.chan at ho
  split at ho
  · split at ho
    · simp at ho
    · cases ho
  · next hn =>
    have hj : i = (r y.2.1.toNat).toNat := by simpa using ho.symm
    have hlt : i < st.nch := by omega
    have := hchn i
    rw [decide_eq_true hlt] at this
    exact Option.isSome_iff_exists.1 this
theorem few_of {st : WS} (h : st.few = true) {i : Nat} (hi : i < st.nch) {c : ChS} (hc : st.ch i = some c) : c.rv.length ≤ 900 ∧ c.sd.length ≤ 900 := by
  unfold WS.few at h
  rw [List.all_eq_true] at h
  have := h i (List.mem_range.2 hi)
  rw [hc] at this
  simpa using this
theorem WP.pool0 {w w' : World} {F : Nat → Nat → Prop} {c : Cfg} {P : Pg} {st : WS} {nd nm : Nat} (h : WP H0 w F c P st nd nm) (hf : Fr (F 11) w w') {P' : Nat → Option ChS} (hp : Pool w' (F 11) c.B P') (hchn : ∀ i, (P' i).isSome = decide (i < st.nch)) : WP H0 w' F c P { st with ch := P' } nd nm := by
  have h' := h.part 11 hf
  exact ⟨h'.lt, h'.dis, h'.own0, h'.own1, fun _ => h'.blk (by decide), fun _ => h'.clk (by decide), fun _ => h'.tab (by decide), fun _ => h'.chs (by decide), fun _ => h'.tim (by decide), fun _ => h'.ctx (by decide), fun _ => h'.dls (by decide), fun _ => h'.lks (by decide), fun _ => h'.prg (by decide), fun _ => h'.evs (by decide), fun _ => h'.cas (by decide), fun _ => hp, hchn, h'.tml, h'.cxl, h'.pad⟩
/-- How a task waited. -/
def How (t : Nat → Int) (cs : List ICs) (k : Int) (ok : Bool) : Prop := (cs = [] ∧ (t 12 = 10 ∨ (t 12 = 11 ∧ ok = true))) ∨ (t 12 = 15 ∧ ok = true ∧ ∃ (kk A : Nat) (vl : Int), k = (kk : Int) ∧ A < 8 ∧ cs[kk]? = some (false, (A : Int), vl))
/-- What a wake of one that the machine goes through asks. -/
theorem wake1_some {st s : WS} {x0 k v : Int} {ok pn : Bool} (h : st.wake1 (x0, k, v, ok, pn) = some s) : ∃ i : Nat, x0 = (i : Int) ∧ ∃ (t : Nat → Int) (d : Bool) (cs : List ICs), st.ts[i]? = some (t, d, cs) ∧ cs.length ≤ 16 ∧
    ((t 2 ≠ 1 ∧ s = st) ∨ (t 2 = 1 ∧ pn = false ∧ st.few = true ∧ (∀ z ∈ cs, csB z = true) ∧ (∃ A B C : Nat, A < 8 ∧ B < 8 ∧ C < 8 ∧ t 13 = A ∧ t 14 = B ∧ t 15 = C) ∧ How t cs k ok ∧ (i : Int) ∉ st.line ∧ st.line.length < 100000 ∧ 0 ≤ t 1 ∧ t 1 ≤ 1000 ∧ st.ev.length < 1000 ∧
      ∃ l, st.cases (regsOf t) cs = some l ∧ s = ({ st with ch := leaveF (i : Int) l st.ch, ts := st.ts.set i (wakeT (toldT t cs k v ok), false, []), line := st.line ++ [(i : Int)] } : WS).tell 3 i k v (bitI ok))) := by
  unfold WS.wake1 at h
  dsimp only at h
  split at h
  · cases h
  · next h0 =>
    refine ⟨x0.toNat, by omega, ?_⟩
    have hx : x0 = (x0.toNat : Int) := by omega
    split at h
    · cases h
    · next t d cs hts =>
      refine ⟨t, d, cs, hts, ?_⟩
      split at h
      · next h2 =>
        split at h
        · next he =>
          cases h
          have : cs = [] := by simpa using he
          exact ⟨by rw [this]; simp, .inl ⟨h2, rfl⟩⟩
        · cases h
      · next h2 =>
        split at h
        · cases h
        · next hg =>
          have gf : st.few = true := by cases q : st.few; exact absurd (.inl q) hg; rfl
          have gp : pn = false := by cases q : pn; rfl; exact absurd (.inr (.inl q)) hg
          have gr : regs3 t = true := by cases q : regs3 t; exact absurd (.inr (.inr (.inl q))) hg; rfl
          have gc : cs.all csB = true := by cases q : cs.all csB; exact absurd (.inr (.inr (.inr (.inl q)))) hg; rfl
          have gn : cs.length ≤ 16 := Nat.le_of_not_lt fun q => hg (.inr (.inr (.inr (.inr q))))
          have gcs := List.all_eq_true.1 gc
          split at h
          · cases h
          · next hop =>
            split at h
            · cases h
            · next hl =>
              split at h
              · cases h
              · next hpc =>
                split at h
                · cases h
                · next l hcl =>
                  obtain ⟨hev, hs⟩ := tellO_some h
                  unfold regs3 at gr
                  simp only [Bool.and_eq_true] at gr
                  obtain ⟨⟨ha, hb⟩, hc⟩ := gr
                  obtain ⟨A, hA, hA8⟩ := reg_of ha
                  obtain ⟨B, hB, hB8⟩ := reg_of hb
                  obtain ⟨C, hC, hC8⟩ := reg_of hc
                  refine ⟨gn, .inr ⟨by omega, gp, gf, gcs, ⟨A, B, C, hA8, hB8, hC8, hA, hB, hC⟩, ?_, ?_, ?_, by omega, by omega, hev, l, hcl, ?_⟩⟩
                  · have ho : okWk t cs (x0, k, v, ok, pn) = true := by cases q : okWk t cs (x0, k, v, ok, pn); exact absurd q hop; rfl
                    unfold okWk at ho
                    dsimp only at ho
                    simp only [Bool.or_eq_true, Bool.and_eq_true, beq_iff_eq, decide_eq_true_eq, List.isEmpty_iff] at ho
                    rcases ho with ⟨e, q⟩ | ⟨⟨⟨q1, q2⟩, q3⟩, q4⟩
                    · exact .inl ⟨e, q⟩
                    · right
                      refine ⟨q1, q2, ?_⟩
                      split at q4
                      · next z hz =>
                        obtain ⟨zs, za, zv⟩ := z
                        have hzs : zs = false := by simpa using q4
                        subst hzs
                        have hcb := gcs _ (List.mem_of_getElem? hz)
                        unfold csB at hcb
                        simp only [Bool.and_eq_true] at hcb
                        obtain ⟨a, hae, ha8⟩ := reg_of hcb.1.1
                        exact ⟨k.toNat, a, zv, by omega, ha8, by rw [hz, hae]⟩
                      · cases q4
                  · rw [← hx]
                    intro q
                    exact hl (.inl (by simpa using q))
                  · have : ¬ 100000 ≤ st.line.length := fun q => hl (.inr q)
                    omega
                  · rw [← hx]; exact hs
theorem told1 {t : Nat → Int} {cs : List ICs} {k v : Int} {ok : Bool} (h : How t cs k ok) : (toldT t cs k v ok) 1 = t 1 := by
  have e : ∀ q : Nat, ¬ 1 = 4 + q := fun q => by omega
  unfold toldT
  rcases h with ⟨_, h | ⟨h, rfl⟩⟩ | ⟨h, rfl, kk, A, vl, rfl, hA, hz⟩
  · rw [if_neg (by omega), if_neg (by omega)]
  · rw [if_neg (by omega), if_pos h]
    simp [gotT, updT, e]
  · rw [if_pos h, show ((kk : Int)).toNat = kk by omega, hz]
    simp [gotT, updT, e]
/-- How far a wake is. -/
structure WkSt (w wr : World) (S T : Nat → Prop) (wb : Nat) (P : Pg) (nd nm : Nat) (l : List Wk) (n : Nat) (v : Value) (s : WS) (k : Nat) (sk : WS) : Prop where
  rest : sk.wake (l.drop k) = some s
  nx : Nx w S wb P sk (nd + k) nm wr
  sl : Sl wr T 225 5 v n (wks l)
theorem wake_step {sk s : WS} {l : List Wk} {k : Nat} {x : Wk} (hx : l[k]? = some x) (h : sk.wake (l.drop k) = some s) : ∃ s1, sk.wake1 x = some s1 ∧ s1.wake (l.drop (k + 1)) = some s := by
  have : l.drop k = x :: l.drop (k + 1) := by
    have hk := (List.getElem?_eq_some_iff.1 hx)
    obtain ⟨hlt, e⟩ := hk
    rw [List.drop_eq_getElem_cons hlt, e]
  rw [this] at h
  simp only [WS.wake] at h
  split at h
  · cases h
  · next s1 h1 => exact ⟨s1, h1, h⟩
set_option maxHeartbeats 8000000 in
theorem world_wake {w : World} {S : Nat → Prop} {wb : Nat} {P : Pg} {st : WS} {nd nm : Nat} (h : WAt w S wb P st nd nm) (l : List Wk) (n : Nat) (hn : l.length = n) {s : WS} (hs : st.wake l = some s) (v : Value) {T : Nat → Prop} (hsl : Sl w T 225 5 v n (wks l)) (hd : ∀ k, S k → T k → False) (hT : ∀ k, T k → k < w.heap.size) (hnd : nd + n ≤ 1000000000000) :
    Calls Tryz.prog 80 #[ptV wb, v] w fun e w' => e = .returned (.tuple #[]) ∧ Nx w S wb P s (nd + n) nm w' := by
  obtain ⟨A, cp, rfl⟩ := hsl.slice
  have hl := hsl.len_le
  unfold maxLen at hl
  have hst : WkSt w w S T wb P nd nm l n (.slice A n cp) s 0 st := ⟨hs, Nx.refl h, hsl⟩
  have Hst := Lib.hid hst; have Hn := Lib.hid hn; have HT := Lib.hid hT; have Hd := Lib.hid hd
  clear h hs hsl hst hn hT hd
  go_enter Tryz.func80, Tryz.ntmps80
  go_wp2_with fail
  go_loopw [12] (fun i wr => ∃ (k : Nat) (sk : WS), k ≤ n ∧ i = .int .i64 k ∧ Hid (WkSt w wr S T wb P nd nm l n (.slice A n cp) s k sk)) (fun i _ => n - (intOf i).toNat)
  case atStart => exact ⟨0, st, Nat.zero_le _, rfl, Hst⟩
  case round =>
    obtain ⟨k, sk, hk, rfl, hr⟩ := hrel
    by_cases hlt : k < n
    · have hkl : k < l.length := by rw [Hn.out]; exact hlt
      obtain ⟨x, hx⟩ : ∃ x, l[k]? = some x := ⟨l[k], by simp⟩
      obtain ⟨s1, hs1, hrest⟩ := wake_step hx hr.out.rest
      obtain ⟨x0, kase, val, ok, pn⟩ := x
      obtain ⟨i, rfl, t, d, cs, hi, hcl, hcase⟩ := wake1_some hs1
      obtain ⟨m, hm⟩ : ∃ m, cs.length = m := ⟨_, rfl⟩
      obtain ⟨g, off, cp', hv', hg, hgl, hc1, hc2, hc, hfz⟩ := hr.out.sl.form (by omega)
      injection hv' with hA hn' hcp
      subst hA; subst hcp
      have q0 := hc _ _ ((wks_get l k 0 ((i : Int), kase, val, ok, pn) hx (by omega)).trans rfl)
      have q1 := hc _ _ ((wks_get l k 1 ((i : Int), kase, val, ok, pn) hx (by omega)).trans rfl)
      have q2 := hc _ _ ((wks_get l k 2 ((i : Int), kase, val, ok, pn) hx (by omega)).trans rfl)
      have q3 := hc _ _ ((wks_get l k 3 ((i : Int), kase, val, ok, pn) hx (by omega)).trans rfl)
      have q4 := hc _ _ ((wks_get l k 4 ((i : Int), kase, val, ok, pn) hx (by omega)).trans rfl)
      rw [Nat.add_zero] at q0
      rw [← Nat.add_assoc] at q1 q2 q3 q4
      have hint : (k : Int) < n := by omega
      obtain ⟨S1, hf1, ha1, hss1⟩ := hr.out.nx
      have Hr := hr
      have Hs1 := Lib.hid hs1; have Hrest := Lib.hid hrest; have Hf1 := Lib.hid hf1; have Ha1 := Lib.hid ha1; have Hss1 := Lib.hid hss1
      clear hc hfz hn' hs1 hrest hf1 ha1 hss1 hr hx hkl
      go_wp2_with fail
      obtain ⟨w1, hw1⟩ : ∃ w1, w1 = wr.alloc (.cells #[inV (i : Int), inV kase, inV val, .bool ok, .bool pn] 225) := ⟨_, rfl⟩
      rw [← hw1]
      obtain ⟨xb, hxb⟩ : ∃ xb, xb = wr.heap.size := ⟨_, rfl⟩
      rw [← hxb]
      have hfw1 : Fr Nob wr w1 := by rw [hw1]; exact (Fr.refl Nob wr).alloc _
      have hbw1 : w1.heap[xb]? = some (.cells #[inV (i : Int), inV kase, inV val, .bool ok, .bool pn] 225 (0, 0)) := by rw [hw1, hxb]; exact heap_alloc_new _ _
      have Hfw1 := Lib.hid hfw1; have Hbw1 := Lib.hid hbw1; have Hzw1 : Hid (wr.heap.size = xb ∧ xb < w1.heap.size) := ⟨hxb.symm, lt_of_block hbw1⟩
      clear hw1 hxb hfw1 hbw1
      obtain ⟨F, c, h1, hwb, hS1⟩ := Ha1.out
      have hcas := (h1.cas id).2 i t d cs hi
      obtain ⟨cv, htsv, hcsl, _⟩ := hcas
      rw [hm] at hcsl
      obtain ⟨Z0, zc0, rfl⟩ := hcsl.slice
      have Hget := Lib.hid (fun W (hW : Fr Nob w1 W) => task_getC ((h1.fr0 (Hfw1.out.trans0 hW)).tab id) i t d cs m hm (by omega) htsv (hcsl.rd.fr (Hfw1.out.trans0 hW)))
      have c2 := blk_cell (h1.blk id) 2 rfl
      rw [hwb] at c2
      have key : ∀ W, Fr Nob w1 W → W.cell? ⟨wb, 2, none⟩ = some (ptV c.tb) ∧ W.cell? ⟨xb, 0, none⟩ = some (inV (i : Int)) := fun W hW => ⟨(Hfw1.out.trans0 hW).cell (fun q => q) c2, blk_cell (hW.blk (fun q => q) Hbw1.out) 0 rfl⟩
      have Key := Lib.hid key
      have H1 := Lib.hid h1; have HS1 := Lib.hid hS1; have Hwb := Lib.hid hwb; have Htsv := Lib.hid htsv; have Hi := Lib.hid hi; have Hcase := Lib.hid hcase; have Hm := Lib.hid hm; have Hcl := Lib.hid hcl
      clear key c2 h1 hS1 hwb htsv hi hcase hcsl q0 q1 q2 q3 q4 hm
      refine wp_region_held_drew (S := fun W => W.cell? ⟨wb, 2, none⟩ = some (ptV c.tb) ∧ W.cell? ⟨xb, 0, none⟩ = some (inV (i : Int))) (by kernel_rfl) (Key.out _ (Fr.refl Nob w1).drew) (fun hHeld => ?_)
      refine wpAnyH_take (i := 0) (v := ?_) rfl (by kernel_rfl) (by kernel_rfl) (by kernel_rfl) (fun _ _ _ h => h) (Or.inl ⟨by rfl, ?_⟩) (by assumption) ?_
      rotate_left
      · intro w hSw; (try dsimp only at hSw); go_simp; try with_reducible rfl
      try simp only [List.getElem_toArray, List.getElem_cons_zero, List.getElem_cons_succ, Act.put, List.setIfInBounds_toArray, List.set_cons_zero, List.set_cons_succ]
      refine wpAnyH_take (i := 1) (v := ?_) rfl (by kernel_rfl) (by kernel_rfl) (by kernel_rfl) (fun _ _ _ h => h) (Or.inl ⟨by rfl, ?_⟩) (by assumption) ?_
      rotate_left
      · intro w hSw; (try dsimp only at hSw); go_simp; try with_reducible rfl
      try simp only [List.getElem_toArray, List.getElem_cons_zero, List.getElem_cons_succ, Act.put, List.setIfInBounds_toArray, List.set_cons_zero, List.set_cons_succ]
      refine wpAnyH_take (i := 2) (v := ?_) rfl (by kernel_rfl) (by kernel_rfl) (by kernel_rfl) (fun _ _ _ h => h) (Or.inl ⟨by rfl, ?_⟩) (by assumption) ?_
      rotate_left
      · intro w hSw; (try dsimp only at hSw); go_simp; try with_reducible rfl
      try simp only [List.getElem_toArray, List.getElem_cons_zero, List.getElem_cons_succ, Act.put, List.setIfInBounds_toArray, List.set_cons_zero, List.set_cons_succ]
      refine wpAnyH_take (i := 3) (v := ?_) rfl (by kernel_rfl) (by kernel_rfl) (by kernel_rfl) (fun _ _ _ h => h) (Or.inl ⟨by rfl, ?_⟩) (by assumption) ?_
      rotate_left
      · intro w hSw; (try dsimp only at hSw); go_simp; try with_reducible rfl
      try simp only [List.getElem_toArray, List.getElem_cons_zero, List.getElem_cons_succ, Act.put, List.setIfInBounds_toArray, List.set_cons_zero, List.set_cons_succ]
      refine wpAnyH_take (i := 4) (v := ?_) rfl (by kernel_rfl) (by kernel_rfl) (by kernel_rfl) (fun _ _ _ h => h) (Or.inl ⟨by rfl, ?_⟩) (by assumption) ?_
      rotate_left
      · intro w hSw; (try dsimp only at hSw); go_simp; try with_reducible rfl
      try simp only [List.getElem_toArray, List.getElem_cons_zero, List.getElem_cons_succ, Act.put, List.setIfInBounds_toArray, List.set_cons_zero, List.set_cons_succ]
      refine wpAnyH_take (i := 5) (v := ?_) rfl (by kernel_rfl) (by kernel_rfl) (by kernel_rfl) (fun _ _ _ h => h) (Or.inl ⟨by rfl, ?_⟩) (by assumption) ?_
      rotate_left
      · intro w hSw; (try dsimp only at hSw); go_simp; try with_reducible rfl
      try simp only [List.getElem_toArray, List.getElem_cons_zero, List.getElem_cons_succ, Act.put, List.setIfInBounds_toArray, List.set_cons_zero, List.set_cons_succ]
      refine wpAnyH_ready (rs := [6, 10]) (by kernel_rfl) (by simp) ?_
      refine AllReadyH.cons rfl (fun K hK => ?_) (AllReadyH.cons rfl (fun K hK => ?_) AllReadyH.nil)
      focus
        simp only [List.getElem_toArray, List.getElem_cons_zero, List.getElem_cons_succ]
        go_simp
        refine (Hget.out _ (Fr.refl Nob w1).drew).mono ?_
        rintro e w2 ⟨Z, zc, rfl, hf2', hsz2⟩
        have hf2 : Fr Nob w1 w2 := ((Fr.refl Nob w1).drew).trans0 hf2'
        refine hK.out _ _ (Key.out _ hf2) (fun hHeld2 => ?_)
        clear hK K
        refine wpAnyH_take (i := 7) (v := ?_) rfl (by kernel_rfl) (by kernel_rfl) (by kernel_rfl) (fun _ _ _ h => h) (Or.inl ⟨by rfl, ?_⟩) (by assumption) ?_
        rotate_left
        · intro w hSw; (try dsimp only at hSw); go_simp; try with_reducible rfl
        try simp only [List.getElem_toArray, List.getElem_cons_zero, List.getElem_cons_succ, Act.put, List.setIfInBounds_toArray, List.set_cons_zero, List.set_cons_succ]
        refine wpAnyH_take (i := 8) (v := ?_) rfl (by kernel_rfl) (by kernel_rfl) (by kernel_rfl) (fun _ _ _ h => h) (Or.inl ⟨by rfl, ?_⟩) (by assumption) ?_
        rotate_left
        · intro w hSw; (try dsimp only at hSw); go_simp; try with_reducible rfl
        try simp only [List.getElem_toArray, List.getElem_cons_zero, List.getElem_cons_succ, Act.put, List.setIfInBounds_toArray, List.set_cons_zero, List.set_cons_succ]
        refine wpAnyH_take (i := 9) (v := ?_) rfl (by kernel_rfl) (by kernel_rfl) (by kernel_rfl) (fun _ _ _ h => h) (Or.inl ⟨by rfl, ?_⟩) (by assumption) ?_
        rotate_left
        · intro w hSw; (try dsimp only at hSw); go_simp; try with_reducible rfl
        try simp only [List.getElem_toArray, List.getElem_cons_zero, List.getElem_cons_succ, Act.put, List.setIfInBounds_toArray, List.set_cons_zero, List.set_cons_succ]
        refine wpAnyH_ready (rs := [10]) (by kernel_rfl) (by simp) ?_
        refine AllReadyH.cons rfl (fun K hK => ?_) AllReadyH.nil
        try simp only [List.getElem_toArray, List.getElem_cons_zero, List.getElem_cons_succ]
        go_simp
        refine hK.out _ _ (Key.out _ (hf2.alloc _)) (fun hHeld3 => ?_)
        clear hK K
        refine wpAnyH_ready (rs := [11]) (by kernel_rfl) (by simp) ?_
        refine AllReadyH.cons rfl (fun K hK => ?_) AllReadyH.nil
        refine step_store_row _ rfl 98 (.tmp 6) (.tmp 24) rfl w2.heap.size (tkK Z m zc t d).toArray _ 98 rfl rfl (heap_alloc_new w2 _) rfl (info18K Z m zc t d) (tkK_all Z m zc t d) fun w3 hb3 hf3 => ?_
        have hf13 : Fr Nob w1 w3 := (hf2.alloc _).trans hf3 (fun k hk e => by have := hf2.size; omega)
        have HsZ : Hid (Sl w3 (fun q => w1.heap.size ≤ q ∧ q < w3.heap.size ∧ q ≠ w2.heap.size) 27 3 (.slice Z m zc) m (cs.flatMap icsEn)) := Lib.hid (by
          have hz3 := hf3.size
          simp at hz3
          exact ((hsz2.alloc (.cells tkZ.toArray 98)).fr hf3 (fun q a e => by have := a.2; omega)).mono fun q hq a => ⟨by have := a.1; simpa using this, hq, by have := a.2; omega⟩)
        have htw : w1.heap.size ≤ w2.heap.size := hf2.size
        refine hK.out _ _ (Key.out _ hf13) (fun hHeld4 => ?_)
        clear hK K hf3 hf2 hf2' hHeld2 hHeld3 hHeld hsz2
        generalize w2.heap.size = tb at *
      rotate_left
      focus
        try simp only [List.getElem_toArray, List.getElem_cons_zero, List.getElem_cons_succ]
        go_simp
        refine hK.out _ _ (Key.out _ ((Fr.refl Nob w1).drew.alloc _)) (fun hHeld2 => ?_)
        clear hK K
        refine wpAnyH_ready (rs := [6]) (by kernel_rfl) (by simp) ?_
        refine AllReadyH.cons rfl (fun K hK => ?_) AllReadyH.nil
        simp only [List.getElem_toArray, List.getElem_cons_zero, List.getElem_cons_succ]
        go_simp
        refine (Hget.out _ ((Fr.refl Nob w1).drew.alloc _)).mono ?_
        rintro e w2 ⟨Z, zc, rfl, hf2', hsz2⟩
        have hf2 : Fr Nob w1 w2 := ((Fr.refl Nob w1).drew.alloc _).trans0 hf2'
        refine hK.out _ _ (Key.out _ hf2) (fun hHeld3 => ?_)
        clear hK K
        refine wpAnyH_take (i := 7) (v := ?_) rfl (by kernel_rfl) (by kernel_rfl) (by kernel_rfl) (fun _ _ _ h => h) (Or.inl ⟨by rfl, ?_⟩) (by assumption) ?_
        rotate_left
        · intro w hSw; (try dsimp only at hSw); go_simp; try with_reducible rfl
        try simp only [List.getElem_toArray, List.getElem_cons_zero, List.getElem_cons_succ, Act.put, List.setIfInBounds_toArray, List.set_cons_zero, List.set_cons_succ]
        refine wpAnyH_take (i := 8) (v := ?_) rfl (by kernel_rfl) (by kernel_rfl) (by kernel_rfl) (fun _ _ _ h => h) (Or.inl ⟨by rfl, ?_⟩) (by assumption) ?_
        rotate_left
        · intro w hSw; (try dsimp only at hSw); go_simp; try with_reducible rfl
        try simp only [List.getElem_toArray, List.getElem_cons_zero, List.getElem_cons_succ, Act.put, List.setIfInBounds_toArray, List.set_cons_zero, List.set_cons_succ]
        refine wpAnyH_take (i := 9) (v := ?_) rfl (by kernel_rfl) (by kernel_rfl) (by kernel_rfl) (fun _ _ _ h => h) (Or.inl ⟨by rfl, ?_⟩) (by assumption) ?_
        rotate_left
        · intro w hSw; (try dsimp only at hSw); go_simp; try with_reducible rfl
        try simp only [List.getElem_toArray, List.getElem_cons_zero, List.getElem_cons_succ, Act.put, List.setIfInBounds_toArray, List.set_cons_zero, List.set_cons_succ]
        refine wpAnyH_ready (rs := [11]) (by kernel_rfl) (by simp) ?_
        refine AllReadyH.cons rfl (fun K hK => ?_) AllReadyH.nil
        refine step_store_row _ rfl 98 (.tmp 6) (.tmp 24) rfl w1.heap.size (tkK Z m zc t d).toArray _ 98 rfl rfl (hf2'.blk (fun q => q) (heap_alloc_new w1.drew _)) rfl (info18K Z m zc t d) (tkK_all Z m zc t d) fun w3 hb3 hf3 => ?_
        have hf13 : Fr Nob w1 w3 := hf2.trans hf3 (fun k hk e => by omega)
        have HsZ : Hid (Sl w3 (fun q => w1.heap.size ≤ q ∧ q < w3.heap.size ∧ q ≠ w1.heap.size) 27 3 (.slice Z m zc) m (cs.flatMap icsEn)) := Lib.hid (by
          exact (hsz2.fr hf3 (fun q a e => by have := a.1; simp at this; omega)).mono fun q hq a => ⟨by have := a.1; simp at this; omega, hq, by have := a.1; simp at this; omega⟩)
        have htw : w1.heap.size ≤ w1.heap.size := Nat.le_refl _
        refine hK.out _ _ (Key.out _ hf13) (fun hHeld4 => ?_)
        clear hK K hf3 hf2 hf2' hHeld2 hHeld3 hHeld hsz2
        obtain ⟨tb, htb⟩ : ∃ tb, tb = w1.heap.size := ⟨_, rfl⟩
        rw [← htb] at hb3
        replace HsZ : Hid (Sl w3 (fun q => w1.heap.size ≤ q ∧ q < w3.heap.size ∧ q ≠ tb) 27 3 (.slice Z m zc) m (cs.flatMap icsEn)) := by rw [htb]; exact HsZ
        try rw [← htb]
        replace htw : w1.heap.size ≤ tb := by omega
        clear htb
      all_goals
        refine wpAnyH_take (i := 12) (v := ?_) rfl (by kernel_rfl) (by kernel_rfl) (by kernel_rfl) (fun _ _ _ h => h) (Or.inl ⟨by rfl, ?_⟩) (by assumption) ?_
        rotate_left
        · intro w hSw; (try dsimp only at hSw); go_simp; try with_reducible rfl
        try simp only [List.getElem_toArray, List.getElem_cons_zero, List.getElem_cons_succ, Act.put, List.setIfInBounds_toArray, List.set_cons_zero, List.set_cons_succ]
        refine wpAnyH_done (by kernel_rfl) ?_ _
        try simp only [List.getElem_toArray, List.getElem_cons_zero, List.getElem_cons_succ, Act.put, List.setIfInBounds_toArray, List.set_cons_zero, List.set_cons_succ]
        have Hf13 := Lib.hid hf13; have Hb3 := Lib.hid hb3; have Htw := Lib.hid htw
        clear htw hf13 hb3
        have c2 := kc2 Hb3.out
        rcases Hcase.out with ⟨h2, hs1⟩ | ⟨h2, hpn, hfw, hcb, ⟨A', B', C', hA, hB, hC, h13, h14, h15⟩, hop, hline, hll, hp1, hp2, hev, lq, hlq, hs1⟩
        · subst hs1
          go_wp2_with fail
          go_roundw
          case rel =>
            have hf : Fr Nob wr w3 := Hfw1.out.trans0 Hf13.out
            exact ⟨k + 1, s1, by omega, rfl, Lib.hid ⟨Hrest.out, (Hr.out.nx.fr0 hf).mono (by omega) (Nat.le_refl _), Hr.out.sl.fr hf fun _ _ q => q⟩⟩
          case measure =>
            show n - ((k : Int) + 1).toNat < n - ((k : Int)).toNat
            omega
        · rw [h2] at c2
          subst hpn
          have hSlt := Ha1.out.lt
          have hgz : ∀ g off, Z = some ⟨g, off, none⟩ → ¬ S1 g := fun g off e q => by
            subst e
            have hz1 := Hzw1.out
            rcases HsZ.out.2 with ⟨h1, _⟩ | ⟨g2, o2, c2', bl, h1, hg, _⟩
            · cases h1
            · injection h1 with h1
              injection h1 with h1
              injection h1 with h1
              have h9 : w1.heap.size ≤ g2 := hg.1; have := hSlt g q; omega
          have hpass : Calls Tryz.prog 121 #[ptV wb, .agg (tkK Z m zc t d).toArray, .agg #[inV (i : Int), inV kase, inV val, .bool ok, .bool false]] w3 fun e w' => e = .returned (.tuple #[]) ∧ Nx w3 S1 wb P sk (nd + k + 1) nm w' := by
            have ha := Ha1.out.fr0 (Hfw1.out.trans0 Hf13.out)
            rcases hop with ⟨_, h12 | ⟨h12, rfl⟩⟩ | ⟨h12, rfl, kk, a, vl, rfl, ha8, hz⟩
            · exact passed_sendK ha Z m zc t d h12 A' B' hA hB h13 h14 i kase val (by omega) ok (by omega)
            · exact passed_recvK ha Z m zc t d h12 A' hA h13 i kase val (by omega) (by omega)
            · exact passed_selK ha Z m zc t d h12 cs HsZ.out.rd hgz kk (by rw [← Hm.out]; exact (List.getElem?_eq_some_iff.1 hz).1) a vl hz ha8 i val (by omega) (by omega)
          have htold : ToldC t d cs m i kase val ok (toldT t cs kase val ok) := by
            intro W tb' Z' zc' hb' hr' hg'
            unfold toldT
            rcases hop with ⟨_, h12 | ⟨h12, rfl⟩⟩ | ⟨h12, rfl, kk, a, vl, rfl, ha8, hz⟩
            · rw [if_neg (by omega), if_neg (by omega)]
              exact told_sentK W Z' m zc' tb' t d hb' h12 _ _ _ _ _
            · rw [if_neg (by omega), if_pos h12, h14, h15]
              exact told_gotK W Z' m zc' tb' t d hb' h12 B' C' hB hC h14 h15 _ _ _ _ _
            · rw [if_pos h12, h13, h14, h15, show ((kk : Int)).toNat = kk by omega, show ((A' : Int)).toNat = A' by omega, show ((B' : Int)).toNat = B' by omega, show ((C' : Int)).toNat = C' by omega, hz]
              exact told_sel W Z' m zc' tb' t d hb' h12 A' B' C' hA hB hC h13 h14 h15 cs hr' i kk (false, (a : Int), vl) hz (by rw [← Hm.out]; exact (List.getElem?_eq_some_iff.1 hz).1) hg' val true false
          have Hgz := Lib.hid hgz; have Hlq := Lib.hid hlq; have Hfw := Lib.hid hfw; have Hcb := Lib.hid hcb
          clear hgz hSlt hlq hfw hcb
          have Hpass := Lib.hid hpass; have Htold := Lib.hid htold
          clear hpass htold
          have HxW := Lib.hid (fun W (hW : Fr Nob w3 W) => (Hf13.out.trans0 hW).blk (fun q => q) Hbw1.out)
          have kx := HxW.out w3 (Fr.refl _ _)
          have kx0 := blk_cell kx 0 rfl; have kx1 := blk_cell kx 1 rfl; have kx2 := blk_cell kx 2 rfl; have kx3 := blk_cell kx 3 rfl; have kx4 := blk_cell kx 4 rfl
          go_wp2_with (refine wpList_load_row rfl 98 (.tmp 6) rfl tb rfl 98 (tkK Z m zc t d).toArray (0, 0) _ Hb3.out rfl rfl (info18K Z m zc t d) ?_)
          refine Hpass.out.mono ?_
          rintro e w4 ⟨rfl, S4, hf4, ha4, hs4⟩
          have hlt1 := Ha1.out.lt
          have hz1 := Hzw1.out
          have hn1 : ∀ q, S1 q → q < xb ∧ q < tb := fun q hq => by have := hlt1 q hq; have := Htw.out; omega
          have hb4 := hf4.blk (fun q => Nat.lt_irrefl _ (hn1 _ q).2) Hb3.out
          have hx4 := hf4.blk (fun q => Nat.lt_irrefl _ (hn1 _ q).1) (HxW.out w3 (Fr.refl _ _))
          have r4 := kc4 hb4; have r5 := kc5 hb4; have r6 := kc6 hb4; have r7 := kc7 hb4; have r8 := kc8 hb4; have r9 := kc9 hb4; have r10 := kc10 hb4; have r11 := kc11 hb4
          have r12 := kc12 hb4; have r13 := kc13 hb4; have r14 := kc14 hb4; have r15 := kc15 hb4; have r16 := kc16 hb4; have r17 := kc17 hb4
          have Hb4 := Lib.hid hb4; have Hx4 := Lib.hid hx4; have Ha4 := Lib.hid ha4; have Hf4 := Lib.hid hf4; have Hs4 := Lib.hid hs4; have Hop := Lib.hid hop; have Hs1 := Lib.hid hs1; have Hline := Lib.hid hline
          clear hb4 hx4 ha4 hf4 hs4 kx kx0 kx1 kx2 kx3 kx4 c2 hHeld4 hlt1 hop h13 h14 h15 hs1 hline
          go_wp2_with fail
          obtain ⟨F4, c4, h4, hwb4, hS4⟩ := Ha4.out
          have hsz4 := (HsZ.out.fr Hf4.out fun q a b => by have := Ha1.out.lt q b; have := Hzw1.out; have a9 : w1.heap.size ≤ q := a.1; omega)
          have Hcs := Lib.hid (world_cases h4 (t 12) (t 13) (t 14) (t 15) (.slice Z m zc) d cs m Hm.out (by have := Hm.out; have := Hcl.out; omega) hsz4.rd (regsOf t) Hcb.out Hlq.out)
          rw [hwb4] at Hcs
          have hlm := (cases_get Hlq.out).1
          have hqok := cases_ok h4.chn Hlq.out
          have hq1000 : Few sk.ch 1000 := fun j cc hj => by
            have hlt : j < sk.nch := by have := h4.chn j; rw [hj] at this; simpa using this.symm
            have := few_of Hfw.out hlt hj
            omega
          have HLv := Lib.hid (fun W (hW : Fr Nob w4 W) v (T' : Nat → Prop) (hs : Sl W T' 242 3 v m (css c4.B lq)) (hd' : ∀ q, T' q → w4.heap.size ≤ q) => choose_leave ((h4.fr0 hW).pool id) v lq m (by rw [hlm, Hm.out]) T' hs (fun q a b => by have := h4.lt 11 q a; have := hd' q b; omega) hqok (by have := Hm.out; have := Hcl.out; omega) hq1000 (i : Int) _ rfl)
          have H4 := Lib.hid h4; have HS4 := Lib.hid hS4; have Hwb4 := Lib.hid hwb4
          clear h4 hS4 hwb4 hsz4 hlm hqok hq1000
          refine Hcs.out.mono ?_
          rintro e w5 ⟨vq, rfl, hf5, hsq⟩
          obtain ⟨Aq, cq, rfl⟩ := hsq.slice
          have hx5 := hf5.blk (fun q => q) Hx4.out
          have x50 := blk_cell hx5 0 rfl
          have Hf5 := Lib.hid hf5; have Hsq := Lib.hid hsq
          clear r4 r5 r6 r7 r8 r9 r10 r11 r12 r13 r14 r15 r16 r17 hx5 hf5 hsq
          go_wp2_with fail
          refine (HLv.out w5 Hf5.out _ _ Hsq.out (fun q a => a.1)).mono ?_
          rintro e w6 ⟨rfl, hf6, hp6⟩
          have h6w := (H4.out.fr0 Hf5.out).pool0 hf6 hp6 (fun j => by rw [leaveF_some]; exact H4.out.chn j)
          have hf46 : Fr S4 w4 w6 := Hf5.out.none.trans0 (hf6.mono fun q _ a => (HS4.out q).2 ⟨11, a⟩)
          have ha6 : WAt w6 S4 wb P { sk with ch := leaveF (i : Int) lq sk.ch } (nd + k + 1) nm := ⟨F4, c4, h6w, Hwb4.out, HS4.out⟩
          obtain ⟨F6, c6, h6, hwb6, hS6⟩ := ha6
          have hcas6 := (h6.cas id).2 i t d cs Hi.out
          obtain ⟨cv6, htsv6, hcsl6, _⟩ := hcas6
          rw [Hm.out] at hcsl6
          obtain ⟨Z6, zc6, rfl⟩ := hcsl6.slice
          have hS6lt : ∀ q, S4 q → q ≠ xb := fun q hq e => by
            rcases Hs4.out q hq with a | a
            · have := (hn1 q a).1; omega
            · have e1 := Hzw1.out; have e2 := Hf13.out.size; omega
          have ht1 : (toldT t cs kase val ok) 1 = t 1 := told1 Hop.out
          have Hwk := Lib.hid (fun W (hW : Fr Nob w6 W) => wake_okC ((h6.fr0 hW).tab id) i t d cs m Hm.out (by have := Hm.out; have := Hcl.out; omega) htsv6 (hcsl6.rd.fr hW) kase val ok (by simp [h2]) (toldT t cs kase val ok) Htold.out (by rw [ht1]; rw [IntKind.wrap_i64]; omega) Hline.out hll)
          have hx6 := hf46.blk (fun q => hS6lt xb q rfl) Hx4.out
          have c62 := blk_cell (h6.blk id) 2 rfl
          rw [hwb6] at c62
          have h26 : ¬ F6 2 wb := fun q => by rw [← hwb6] at q; exact absurd (h6.dis _ _ _ q h6.own0) (by decide)
          have hx26 : ¬ F6 2 xb := fun q => hS6lt xb ((hS6 _).2 ⟨2, q⟩) rfl
          have key6 : ∀ W, Fr (F6 2) w6 W → W.cell? ⟨wb, 2, none⟩ = some (ptV c6.tb) ∧ W.cell? ⟨xb, 0, none⟩ = some (inV (i : Int)) ∧ W.cell? ⟨xb, 1, none⟩ = some (inV kase) ∧ W.cell? ⟨xb, 2, none⟩ = some (inV val) ∧ W.cell? ⟨xb, 3, none⟩ = some (.bool ok) ∧ W.cell? ⟨xb, 4, none⟩ = some (.bool false) := fun W hW => by
            have q := hW.blk hx26 hx6
            exact ⟨hW.cell h26 c62, blk_cell q 0 rfl, blk_cell q 1 rfl, blk_cell q 2 rfl, blk_cell q 3 rfl, blk_cell q 4 rfl⟩
          have Key6 := Lib.hid key6; have H6 := Lib.hid h6; have HS6 := Lib.hid hS6; have Hwb6 := Lib.hid hwb6; have Hf46 := Lib.hid hf46; have Hne := Lib.hid hS6lt; have Hx26 := Lib.hid hx26; have Hx6 := Lib.hid hx6
          clear key6 h6 hS6 hwb6 hf46 hf6 hp6 h6w hx6 c62 htsv6 hcsl6 h26 hx26 hS6lt x50 ht1 hz1
          go_wp2_with fail
          have hf0 : Fr (F6 2) w6 w6 := Fr.refl _ _
          go_region_held3 (fun W => W.cell? ⟨wb, 2, none⟩ = some (ptV c6.tb) ∧ W.cell? ⟨xb, 0, none⟩ = some (inV (i : Int)) ∧ W.cell? ⟨xb, 1, none⟩ = some (inV kase) ∧ W.cell? ⟨xb, 2, none⟩ = some (inV val) ∧ W.cell? ⟨xb, 3, none⟩ = some (.bool ok) ∧ W.cell? ⟨xb, 4, none⟩ = some (.bool false))
            ((refine Key6.out _ ?_; first | with_reducible exact hf7 | with_reducible exact hf0 | exact hf0.drew))
            ((go_at_call 124; refine (Hwk.out w6.drew ((Fr.refl Nob w6).drew)).mono ?_; rintro e w7 ⟨T7, rfl, hf7', ht7, hs7⟩; have hf7 : Fr (F6 2) w6 w7 := (hf0.drew).trans0 hf7'; have Ht7 := Lib.hid ht7; have Hs7 := Lib.hid hs7; clear ht7 hs7 hf7'))
          have hc7 : CasesAt w7 (F6 10) (c6.tsv.set i (wakeT (toldT t cs kase val ok), false, .slice none 0 0)) (sk.ts.set i (wakeT (toldT t cs kase val ok), false, [])) := ((H6.out.cas id).fr hf7 fun k a b => absurd (H6.out.dis _ _ _ a b) (by decide)).set _ _ _
          have hnx7 := WAt.tabled HS6.out H6.out hf7 Ht7.out (fun k q => Hs7.out k q) hc7
          rw [Hwb6.out] at hnx7
          obtain ⟨S7, f7, a7, s7⟩ := hnx7
          have hx7 := hf7.blk Hx26.out Hx6.out
          have x74 := blk_cell hx7 4 rfl
          have hne7 : ¬ S7 xb := fun q => by
            rcases s7 xb q with a | a
            · exact Hne.out xb a rfl
            · have e1 := Hzw1.out; have e2 := Hf13.out.size; have e3 := Hf4.out.size; have e4 := Hf46.out.size; omega
          have key7 : ∀ W, Fr S7 w7 W → W.cell? ⟨xb, 0, none⟩ = some (inV (i : Int)) ∧ W.cell? ⟨xb, 1, none⟩ = some (inV kase) ∧ W.cell? ⟨xb, 2, none⟩ = some (inV val) ∧ W.cell? ⟨xb, 3, none⟩ = some (.bool ok) := fun W hW => by
            have q := hW.blk hne7 hx7
            exact ⟨blk_cell q 0 rfl, blk_cell q 1 rfl, blk_cell q 2 rfl, blk_cell q 3 rfl⟩
          have Htell := Lib.hid (fun W (hW : Fr Nob w7 W) => world_tell (a7.fr0 hW) 3 (i : Int) kase val (bitI ok) (by show sk.ev.length < 1000000; omega))
          have Key7 := Lib.hid key7; have Hf7 := Lib.hid f7; have Hs7' := Lib.hid s7; have Hnx7 := Lib.hid hn1
          clear hf7 hf0 hc7 f7 a7 s7 hx7 hne7 key7 hn1
          go_wp2_with fail
          clear x74
          have hf0 : Fr S7 w7 w7 := Fr.refl _ _
          go_region_held3 (fun W => W.cell? ⟨xb, 0, none⟩ = some (inV (i : Int)) ∧ W.cell? ⟨xb, 1, none⟩ = some (inV kase) ∧ W.cell? ⟨xb, 2, none⟩ = some (inV val) ∧ W.cell? ⟨xb, 3, none⟩ = some (.bool ok))
            ((refine Key7.out _ ?_; first | with_reducible exact hf8 | with_reducible exact hf0 | exact hf0.drew))
            ((first | (go_at_call 125; refine (world_bit w7.drew ok).mono ?_; rintro e w8 ⟨rfl, rfl⟩) | (go_at_call 28; refine (Htell.out w7.drew ((Fr.refl Nob w7).drew)).mono ?_; rintro e w8 ⟨rfl, hn8⟩; obtain ⟨S8, f8, a8, s8⟩ := hn8; have hf8 : Fr S7 w7 w8 := (hf0.drew).trans0 f8; have Ha8 := Lib.hid a8; have Hs8 := Lib.hid s8; clear f8 a8 s8)))
          go_wp2_with fail
          all_goals
            have n8 : Nx w7 S7 wb P s1 (nd + k + 1) nm w8 := by rw [Hs1.out]; exact ⟨S8, hf8, Ha8.out, Hs8.out⟩
            have n3 : Nx wr S1 wb P s1 (nd + k + 1) nm w8 := Nx.from0 Hfw1.out (Nx.from0 Hf13.out (Nx.step Hf4.out Hs4.out (Nx.step Hf46.out (fun q a => .inl a) (Nx.step Hf7.out Hs7'.out n8))))
            refine ⟨⟨k + 1, s1, by omega, rfl, Lib.hid ⟨Hrest.out, Nx.step Hf1.out Hss1.out n3, n3.beside Hr.out.sl fun q a b => ?_⟩⟩, ?_⟩
            · rcases Hss1.out q a with e | e
              · exact Hd.out q e b
              · have := HT.out q b; omega
            · show n - ((k : Int) + 1).toNat < n - ((k : Int)).toNat
              omega
    · have hint : ¬ (k : Int) < n := by omega
      have hkn : k = n := by omega
      go_wp2_with fail
      go_end0
      have := hr.out.rest
      rw [List.drop_of_length_le (by rw [Hn.out]; omega)] at this
      simp only [WS.wake, Option.some.injEq] at this
      subst this
      subst hkn
      exact ⟨rfl, hr.out.nx⟩
/-- What of an instruction on its way stays. -/
structure Ax where
  wb : Nat
  id : Int
  o : Int
  a : Int
  b : Int
  c : Int
  cv : Value
  d : Bool
  u : Nat → Int
  draw : Int
def actL (x : Ax) (r : Nat → Int) (how : Int) (pk : Bool) : List Value := [ptV x.wb, inV x.id, inV x.o, inV x.a, inV x.b, inV x.c, x.cv, .bool x.d, inV (x.u 0), inV (x.u 1), inV (x.u 2), inV (x.u 3), inV (x.u 4), inV (x.u 5), inV (x.u 6), inV (x.u 7), inV (r 0), inV (r 1), inV (r 2), inV (r 3), inV (r 4), inV (r 5), inV (r 6), inV (r 7), inV x.draw, inV how, .bool pk]
def ActAt (w : World) (ab : Nat) (x : Ax) (r : Nat → Int) (how : Int) (pk : Bool) : Prop := w.heap[ab]? = some (.cells (actL x r how pk).toArray 144 (0, 0))
section
variable {w : World} {ab : Nat} {x : Ax} {r : Nat → Int} {how : Int} {pk : Bool} (h : ActAt w ab x r how pk)
include h
theorem ActAt.lt : ab < w.heap.size := lt_of_block h
theorem ActAt.fr {w' : World} {T : Nat → Prop} (hf : Fr T w w') (hT : ¬ T ab) : ActAt w' ab x r how pk := hf.blk hT h
theorem xc0 : w.cell? ⟨ab, 0, none⟩ = some (ptV x.wb) := blk_cell h 0 rfl
theorem xc1 : w.cell? ⟨ab, 1, none⟩ = some (inV x.id) := blk_cell h 1 rfl
theorem xc2 : w.cell? ⟨ab, 2, none⟩ = some (inV x.o) := blk_cell h 2 rfl
theorem xc3 : w.cell? ⟨ab, 3, none⟩ = some (inV x.a) := blk_cell h 3 rfl
theorem xc4 : w.cell? ⟨ab, 4, none⟩ = some (inV x.b) := blk_cell h 4 rfl
theorem xc5 : w.cell? ⟨ab, 5, none⟩ = some (inV x.c) := blk_cell h 5 rfl
theorem xc6 : w.cell? ⟨ab, 6, none⟩ = some (x.cv) := blk_cell h 6 rfl
theorem xc7 : w.cell? ⟨ab, 7, none⟩ = some (.bool x.d) := blk_cell h 7 rfl
theorem xc8 : w.cell? ⟨ab, 8, none⟩ = some (inV (x.u 0)) := blk_cell h 8 rfl
theorem xc9 : w.cell? ⟨ab, 9, none⟩ = some (inV (x.u 1)) := blk_cell h 9 rfl
theorem xc10 : w.cell? ⟨ab, 10, none⟩ = some (inV (x.u 2)) := blk_cell h 10 rfl
theorem xc11 : w.cell? ⟨ab, 11, none⟩ = some (inV (x.u 3)) := blk_cell h 11 rfl
theorem xc12 : w.cell? ⟨ab, 12, none⟩ = some (inV (x.u 4)) := blk_cell h 12 rfl
theorem xc13 : w.cell? ⟨ab, 13, none⟩ = some (inV (x.u 5)) := blk_cell h 13 rfl
theorem xc14 : w.cell? ⟨ab, 14, none⟩ = some (inV (x.u 6)) := blk_cell h 14 rfl
theorem xc15 : w.cell? ⟨ab, 15, none⟩ = some (inV (x.u 7)) := blk_cell h 15 rfl
theorem xc16 : w.cell? ⟨ab, 16, none⟩ = some (inV (r 0)) := blk_cell h 16 rfl
theorem xc17 : w.cell? ⟨ab, 17, none⟩ = some (inV (r 1)) := blk_cell h 17 rfl
theorem xc18 : w.cell? ⟨ab, 18, none⟩ = some (inV (r 2)) := blk_cell h 18 rfl
theorem xc19 : w.cell? ⟨ab, 19, none⟩ = some (inV (r 3)) := blk_cell h 19 rfl
theorem xc20 : w.cell? ⟨ab, 20, none⟩ = some (inV (r 4)) := blk_cell h 20 rfl
theorem xc21 : w.cell? ⟨ab, 21, none⟩ = some (inV (r 5)) := blk_cell h 21 rfl
theorem xc22 : w.cell? ⟨ab, 22, none⟩ = some (inV (r 6)) := blk_cell h 22 rfl
theorem xc23 : w.cell? ⟨ab, 23, none⟩ = some (inV (r 7)) := blk_cell h 23 rfl
theorem xc25 : w.cell? ⟨ab, 25, none⟩ = some (inV how) := blk_cell h 25 rfl
theorem xc26 : w.cell? ⟨ab, 26, none⟩ = some (.bool pk) := blk_cell h 26 rfl
theorem xcU (y : Nat) (hy : y < 8) : w.cell? ⟨ab, 8 + y, none⟩ = some (inV (x.u y)) := by
  have : y = 0 ∨ y = 1 ∨ y = 2 ∨ y = 3 ∨ y = 4 ∨ y = 5 ∨ y = 6 ∨ y = 7 := by omega
  rcases this with rfl | rfl | rfl | rfl | rfl | rfl | rfl | rfl
  · exact xc8 h
  · exact xc9 h
  · exact xc10 h
  · exact xc11 h
  · exact xc12 h
  · exact xc13 h
  · exact xc14 h
  · exact xc15 h
theorem xp0 (v : Int) : ActAt (w.setCell ⟨ab, 16, none⟩ (inV v)) ab x (updR r 0 v) how pk := blk_set h 16 (inV v)
theorem xp1 (v : Int) : ActAt (w.setCell ⟨ab, 17, none⟩ (inV v)) ab x (updR r 1 v) how pk := blk_set h 17 (inV v)
theorem xp2 (v : Int) : ActAt (w.setCell ⟨ab, 18, none⟩ (inV v)) ab x (updR r 2 v) how pk := blk_set h 18 (inV v)
theorem xp3 (v : Int) : ActAt (w.setCell ⟨ab, 19, none⟩ (inV v)) ab x (updR r 3 v) how pk := blk_set h 19 (inV v)
theorem xp4 (v : Int) : ActAt (w.setCell ⟨ab, 20, none⟩ (inV v)) ab x (updR r 4 v) how pk := blk_set h 20 (inV v)
theorem xp5 (v : Int) : ActAt (w.setCell ⟨ab, 21, none⟩ (inV v)) ab x (updR r 5 v) how pk := blk_set h 21 (inV v)
theorem xp6 (v : Int) : ActAt (w.setCell ⟨ab, 22, none⟩ (inV v)) ab x (updR r 6 v) how pk := blk_set h 22 (inV v)
theorem xp7 (v : Int) : ActAt (w.setCell ⟨ab, 23, none⟩ (inV v)) ab x (updR r 7 v) how pk := blk_set h 23 (inV v)
theorem xpR (y : Nat) (hy : y < 8) (v : Int) : ActAt (w.setCell ⟨ab, 16 + y, none⟩ (inV v)) ab x (updR r y v) how pk := by
  have : y = 0 ∨ y = 1 ∨ y = 2 ∨ y = 3 ∨ y = 4 ∨ y = 5 ∨ y = 6 ∨ y = 7 := by omega
  rcases this with rfl | rfl | rfl | rfl | rfl | rfl | rfl | rfl
  · exact xp0 h v
  · exact xp1 h v
  · exact xp2 h v
  · exact xp3 h v
  · exact xp4 h v
  · exact xp5 h v
  · exact xp6 h v
  · exact xp7 h v
theorem xpP (v : Bool) : ActAt (w.setCell ⟨ab, 26, none⟩ (.bool v)) ab x r how v := blk_set h 26 (.bool v)
end
section
variable {w : World} {ab : Nat} {x : Ax} {r : Nat → Int} {how : Int} {pk : Bool} (h : ActAt w ab x r how pk)
include h
theorem act_a (A : Nat) (hA : A < 8) (e : x.a = (A : Int)) : Calls Tryz.prog 93 #[ptV ab] w fun e w' => e = .returned (inV (x.u A)) ∧ Fr Nob w w' := by
  have k0 := xc3 h
  rw [e] at k0
  have k1 := xcU h A hA
  have hAi : (A : Int) < 8 := by omega
  have H := Lib.hid h
  clear h
  go_enter Tryz.func93, Tryz.ntmps93
  go_wp2_with fail
  go_quiet (fail)
  go_wp2_with fail
  go_ret
  exact ⟨rfl, (Fr.refl _ _).drewN _⟩
theorem act_b (A : Nat) (hA : A < 8) (e : x.b = (A : Int)) : Calls Tryz.prog 94 #[ptV ab] w fun e w' => e = .returned (inV (x.u A)) ∧ Fr Nob w w' := by
  have k0 := xc4 h
  rw [e] at k0
  have k1 := xcU h A hA
  have hAi : (A : Int) < 8 := by omega
  have H := Lib.hid h
  clear h
  go_enter Tryz.func94, Tryz.ntmps94
  go_wp2_with fail
  go_quiet (fail)
  go_wp2_with fail
  go_ret
  exact ⟨rfl, (Fr.refl _ _).drewN _⟩
omit h in
theorem act_bad : Calls Tryz.prog 95 #[ptV ab, inV 0] w fun e w' => e = .returned (.bool false) ∧ w = w' := by
  go_enter Tryz.func95, Tryz.ntmps95
  go_wp2_with fail
  go_ret
  exact ⟨rfl, rfl⟩
end
theorem chn_upd {f : Nat → Option ChS} {n : Nat} (h : ∀ i, (f i).isSome = decide (i < n)) {j : Nat} {c : ChS} (hj : f j = some c) (x : ChS) : ∀ i, (Go.Proofs.YtcffplgimbbflaaGreat.upd f j (some x) i).isSome = decide (i < n) := fun i => by
  by_cases e : i = j
  · subst e; rw [upd_same, ← h, hj]; rfl
  · rw [upd_ne _ _ e]; exact h i
theorem upd_upd {α : Type} (f : Nat → α) (n : Nat) (x y : α) : Go.Proofs.YtcffplgimbbflaaGreat.upd (Go.Proofs.YtcffplgimbbflaaGreat.upd f n x) n y = Go.Proofs.YtcffplgimbbflaaGreat.upd f n y := by
  funext j; by_cases e : j = n
  · subst e; rw [upd_same, upd_same]
  · rw [upd_ne _ _ e, upd_ne _ _ e, upd_ne _ _ e]
/-- The pool has turned, and grown. -/
theorem WAt.pooled {w w' : World} {S : Nat → Prop} {F : Nat → Nat → Prop} {c : Cfg} {P : Pg} {st : WS} {nd nm : Nat} (hS : ∀ k, S k ↔ Un F k) (h : WP H0 w F c P st nd nm) (hf : Fr (F 11) w w') {T : Nat → Prop} {P' : Nat → Option ChS} (hp : Pool w' T c.B P') (hlt : ∀ k, T k → k < w'.heap.size) (hT : ∀ k, T k → F 11 k ∨ w.heap.size ≤ k) (hchn : ∀ i, (P' i).isSome = decide (i < st.nch)) : Nx w S c.wb P { st with ch := P' } nd nm w' := by
  have h' := h.part 11 hf
  exact WAt.of hS (hf.mono fun k _ q => ⟨11, q⟩) (c' := c) (F' := Go.Proofs.YtcffplgimbbflaaGreat.upd F 11 T) ⟨fam_lt h.lt hf.size hlt, fam_dis h.lt h.dis hT, h'.own0, h'.own1, fun _ => h'.blk (by decide), fun _ => h'.clk (by decide), fun _ => h'.tab (by decide), fun _ => h'.chs (by decide), fun _ => h'.tim (by decide), fun _ => h'.ctx (by decide), fun _ => h'.dls (by decide), fun _ => h'.lks (by decide), fun _ => h'.prg (by decide), fun _ => h'.evs (by decide), fun _ => h'.cas (by decide), fun _ => hp, hchn, h'.tml, h'.cxl, h'.pad⟩ rfl (fam_un (fun p k q => ⟨p, q⟩) hT)
/-- An instruction is done, or its task is to wait. -/
def Ay (w : World) (S : Nat → Prop) (ab : Nat) (x : Ax) (P : Pg) (s : WS) (nd nm : Nat) (o : Option (Nat → Int)) (w' : World) : Prop := ∃ S' : Nat → Prop, Fr (fun k => S k ∨ k = ab) w w' ∧ WAt w' S' x.wb P s nd nm ∧ (∀ k, S' k → S k ∨ w.heap.size ≤ k) ∧ (match o with | some r => ActAt w' ab x r 0 false | none => ∃ r, ActAt w' ab x r 0 true)
/-- The world has turned, the instruction's block has not. -/
theorem Ay.of {w w' : World} {S : Nat → Prop} {ab : Nat} {x : Ax} {P : Pg} {s : WS} {nd nm nd' nm' : Nat} (hn : Nx w S x.wb P s nd nm w') (h1 : nd ≤ nd') (h2 : nm ≤ nm') {r : Nat → Int} (ha : ActAt w ab x r 0 false) (hab : ¬ S ab) : Ay w S ab x P s nd' nm' (some r) w' := by
  obtain ⟨S', hf, hw, hs⟩ := hn
  exact ⟨S', hf.mono fun k _ q => .inl q, hw.mono h1 h2, hs, ha.fr hf hab⟩
/-- The wakes that a channel tells lie apart from the world. -/
theorem wakes_mono {w w1 : World} {A : Option Addr} {cp n : Nat} {cs : List Value} (h : Sl w1 (From w.heap.size) 225 5 (.slice A n cp) n cs) : Sl w1 (fun k => w.heap.size ≤ k ∧ k < w1.heap.size) 225 5 (.slice A n cp) n cs := h.mono fun k hk q => ⟨q, hk⟩
theorem wakes_some {st s : WS} {l : List Wk} (h : st.wakes l = some s) : l.length < 1000 ∧ st.wake l = some s := by
  unfold WS.wakes at h
  split at h
  · cases h
  · exact ⟨by omega, h⟩
theorem actSend_some {st s : WS} {id i : Nat} {cc : ChS} {v : Int} {r : Nat → Int} {o : Option (Nat → Int)} (h : st.actSend id i cc v r = some (s, o)) :
    (∃ l, cc.sendR v = (true, l, 0) ∧ ({ st with ch := Go.Proofs.YtcffplgimbbflaaGreat.upd st.ch i (some (cc.sendS v)) } : WS).wakes l = some s ∧ o = some r) ∨
    (∃ l, cc.sendR v = (false, l, 0) ∧ s = { st with ch := Go.Proofs.YtcffplgimbbflaaGreat.upd st.ch i (some ((cc.sendS v).waitS ((id : Int), 0, v) true)) } ∧ o = none) := by
  unfold WS.actSend at h
  rcases hq : cc.sendR v with ⟨d, l, er⟩
  simp only [hq] at h
  split at h
  · cases h
  · next he =>
    have he : er = 0 := by omega
    subst he
    split at h
    · next hd =>
      subst hd
      split at h
      · cases h
      · next s1 h1 => cases h; exact .inl ⟨l, rfl, h1, rfl⟩
    · next hd =>
      have hd : d = false := by simpa using hd
      subst hd
      cases h
      exact .inr ⟨l, rfl, rfl, rfl⟩
theorem few_sendS (c : ChS) (v : Int) : (c.sendS v).rv.length ≤ c.rv.length ∧ (c.sendS v).sd.length ≤ c.sd.length := by
  unfold ChS.sendS
  split
  · exact ⟨Nat.le_refl _, Nat.le_refl _⟩
  · split
    · exact ⟨Nat.le_refl _, Nat.le_refl _⟩
    · split
      · next e => rw [e]; simp
      · split <;> exact ⟨Nat.le_refl _, Nat.le_refl _⟩
section
variable {w : World} {S : Nat → Prop} {F : Nat → Nat → Prop} {c : Cfg} {P : Pg} {st : WS} {nd nm : Nat} (h : WP H0 w F c P st nd nm) (hS : ∀ k, S k ↔ Un F k) {ab : Nat} {x : Ax} (hwb : c.wb = x.wb) (ha : ActAt w ab x x.u 0 false) (hab : ¬ S ab)
include h hS hwb ha hab
set_option maxHeartbeats 400000 in
theorem act_send (A B : Nat) (hA : A < 8) (hB : B < 8) (ea : x.a = (A : Int)) (eb : x.b = (B : Int)) (id : Nat) (eid : x.id = (id : Int)) (hnd : nd ≤ 100000000000) {i : Nat} {cc : ChS} (hi : st.ch i = some cc) (few : cc.rv.length ≤ 900 ∧ cc.sd.length ≤ 900) {s : WS} {o : Option (Nat → Int)} (hs : st.actSend id i cc (x.u B) x.u = some (s, o)) :
    Calls Tryz.prog 132 #[ptV ab, ptV (c.B i)] w fun e w' => e = .returned (.tuple #[]) ∧ Ay w S ab x P s (nd + 2000) nm o w' := by
  have hal := ha.lt
  have h11 : ¬ F 11 ab := fun q => hab ((hS _).2 ⟨11, q⟩)
  have hn2 := chn_upd h.chn hi
  have HB := Lib.hid (fun W (hW : Fr Nob w W) => act_b (ha.fr hW (fun q => q)) B hB eb)
  rcases actSend_some hs with ⟨l, hr, hwk, rfl⟩ | ⟨l, hr, rfl, rfl⟩
  · obtain ⟨hl, hwk⟩ := wakes_some hwk
    have HS := Lib.hid (fun W (hW : Fr Nob w W) => pool_send ((h.fr0 hW).pool (fun q => q)) i hi (x.u B) true l l.length 0 hr rfl rfl)
    have H := Lib.hid h; have Ha := Lib.hid ha; have HhS := Lib.hid hS; have Hn2 := Lib.hid hn2; have Hwk := Lib.hid hwk; have Hwb := Lib.hid hwb
    obtain ⟨n, hn⟩ : ∃ n, l.length = n := ⟨_, rfl⟩
    rw [hn] at HS hl
    have Hn := Lib.hid hn
    have Eid := Lib.hid eid
    clear h ha hS hn2 hwk hwb hs hr few hn eid
    go_enter Tryz.func132, Tryz.ntmps132
    go_wp2_with fail
    refine (HB.out w (Fr.refl _ _)).mono ?_
    rintro e w1 ⟨rfl, hf1⟩
    have Hf1 := Lib.hid hf1
    clear hf1
    go_wp2_with fail
    refine (HS.out w1 Hf1.out).mono ?_
    rintro e w2 ⟨A2, cp, rfl, hf2, hp2, hsl2⟩
    have h2 := (H.out.fr0 Hf1.out).pool0 hf2 hp2 (Hn2.out _)
    have hfw2 : Fr (F 11) w w2 := Hf1.out.none.trans0 hf2
    have hw2 : WAt w2 S x.wb P _ nd nm := ⟨F, c, h2, Hwb.out, HhS.out⟩
    have ha2 := Ha.out.fr hfw2 h11
    have Hw2 := Lib.hid hw2; have Ha2 := Lib.hid ha2; have Hfw2 := Lib.hid hfw2; have Hsl2 := Lib.hid (wakes_mono hsl2)
    have hz := Hf1.out.size
    clear h2 hf2 hp2 hsl2 hw2 ha2 hfw2
    go_wp2_with fail
    have HA := Lib.hid (fun W (hW : Fr Nob w2 W) => act_a (Ha2.out.fr hW (fun q => q)) A hA ea)
    have HB2 := Lib.hid (fun W (hW : Fr Nob w2 W) => act_b (Ha2.out.fr hW (fun q => q)) B hB eb)
    have HW := Lib.hid (fun W (hW : Fr Nob w2 W) => world_went (Hw2.out.fr0 hW) (x.u A) x.id (x.u B) false (by rw [Eid.out]; omega) (by omega))
    have key : ∀ W, Fr S w2 W → W.cell? ⟨ab, 0, none⟩ = some (ptV x.wb) ∧ W.cell? ⟨ab, 1, none⟩ = some (inV x.id) := fun W hW => by
      have q := Ha2.out.fr hW hab
      exact ⟨xc0 q, xc1 q⟩
    have Key := Lib.hid key
    clear key
    have hf0 : Fr Nob w2 w2 := Fr.refl _ _
    go_region_held3 (fun W => W.cell? ⟨ab, 0, none⟩ = some (ptV x.wb) ∧ W.cell? ⟨ab, 1, none⟩ = some (inV x.id))
      ((refine Key.out _ ?_; first | with_reducible exact hf5 | with_reducible exact hca.none | with_reducible exact hcb.none | with_reducible exact hf0.none | with_reducible exact hf0.drew.none))
      ((first
        | (go_at_call 77; refine (HW.out w4 hcb).mono ?_
           rintro e w5 ⟨rfl, hn5'⟩
           have hn5 : Nx w2 S x.wb P _ (nd + 1) nm w5 := Nx.from0 hcb hn5'
           have hf5 : Fr S w2 w5 := by obtain ⟨_, q, _⟩ := hn5; exact q
           have Hn5 := Lib.hid hn5
           clear hn5 hn5')
        | (go_at_call 93; refine (HA.out w2.drew hf0.drew).mono ?_; rintro e w3 ⟨rfl, hca'⟩; have hca : Fr Nob w2 w3 := hf0.drew.trans0 hca'; clear hca')
        | (go_at_call 94; refine (HB2.out w3 hca).mono ?_; rintro e w4 ⟨rfl, hcb'⟩; have hcb : Fr Nob w2 w4 := hca.trans0 hcb'; clear hcb')))
    all_goals
      go_wp2_with fail
      have hz5 : w2.heap.size ≤ w5.heap.size := by obtain ⟨_, q, _⟩ := Hn5.out; exact q.size
      have hlt : ∀ k, S k → k < w.heap.size := WAt.lt (show WAt w S x.wb P st nd nm from ⟨F, c, H.out, Hwb.out, HhS.out⟩)
      have hsl5 := Hn5.out.beside Hsl2.out fun k a b => by have := hlt k a; have := b.1; omega
      obtain ⟨S5, f5, a5, s5⟩ := Hn5.out
      refine (world_wake a5 l n Hn.out Hwk.out (.slice A2 n cp) hsl5 (fun k a b => ?_) (fun k b => ?_) (by omega)).mono ?_
      · rcases s5 k a with q | q
        · have := hlt k q; have := b.1; omega
        · have := b.2; omega
      · have := b.2; omega
      rintro e w6 ⟨rfl, hn6⟩
      have Hn6 := Lib.hid (Nx.step (Hfw2.out.mono fun k _ q => (HhS.out k).2 ⟨11, q⟩) (fun k q => .inl q) (Nx.step f5 s5 hn6))
      clear hn6
      go_wp2_with fail
      go_end0
      exact ⟨rfl, Ay.of Hn6.out (by omega) (Nat.le_refl _) Ha.out hab⟩
  · have hfw : (cc.sendS (x.u B)).rv.length < 100000 ∧ (cc.sendS (x.u B)).sd.length < 100000 := by have := few_sendS cc (x.u B); omega
    have HS := Lib.hid (fun W (hW : Fr Nob w W) => pool_send ((h.fr0 hW).pool (fun q => q)) i hi (x.u B) false l l.length 0 hr rfl rfl)
    have H := Lib.hid h; have Ha := Lib.hid ha; have HhS := Lib.hid hS; have Hn2 := Lib.hid hn2; have Hwb := Lib.hid hwb
    have Eid := Lib.hid eid; have Hfew := Lib.hid hfw
    generalize l.length = n at *
    clear h ha hS hn2 hwb hs hr few eid hfw
    go_enter Tryz.func132, Tryz.ntmps132
    go_wp2_with fail
    refine (HB.out w (Fr.refl _ _)).mono ?_
    rintro e w1 ⟨rfl, hf1⟩
    have Hf1 := Lib.hid hf1
    clear hf1
    go_wp2_with fail
    refine (HS.out w1 Hf1.out).mono ?_
    rintro e w2 ⟨A2, cp, rfl, hf2, hp2, hsl2⟩
    have h2 := (H.out.fr0 Hf1.out).pool0 hf2 hp2 (Hn2.out _)
    have hfw2 : Fr (F 11) w w2 := Hf1.out.none.trans0 hf2
    have ha2 := Ha.out.fr hfw2 h11
    have c26 := xc26 ha2
    have f26 := blk_froz ha2 26
    have H2 := Lib.hid h2; have Ha2 := Lib.hid ha2; have Hfw2 := Lib.hid hfw2
    have hz := Hf1.out.size
    clear h2 hf2 hp2 hsl2 ha2 hfw2
    go_wp2_with fail
    obtain ⟨w3, hw3⟩ : ∃ w3, w3 = w2.setCell ⟨ab, 26, none⟩ (.bool true) := ⟨_, rfl⟩
    rw [← hw3]
    have ha3 : ActAt w3 ab x x.u 0 true := by rw [hw3]; exact xpP Ha2.out true
    have hf23 : Fr (fun k => k = ab) w2 w3 := by rw [hw3]; exact (Fr.refl (fun k => k = ab) w2).setCell (p := ⟨ab, 26, none⟩) (.inl rfl) _
    have h3 : WP H0 w3 F c P { st with ch := Go.Proofs.YtcffplgimbbflaaGreat.upd st.ch i (some (cc.sendS (x.u B))) } nd nm := H2.out.frame hf23 (fun _ q => q) fun p k _ q e => hab (by rw [← e]; exact (HhS.out k).2 ⟨p, q⟩)
    have Ha3 := Lib.hid ha3; have H3 := Lib.hid h3; have Hf23 := Lib.hid hf23
    clear hw3 ha3 h3 hf23 c26 f26
    have HB3 := Lib.hid (fun W (hW : Fr Nob w3 W) => act_b (Ha3.out.fr hW (fun q => q)) B hB eb)
    have HWt : Hid (∀ W, Fr Nob w3 W → Calls Tryz.prog 171 #[ptV (c.B i), .agg #[inV x.id, inV 0, inV (x.u B)], .bool true] W fun e w' => e = .returned (inV ((cc.sendS (x.u B)).waitR (x.id, 0, x.u B) true)) ∧ Fr (F 11) W w' ∧ Pool w' (And' (F 11) W w') c.B (Go.Proofs.YtcffplgimbbflaaGreat.upd (Go.Proofs.YtcffplgimbbflaaGreat.upd st.ch i (some (cc.sendS (x.u B)))) i (some ((cc.sendS (x.u B)).waitS (x.id, 0, x.u B) true)))) := Lib.hid fun W hW => pool_wait ((H3.out.fr0 hW).pool (fun q => q)) i (upd_same _ _ _) (x.id, 0, x.u B) true _ rfl rfl Hfew.out
    have key : ∀ W, Fr (F 11) w3 W → W.cell? ⟨ab, 1, none⟩ = some (inV x.id) := fun W hW => xc1 (Ha3.out.fr hW h11)
    have Key := Lib.hid key
    clear key
    have hf0 : Fr Nob w3 w3 := Fr.refl _ _
    go_region_held3 (fun W => W.cell? ⟨ab, 1, none⟩ = some (inV x.id))
      ((refine Key.out _ ?_; first | with_reducible exact hf5 | with_reducible exact hcb.none | with_reducible exact hf0.none | with_reducible exact hf0.drew.none))
      ((first
        | (go_at_call 94; refine (HB3.out w3.drew hf0.drew).mono ?_; rintro e w4 ⟨rfl, hcb'⟩; have hcb : Fr Nob w3 w4 := hf0.drew.trans0 hcb'; clear hcb')
        | (go_at_call 171; refine (HWt.out w4 hcb).mono ?_; rintro e w5 ⟨rfl, hf5', hp5⟩; have hf5 : Fr (F 11) w3 w5 := hcb.none.trans0 hf5'; have Hp5 := Lib.hid hp5; clear hp5 hf5')))
    all_goals
      go_wp2_with fail
      go_end0
      have hz4 := hcb.size
      have hz5 := hf5.size
      have hz3 := Hf23.out.size
      have hz2 := Hfw2.out.size
      have hnx := WAt.pooled HhS.out H3.out hf5 Hp5.out (fun k q => by rcases q with q | q; have := H3.out.lt _ _ q; omega; exact q.2) (fun k q => by rcases q with q | q; exact .inl q; have := q.1; exact .inr (by omega)) (chn_upd (Hn2.out _) (upd_same _ _ _) _)
      rw [upd_upd, Hwb.out, Eid.out] at hnx
      obtain ⟨S5, g5, a5, s5⟩ := hnx
      refine ⟨rfl, S5, ?_, a5.mono (by omega) (Nat.le_refl _), fun k q => (s5 k q).imp (fun q => q) fun q => by omega, x.u, Ha3.out.fr g5 hab⟩
      exact ((Hfw2.out.mono fun k _ q => .inl ((HhS.out k).2 ⟨11, q⟩)).trans Hf23.out fun k _ q => .inr q).trans0 (g5.mono fun k _ q => .inl q)
end
end Go.Proofs.YtcffplgimbbflaaGreat
