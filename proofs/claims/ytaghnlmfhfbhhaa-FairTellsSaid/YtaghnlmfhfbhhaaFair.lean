/- What the functions of package fair, and the reference's, do: each as a contract on looks that are read. -/
import Derived.Test.YtaghnlmfhfbhhaaSlices
import Derived.Test.YtaghnlmfhfbhhaaOpen
set_option linter.unusedVariables false
set_option linter.unusedSimpArgs false
namespace Go.Proofs.Ytaghnlmfhfbhhaa
open Go.RowKit
set_option maxRecDepth 100000

/-- A look: who can run, who is picked. -/
abbrev Lk := List Int × Int
/-- passed over. -/
def passedB (x : Lk) (t : Int) : Bool := !(decide (x.2 = t)) && decide (t ∈ x.1)
/-- how many looks in a row, from the first one on, pass t over. -/
def rowN (L : List Lk) (t : Int) : Nat := (L.takeWhile fun x => passedB x t).length
/-- looks as they lie: the slice, who can run, who is picked. -/
abbrev lookEn (m : Value × Lk) : List Value := [m.1, .int .i64 m.2.2]
def Looks (w : World) (v : Value) (M : List (Value × Lk)) : Prop := Rd w 2 v M.length (M.flatMap lookEn) ∧ ∀ m ∈ M, Rd w 1 m.1 m.2.1.length (ints m.2.1)
theorem Looks.fr {w w' : World} {v : Value} {M : List (Value × Lk)} (h : Looks w v M) (hf : Fr Nob w w') : Looks w' v M := ⟨h.1.fr hf, fun m hm => (h.2 m hm).fr hf⟩
theorem Looks.at {M : List (Value × Lk)} {i : Nat} {m : Value × Lk} (h : M[i]? = some m) : (M.flatMap lookEn)[i * 2]? = some m.1 ∧ (M.flatMap lookEn)[i * 2 + 1]? = some (.int .i64 m.2.2) :=
  ⟨flat_get (sz := 2) _ M (fun _ _ => rfl) i 0 m h (by omega), flat_get (sz := 2) _ M (fun _ _ => rfl) i 1 m h (by omega)⟩

set_option maxHeartbeats 400000 in
theorem fair_passed (w : World) (r : Value) (l : List Int) (p t : Int) (h : Rd w 1 r l.length (ints l)) :
    Calls Try.prog 56 #[.agg #[r, .int .i64 p], .int .i64 t] w fun e w' => e = .returned (.bool (passedB (l, p) t)) ∧ Fr Nob w w' := by
  have hc := fun w' (hf : Fr Nob w w') => contains_ints w' r l t (h.fr hf)
  have Hc := Lib.hid hc
  obtain ⟨_, _, A, c, rfl, _⟩ := h
  clear hc
  by_cases hp : p = t
  · subst hp
    go_enter Try.func56, Try.ntmps56
    go_wp2
    go_ret
    exact ⟨by simp [passedB], (Fr.refl _ _).alloc _⟩
  · have hpt : (p != t) = true := by simp [hp]
    have e1 : passedB (l, p) t = decide (t ∈ l) := by simp [passedB, hp]
    rw [e1]
    clear e1 hp
    generalize decide (t ∈ l) = d at *
    go_enter Try.func56, Try.ntmps56
    go_wp2_with fail
    refine (Hc.out _ ((Fr.refl _ _).alloc _)).mono ?_
    rintro e w' ⟨rfl, rfl⟩
    go_wp2_with fail
    go_ret
    exact ⟨rfl, (Fr.refl _ _).alloc _⟩

theorem fair_closure (w : World) (r : Value) (l : List Int) (p t : Int) (pb : Nat) (h : Rd w 1 r l.length (ints l)) (ht : w.cell? ⟨pb, 0, none⟩ = some (.int .i64 t)) :
    Calls Try.prog 55 #[.agg #[r, .int .i64 p], .pointer (some ⟨pb, 0, none⟩)] w fun e w' => e = .returned (.bool (!passedB (l, p) t)) ∧ Fr Nob w w' := by
  have hc := fun w' (hf : Fr Nob w w') => fair_passed w' r l p t (h.fr hf)
  have Hc := Lib.hid hc
  have hlt := block_lt_of_cell ht
  obtain ⟨_, _, A, c, rfl, _⟩ := h
  clear hc
  generalize passedB (l, p) t = d at *
  go_enter Try.func55, Try.ntmps55
  go_wp2_with fail
  refine (Hc.out _ (by repeat (first | exact Fr.refl _ _ | apply Fr.drew | apply Fr.alloc))).mono ?_
  rintro e w' ⟨rfl, hf⟩
  have Hf := Lib.hid hf; clear hf
  go_wp2_with fail
  go_ret
  exact ⟨rfl, ((Fr.refl _ _).alloc _).trans0 Hf.out⟩

/-- The place that IndexFunc tells. -/
def ixF (r n : Nat) : Int := if r < n then (r : Int) else -1
theorem ixF_lt {r n : Nat} (h : r < n) : ixF r n = r := if_pos h
theorem ixF_ge {r n : Nat} (h : ¬ r < n) : ixF r n = -1 := if_neg h
theorem rowN_le (L : List Lk) (t : Int) : rowN L t ≤ L.length := (List.takeWhile_sublist _).length_le
/-- The first one that does not pass over. -/
theorem rowN_stop (L : List Lk) (t : Int) (k : Nat) (x : Lk) (hx : L[k]? = some x) (hp : passedB x t = false) (h : ∀ j, j < k → ∀ y, L[j]? = some y → passedB y t = true) : rowN L t = k := by
  unfold rowN
  induction L generalizing k with
  | nil => simp at hx
  | cons y L ih =>
    cases k with
    | zero => simp at hx; subst hx; simp [List.takeWhile_cons, hp]
    | succ k =>
      have h0 := h 0 (by omega) y rfl
      rw [List.takeWhile_cons, if_pos h0, List.length_cons, ih k (by simpa using hx) fun j hj z hz => h (j + 1) (by omega) z (by simpa using hz)]
theorem rowN_all (L : List Lk) (t : Int) (h : ∀ j, j < L.length → ∀ y, L[j]? = some y → passedB y t = true) : rowN L t = L.length := by
  unfold rowN
  induction L with
  | nil => rfl
  | cons y L ih =>
    have h0 := h 0 (by simp) y rfl
    rw [List.takeWhile_cons, if_pos h0, List.length_cons, ih fun j hj z hz => h (j + 1) (by simpa using hj) z (by simpa using hz), List.length_cons]

set_option maxHeartbeats 800000 in
theorem fair_index (w : World) (v : Value) (M : List (Value × Lk)) (t : Int) (pb : Nat) (h : Looks w v M) (ht : w.cell? ⟨pb, 0, none⟩ = some (.int .i64 t)) :
    Calls Try.prog 54 #[v, .func (.func 55) #[] #[.pointer (some ⟨pb, 0, none⟩)]] w fun e w' => e = .returned (.int .i64 (ixF (rowN (M.map (·.2)) t) M.length)) ∧ Fr Nob w w' := by
  have hlt := block_lt_of_cell ht
  obtain ⟨⟨_, hl, A, c, rfl, hc1, hc2, hA⟩, hr⟩ := h
  unfold maxLen at hl
  have hat : ∀ k, k < M.length → ∃ m, M[k]? = some m ∧ (M.flatMap lookEn)[k * 2]? = some m.1 ∧ (M.flatMap lookEn)[k * 2 + 1]? = some (.int .i64 m.2.2) ∧ Rd w 1 m.1 m.2.1.length (ints m.2.1) := fun k hk =>
    ⟨M[k], by simp [hk], (Looks.at (by simp [hk])).1, (Looks.at (by simp [hk])).2, hr _ (List.getElem_mem hk)⟩
  have hstop := rowN_stop (M.map (·.2)) t
  have hall := rowN_all (M.map (·.2)) t
  simp only [List.length_map, List.getElem?_map] at hstop hall
  have HA := Lib.hid hA; have HAT := Lib.hid hat; have HS := Lib.hid hstop; have HL := Lib.hid hall
  generalize rowN (M.map (·.2)) t = r at *
  generalize M.length = n at *
  clear hA hr hat hstop hall
  go_enter Try.func54, Try.ntmps54
  go_wp2
  go_loopw [8] (fun i wr => ∃ k : Nat, k ≤ n ∧ i = .int .i64 k ∧ Fr Nob w wr ∧ Hid (∀ j, j < k → ∀ m, M[j]? = some m → passedB m.2 t = true)) (fun i _ => n - (intOf i).toNat)
  case atStart => exact ⟨0, Nat.zero_le _, rfl, Fr.refl _ _, fun j hj => absurd hj (by omega)⟩
  case round =>
    obtain ⟨k, hk, rfl, hfr, hn⟩ := hrel
    by_cases hlt2 : k < n
    · obtain ⟨g, o, rfl, hg, hc⟩ := HA.out (by omega)
      obtain ⟨m, hm, h1, h2, h3⟩ := HAT.out k hlt2
      have hx := hfr.cell (p := ⟨g, o + k * 2, none⟩) id (hc _ _ h1)
      have hy := hfr.cell (p := ⟨g, o + (k * 2 + 1), none⟩) id (hc _ _ h2)
      rw [← Nat.add_assoc] at hy
      have ht' := hfr.cell id ht
      have h3' := h3.fr hfr
      have hki : (k : Int) < n := by omega
      have Hfr := Lib.hid hfr
      have Hm := Lib.hid hm
      obtain ⟨mv, ml, mp⟩ := m
      dsimp only at h1 h2 h3 hx hy h3'
      have hcl := fair_closure wr mv ml mp t pb h3' ht'
      have Hcl := Lib.hid hcl
      obtain ⟨_, _, A2, c2, rfl, _⟩ := h3
      clear hcl h3' hc h1 h2 hfr hm
      go_wp2_with fail
      refine Hcl.out.mono ?_
      rintro e w2 ⟨rfl, hf2⟩
      have Hf2 := Lib.hid hf2; clear hf2
      cases hpv : passedB (ml, mp) t with
      | true =>
        have Hpv := Lib.hid hpv; clear hpv
        go_wp2_with fail
        go_roundw
        case rel =>
          refine ⟨k + 1, by omega, by go_num, Hfr.out.trans0 Hf2.out, fun j hj m hm => ?_⟩
          rcases Nat.lt_or_ge j k with h | h
          · exact hn.out j h m hm
          · have : j = k := by omega
            subst this
            rw [Hm.out] at hm
            cases hm
            exact Hpv.out
        case measure => simp [intOf]; omega
      | false =>
        have hrk := HS.out k (ml, mp) (by rw [Hm.out]; rfl) hpv fun j hj y hy => by
          obtain ⟨m, hm, rfl⟩ := Option.map_eq_some_iff.1 hy
          exact hn.out j hj m hm
        have Hrk := Lib.hid hrk
        clear hpv hrk
        go_wp2_with fail
        go_ret
        refine ⟨?_, Hfr.out.trans0 Hf2.out⟩
        rw [Hrk.out, ixF_lt hlt2]; rfl
    · obtain rfl : k = n := by omega
      have hrk := HL.out fun j hj y hy => by
        obtain ⟨m, hm, rfl⟩ := Option.map_eq_some_iff.1 hy
        exact hn.out j hj m hm
      have Hrk := Lib.hid hrk
      have Hfr := Lib.hid hfr
      clear hrk hfr
      go_wp2_with fail
      go_ret
      refine ⟨?_, Hfr.out⟩
      rw [Hrk.out, ixF_ge (by omega)]; rfl

set_option maxHeartbeats 400000 in
theorem fair_row (w : World) (v : Value) (M : List (Value × Lk)) (t : Int) (h : Looks w v M) :
    Calls Try.prog 52 #[v, .int .i64 t] w fun e w' => e = .returned (.int .i64 (rowN (M.map (·.2)) t : Int)) ∧ Fr Nob w w' := by
  have hc := fun w' pb (hf : Fr Nob w w') => fair_index w' v M t pb (h.fr hf)
  have Hc := Lib.hid hc
  have hle := rowN_le (M.map (·.2)) t
  rw [List.length_map] at hle
  obtain ⟨⟨_, hl, A, c, rfl, hc1, hc2, hA⟩, hr⟩ := h
  unfold maxLen at hl
  clear hc hA hr
  generalize rowN (M.map (·.2)) t = r at *
  generalize M.length = n at *
  go_enter Try.func52, Try.ntmps52
  go_wp2_with fail
  refine (Hc.out _ _ ((Fr.refl _ _).alloc _) (by simp)).mono ?_
  rintro e w' ⟨rfl, hf⟩
  have Hf := Lib.hid hf; clear hf
  by_cases hrn : r < n
  · rw [ixF_lt hrn]
    go_wp2_with fail
    go_ret
    exact ⟨rfl, ((Fr.refl _ _).alloc _).trans0 Hf.out⟩
  · rw [ixF_ge hrn]
    obtain rfl : r = n := by omega
    go_wp2_with fail
    go_ret
    exact ⟨rfl, ((Fr.refl _ _).alloc _).trans0 Hf.out⟩

/-- The longest row that passes one over, of a list and of those that can run at its first look, at least n. -/
def inn (D : List Lk) (n : Nat) (ts : List Int) : Nat := ts.foldl (fun n t => max n (rowN D t)) n
/-- .. of the rows that begin at the first i looks. -/
def upto (L : List Lk) : Nat → Nat
  | 0 => 0
  | i + 1 => inn (L.drop i) (upto L i) (L.getD i ([], 0)).1
/-- The longest row of looks that pass one over. -/
def longest (L : List Lk) : Nat := upto L L.length
theorem inn_le (D : List Lk) (ts : List Int) (n B : Nat) (hn : n ≤ B) (hD : D.length ≤ B) : inn D n ts ≤ B := by
  unfold inn
  induction ts generalizing n with
  | nil => exact hn
  | cons t ts ih => exact ih (max n (rowN D t)) (by have := rowN_le D t; omega)
theorem upto_le (L : List Lk) (i : Nat) : upto L i ≤ L.length := by
  induction i with
  | zero => exact Nat.zero_le _
  | succ i ih => exact inn_le _ _ _ _ ih (by simp)
theorem longest_le (L : List Lk) : longest L ≤ L.length := upto_le L _
theorem inn_snoc (D : List Lk) (ts : List Int) (n k : Nat) (h : k < ts.length) : inn D n (ts.take (k + 1)) = max (inn D n (ts.take k)) (rowN D (ts.getD k 0)) := by
  unfold inn
  rw [List.take_add_one, List.foldl_append]
  simp [List.getD, h]
/-- Where no row that is left can be longer, none is. -/
theorem inn_same (D : List Lk) (n : Nat) (t : Int) (h : D.length ≤ n) : max n (rowN D t) = n := by
  have := rowN_le D t; omega

theorem maxIf (n r : Nat) : (if n < r then (r : Int) else (n : Int)) = ((max n r : Nat) : Int) := by split <;> omega
set_option maxHeartbeats 2000000 in
theorem fair_longest (w : World) (v : Value) (M : List (Value × Lk)) (h : Looks w v M) (hlen : M.length ≤ 1000000) :
    Calls Try.prog 44 #[v] w fun e w' => e = .returned (.int .i64 (longest (M.map (·.2)) : Int)) ∧ Fr Nob w w' := by
  have hL := h
  obtain ⟨⟨_, hl, A, c, rfl, hc1, hc2, hA⟩, hr⟩ := h
  have hat : ∀ k, k < M.length → ∃ m, M[k]? = some m ∧ (M.flatMap lookEn)[k * 2]? = some m.1 ∧ (M.flatMap lookEn)[k * 2 + 1]? = some (.int .i64 m.2.2) ∧ Rd w 1 m.1 m.2.1.length (ints m.2.1) ∧ ((M.map (·.2)).getD k ([], 0)).1 = m.2.1 := fun k hk =>
    ⟨M[k], by simp [hk], (Looks.at (by simp [hk])).1, (Looks.at (by simp [hk])).2, hr _ (List.getElem_mem hk), by simp [List.getD, hk]⟩
  have hcut : ∀ k, k ≤ M.length → ∃ A', (∀ W : World, (Instr.slice 62 (.slice A M.length c) (some (.int .i64 (k : Int))) none none).run Try.prog W = .ok (.slice A' (M.length - k) (c - k)) W) ∧ ∀ wr, Fr Nob w wr → Looks wr (.slice A' (M.length - k) (c - k)) (M.drop k) := fun k hk => by
    obtain ⟨A', h1, _, h3⟩ := cut_l (P := Try.prog) 62 74 2 Try.underlying62 (by kernel_rfl) A M.length c k hk
    refine ⟨A', h1, fun wr hf => ⟨?_, fun m hm => (hr m (List.mem_of_mem_drop hm)).fr hf⟩⟩
    have h4 := (h3 w _ hL.1).fr hf
    have e : (M.flatMap lookEn).drop (k * 2) = (M.drop k).flatMap lookEn := flat_drop lookEn (fun _ => rfl) M k
    rw [e] at h4
    rw [List.length_drop]; exact h4
  have hup : ∀ k, k < M.length → upto (M.map (·.2)) (k + 1) = inn ((M.map (·.2)).drop k) (upto (M.map (·.2)) k) ((M.map (·.2)).getD k ([], 0)).1 := fun k _ => rfl
  have hle : ∀ k, upto (M.map (·.2)) k ≤ M.length := fun k => by simpa using upto_le (M.map (·.2)) k
  have hdl : ∀ k, ((M.map (·.2)).drop k).length = M.length - k := fun k => by simp
  have hmd : ∀ k, (M.drop k).map (·.2) = (M.map (·.2)).drop k := fun k => by rw [List.map_drop]
  have hll : longest (M.map (·.2)) = upto (M.map (·.2)) M.length := by unfold longest; rw [List.length_map]
  rw [hll]
  have HA := Lib.hid hA; have HAT := Lib.hid hat; have HC := Lib.hid hcut; have HU := Lib.hid hup; have HLe := Lib.hid hle; have HD := Lib.hid hdl; have HM := Lib.hid hmd
  generalize M.length = N at *
  generalize M.map (·.2) = L at *
  clear hA hat hcut hup hle hdl hmd hL hr hll hl
  unfold maxLen at hc2
  go_enter Try.func44, Try.ntmps44
  go_wp2_with fail
  go_loopw [2, 9] (fun n i wr => ∃ k : Nat, k ≤ N ∧ i = .int .i64 k ∧ n = .int .i64 (upto L k : Int) ∧ Fr Nob w wr) (fun _ i _ => N - (intOf i).toNat)
  case atStart => exact ⟨0, Nat.zero_le _, rfl, rfl, Fr.refl _ _⟩
  case round =>
    obtain ⟨k, hk, rfl, rfl, hfr⟩ := hrel
    by_cases hlt : k < N
    · obtain ⟨g, o, rfl, hg, hc⟩ := HA.out (by omega)
      obtain ⟨m, hm, h1, h2, h3, h4⟩ := HAT.out k hlt
      have hx := hfr.cell (p := ⟨g, o + k * 2, none⟩) id (hc _ _ h1)
      have hy := hfr.cell (p := ⟨g, o + (k * 2 + 1), none⟩) id (hc _ _ h2)
      rw [← Nat.add_assoc] at hy
      have hu := HU.out k hlt
      rw [h4] at hu
      have hle := HLe.out k
      have hdl := HD.out k
      have Hfr := Lib.hid hfr
      have Hu := Lib.hid hu
      have hki : (k : Int) < N := by omega
      obtain ⟨mv, ml, mp⟩ := m
      dsimp only at h1 h2 h3 hx hy h4 Hu
      obtain ⟨_, hml, A2, c2, rfl, hc21, hc22, hA2⟩ := h3
      unfold maxLen at hml hc22
      have hti : ∀ j, j < ml.length → inn (L.drop k) (upto L k) (ml.take (j + 1)) = max (inn (L.drop k) (upto L k) (ml.take j)) (rowN (L.drop k) (ml.getD j 0)) := fun j hj => inn_snoc _ _ _ _ hj
      have hib : ∀ j, inn (L.drop k) (upto L k) (ml.take j) ≤ N := fun j => inn_le _ _ _ _ hle (by omega)
      have hD2 : ∀ j, j < ml.length → (ints ml)[j]? = some (.int .i64 (ml.getD j 0)) := fun j hj => ints_get hj
      have htk : ml.take ml.length = ml := List.take_length
      have HA2 := Lib.hid hA2; have HTI := Lib.hid hti; have HIB := Lib.hid hib; have HD2 := Lib.hid hD2; have HTK := Lib.hid htk
      obtain ⟨A', hrun, hcL⟩ := HC.out k hk
      have HcL := Lib.hid hcL
      generalize ml.length = T at *
      clear hc h1 h2 h4 hu hdl hfr hm hA2 hti hib hD2 htk hcL
      go_wp2_with fail
      obtain ⟨wo, hwo⟩ : ∃ wo : World, wo = wr.alloc (.cells #[.slice A2 T c2, .int .i64 mp] 74) := ⟨_, rfl⟩
      rw [← hwo]
      have hfo : Fr Nob wr wo := by rw [hwo]; exact (Fr.refl _ _).alloc _
      have Hfo := Lib.hid (Hfr.out.trans0 hfo)
      clear hwo hfo
      go_loopw [2, 17] (fun n i wr => ∃ j : Nat, j ≤ T ∧ i = .int .i64 j ∧ n = .int .i64 (inn (L.drop k) (upto L k) (ml.take j) : Int) ∧ Fr Nob w wr) (fun _ i _ => T - (intOf i).toNat)
      case atStart => exact ⟨0, Nat.zero_le _, rfl, by simp [inn], Hfo.out⟩
      case round =>
        rename_i wr2 _
        obtain ⟨j, hj, rfl, rfl, hfj⟩ := hrel
        have Hfj := Lib.hid hfj
        by_cases hjt : j < T
        · obtain ⟨g2, o2, rfl, hg2, hc2'⟩ := HA2.out (by omega)
          have ht2 := hfj.cell (p := ⟨g2, o2 + j, none⟩) id (hc2' _ _ (HD2.out j hjt))
          have hti := HTI.out j hjt
          have hib := HIB.out j
          have hdl := HD.out k
          have hrow := rowN_le (L.drop k) (ml.getD j 0)
          rw [hdl] at hrow
          have hsame := inn_same (L.drop k) (inn (L.drop k) (upto L k) (ml.take j)) (ml.getD j 0)
          rw [hdl] at hsame
          have hjT : (j : Int) < T := by omega
          clear hc2' hfj
          generalize ml.getD j 0 = t at *
          have hcall := fair_row _ _ _ t (HcL.out _ Hfj.out)
          rw [HM.out k] at hcall
          have Hcall := Lib.hid hcall
          clear hcall
          generalize inn (L.drop k) (upto L k) (ml.take j) = n at *
          generalize rowN (L.drop k) t = r at *
          have Hti := Lib.hid hti; have Hsame := Lib.hid hsame
          clear hti hsame hdl
          by_cases hn : n < N - k
          · have hn' : (n : Int) < (N : Int) - k := by omega
            go_wp2_with fail
            refine Hcall.out.mono ?_
            rintro e w3 ⟨rfl, hf3⟩
            have Hf3 := Lib.hid hf3; clear hf3
            go_wp2_with fail
            go_roundw
            case rel => exact ⟨j + 1, by omega, by go_num, by rw [Hti.out]; first | rw [maxIf] | (simp only [maxIf]; done), Hfj.out.trans0 Hf3.out⟩
            case measure => simp [intOf]; omega
          · have hn' : ¬ (n : Int) < (N : Int) - k := by omega
            go_wp2_with fail
            go_roundw
            case rel => exact ⟨j + 1, by omega, by go_num, by rw [Hti.out, Hsame.out (by omega)], Hfj.out⟩
            case measure => simp [intOf]; omega
        · obtain rfl : j = T := by omega
          go_wp2_with fail
          go_roundw
          case rel => exact ⟨k + 1, by omega, by go_num, by rw [Hu.out, HTK.out], Hfj.out⟩
          case measure => simp [intOf]; omega
    · obtain rfl : k = N := by omega
      have Hfr := Lib.hid hfr
      go_wp2_with fail
      go_ret
      exact ⟨rfl, Hfr.out⟩

/-- k >= 1 and the longest row is shorter. -/
def fairB (L : List Lk) (k : Int) : Bool := decide (1 ≤ k) && decide ((longest L : Int) < k)
set_option maxHeartbeats 400000 in
theorem fair_fair (w : World) (v : Value) (M : List (Value × Lk)) (k : Int) (h : Looks w v M) (hlen : M.length ≤ 1000000) :
    Calls Try.prog 45 #[v, .int .i64 k] w fun e w' => e = .returned (.bool (fairB (M.map (·.2)) k)) ∧ Fr Nob w w' := by
  have hc := fun w' (hf : Fr Nob w w') => fair_longest w' v M (h.fr hf) hlen
  have Hc := Lib.hid hc
  obtain ⟨⟨_, _, A, c, rfl, _⟩, _⟩ := h
  clear hc
  by_cases hk : 1 ≤ k
  · have e1 : fairB (M.map (·.2)) k = decide ((longest (M.map (·.2)) : Int) < k) := by simp [fairB, hk]
    rw [e1]
    clear e1
    generalize longest (M.map (·.2)) = n at *
    go_enter Try.func45, Try.ntmps45
    go_wp2_with fail
    refine (Hc.out _ (Fr.refl _ _)).mono ?_
    rintro e w' ⟨rfl, hf⟩
    have Hf := Lib.hid hf; clear hf
    go_wp2_with fail
    go_ret
    exact ⟨rfl, Hf.out⟩
  · have e1 : fairB (M.map (·.2)) k = false := by simp [fairB]; omega
    rw [e1]
    go_enter Try.func45, Try.ntmps45
    go_wp2_with fail
    go_ret
    exact ⟨rfl, Fr.refl _ _⟩

/-- How often t was picked, and how often it could run. -/
def pickedN (L : List Lk) (t : Int) : Nat := (L.filter fun x => decide (x.2 = t)).length
def readyN (L : List Lk) (t : Int) : Nat := (L.filter fun x => decide (t ∈ x.1)).length
theorem pickedN_snoc (L : List Lk) (t : Int) (k : Nat) (x : Lk) (h : L[k]? = some x) : pickedN (L.take (k + 1)) t = pickedN (L.take k) t + if x.2 = t then 1 else 0 := by
  unfold pickedN
  rw [List.take_add_one, h, List.filter_append]
  by_cases hx : x.2 = t <;> simp [hx]
theorem readyN_snoc (L : List Lk) (t : Int) (k : Nat) (x : Lk) (h : L[k]? = some x) : readyN (L.take (k + 1)) t = readyN (L.take k) t + if t ∈ x.1 then 1 else 0 := by
  unfold readyN
  rw [List.take_add_one, h, List.filter_append]
  by_cases hx : t ∈ x.1 <;> simp [hx]
theorem pickedN_le (L : List Lk) (t : Int) (k : Nat) : pickedN (L.take k) t ≤ L.length := by
  unfold pickedN; have := List.length_filter_le (fun x : Lk => decide (x.2 = t)) (L.take k); simp at this; omega
theorem readyN_le (L : List Lk) (t : Int) (k : Nat) : readyN (L.take k) t ≤ L.length := by
  unfold readyN; have := List.length_filter_le (fun x : Lk => decide (t ∈ x.1)) (L.take k); simp at this; omega

set_option maxHeartbeats 1000000 in
theorem fair_share (w : World) (v : Value) (M : List (Value × Lk)) (t : Int) (h : Looks w v M) (hlen : M.length ≤ 1000000) :
    Calls Try.prog 42 #[v, .int .i64 t] w fun e w' => e = .returned (.tuple #[.int .i64 (pickedN (M.map (·.2)) t : Int), .int .i64 (readyN (M.map (·.2)) t : Int)]) ∧ Fr Nob w w' := by
  obtain ⟨⟨_, hl, A, c, rfl, hc1, hc2, hA⟩, hr⟩ := h
  have hat : ∀ k, k < M.length → ∃ m : Value × Lk, (M.map (·.2))[k]? = some m.2 ∧ (M.flatMap lookEn)[k * 2]? = some m.1 ∧ (M.flatMap lookEn)[k * 2 + 1]? = some (.int .i64 m.2.2) ∧ Rd w 1 m.1 m.2.1.length (ints m.2.1) := fun k hk =>
    ⟨M[k], by simp [hk], (Looks.at (by simp [hk])).1, (Looks.at (by simp [hk])).2, hr _ (List.getElem_mem hk)⟩
  have hp := fun k => pickedN_le (M.map (·.2)) t k
  have hq := fun k => readyN_le (M.map (·.2)) t k
  have htk : (M.map (·.2)).take M.length = M.map (·.2) := by rw [List.take_of_length_le]; simp
  simp only [List.length_map] at hp hq
  have HA := Lib.hid hA; have HAT := Lib.hid hat; have HP := Lib.hid hp; have HQ := Lib.hid hq; have HTK := Lib.hid htk
  generalize M.length = N at *
  generalize M.map (·.2) = L at *
  clear hA hat hr hp hq htk hl
  unfold maxLen at hc2
  go_enter Try.func42, Try.ntmps42
  go_wp2_with fail
  go_loopw [4, 5, 10] (fun p r i wr => ∃ k : Nat, k ≤ N ∧ i = .int .i64 k ∧ p = .int .i64 (pickedN (L.take k) t : Int) ∧ r = .int .i64 (readyN (L.take k) t : Int) ∧ Fr Nob w wr) (fun _ _ i _ => N - (intOf i).toNat)
  case atStart => exact ⟨0, Nat.zero_le _, rfl, rfl, rfl, Fr.refl _ _⟩
  case round =>
    obtain ⟨k, hk, rfl, rfl, rfl, hfr⟩ := hrel
    by_cases hlt : k < N
    · obtain ⟨g, o, rfl, hg, hc⟩ := HA.out (by omega)
      obtain ⟨m, hm, h1, h2, h3⟩ := HAT.out k hlt
      have hx := hfr.cell (p := ⟨g, o + k * 2, none⟩) id (hc _ _ h1)
      have hy := hfr.cell (p := ⟨g, o + (k * 2 + 1), none⟩) id (hc _ _ h2)
      rw [← Nat.add_assoc] at hy
      have Hfr := Lib.hid hfr
      have hki : (k : Int) < N := by omega
      have hps := pickedN_snoc L t k m.2 hm
      have hqs := readyN_snoc L t k m.2 hm
      have hpl := HP.out k
      have hql := HQ.out k
      have hcon := fun w' (hf : Fr Nob w w') => contains_ints w' m.1 m.2.1 t (h3.fr hf)
      obtain ⟨mv, ml, mp⟩ := m
      dsimp only at h1 h2 h3 hx hy hps hqs hcon
      have Hcon := Lib.hid hcon; have Hps := Lib.hid hps; have Hqs := Lib.hid hqs
      obtain ⟨_, hml, A2, c2, rfl, hc21, hc22, hA2⟩ := h3
      unfold maxLen at hml hc22
      clear hc h1 h2 hfr hm hA2 hcon hps hqs
      generalize pickedN (L.take k) t = pn at *
      generalize readyN (L.take k) t = qn at *
      have hfa : ∀ o : Obj, Hid (Fr Nob w (wr.alloc o)) := fun o => Hfr.out.alloc o
      have Hfa := Lib.hid hfa; clear hfa
      by_cases hpt : mp = t
      · have hpt' : (mp == t) = true := by simp [hpt]
        rw [if_pos hpt] at Hps
        clear hpt
        by_cases hmt : t ∈ ml
        · have hd : decide (t ∈ ml) = true := by simp [hmt]
          rw [if_pos hmt] at Hqs
          rw [hd] at Hcon
          clear hd hmt
          go_wp2_with fail
          refine (Hcon.out _ (Hfa.out _).out).mono ?_
          rintro e w3 ⟨rfl, rfl⟩
          go_wp2_with fail
          go_roundw
          case rel => exact ⟨k + 1, by omega, by go_num, by rw [Hps.out]; go_num, by rw [Hqs.out]; go_num, (Hfa.out _).out⟩
          case measure => simp [intOf]; omega
        · have hd : decide (t ∈ ml) = false := by simp [hmt]
          rw [if_neg hmt] at Hqs
          rw [hd] at Hcon
          clear hd hmt
          go_wp2_with fail
          refine (Hcon.out _ (Hfa.out _).out).mono ?_
          rintro e w3 ⟨rfl, rfl⟩
          go_wp2_with fail
          go_roundw
          case rel => exact ⟨k + 1, by omega, by go_num, by rw [Hps.out]; go_num, by rw [Hqs.out]; rfl, (Hfa.out _).out⟩
          case measure => simp [intOf]; omega
      · have hpt' : (mp == t) = false := by simp [hpt]
        rw [if_neg hpt] at Hps
        clear hpt
        by_cases hmt : t ∈ ml
        · have hd : decide (t ∈ ml) = true := by simp [hmt]
          rw [if_pos hmt] at Hqs
          rw [hd] at Hcon
          clear hd hmt
          go_wp2_with fail
          refine (Hcon.out _ (Hfa.out _).out).mono ?_
          rintro e w3 ⟨rfl, rfl⟩
          go_wp2_with fail
          go_roundw
          case rel => exact ⟨k + 1, by omega, by go_num, by rw [Hps.out]; rfl, by rw [Hqs.out]; go_num, (Hfa.out _).out⟩
          case measure => simp [intOf]; omega
        · have hd : decide (t ∈ ml) = false := by simp [hmt]
          rw [if_neg hmt] at Hqs
          rw [hd] at Hcon
          clear hd hmt
          go_wp2_with fail
          refine (Hcon.out _ (Hfa.out _).out).mono ?_
          rintro e w3 ⟨rfl, rfl⟩
          go_wp2_with fail
          go_roundw
          case rel => exact ⟨k + 1, by omega, by go_num, by rw [Hps.out]; rfl, by rw [Hqs.out]; rfl, (Hfa.out _).out⟩
          case measure => simp [intOf]; omega
    · obtain rfl : k = N := by omega
      have Hfr := Lib.hid hfr
      clear hfr
      rw [HTK.out]
      go_wp2_with fail
      go_ret2
      exact ⟨rfl, Hfr.out⟩
end Go.Proofs.Ytaghnlmfhfbhhaa
