/- Cases of no channel are as if they were not there: none is ready, nobody waits there; alone they wait for ever, or the default is done, for all that the statement draws. -/
import Derived.Test.YtdemeghhjnehbaaChooseMany
import Derived.Test.YtdemeghhjnehbaaMore
set_option linter.unusedVariables false
set_option linter.unusedSimpArgs false
namespace Go.Proofs.Ytdemeghhjnehbaa
open Go.RowKit
set_option maxRecDepth 100000
theorem css_made (B : Nat → Nat) (n : Nat) : (madeCells #[.pointer none, .bool false, .int .i64 0] (n * 3)).toList = css B (List.replicate n (none, false, 0)) := by
  apply List.ext_getElem?
  intro j
  have hl : (css B (List.replicate n ((none, false, 0) : Cs))).length = n * 3 := by
    rw [css, List.length_flatMap]; simp
  by_cases hj : j < n * 3
  · have h1 : j / 3 < n := by omega
    have h2 : j % 3 < 3 := by omega
    have h3 := rowsGet (sz := 3) (csEn B) (fun _ => rfl) (List.replicate n ((none, false, 0) : Cs)) (j / 3) (j % 3) (none, false, 0) (by simp [h1]) h2
    rw [show j / 3 * 3 + j % 3 = j by omega] at h3
    rw [h3]
    obtain h | h | h : j % 3 = 0 ∨ j % 3 = 1 ∨ j % 3 = 2 := by omega
    all_goals simp [madeCells, hj, h, pa]
  · rw [List.getElem?_eq_none (by simp [madeCells]; omega), List.getElem?_eq_none (by rw [hl]; omega)]
theorem css_set (B : Nat → Nat) : ∀ (l : List Cs) (k : Nat) (o : Option Nat) (s : Bool) (v : Int) (b : Bool), l[k]? = some (o, s, v) → (css B l).set (k * 3 + 1) (.bool b) = css B (l.set k (o, b, v))
  | [], k, o, s, v, b, h => by simp at h
  | x :: l, 0, o, s, v, b, h => by
    simp at h; subst h
    simp [css]
  | x :: l, k + 1, o, s, v, b, h => by
    have ih := css_set B l k o s v b (by simpa using h)
    simp only [css, List.flatMap_cons, List.set_cons_succ] at ih ⊢
    rw [← ih, List.set_append_right _ _ (by simp; omega)]
    congr 2
    simp; omega
/-- Cases of no channel. -/
def NilC (l : List Cs) : Prop := ∀ x ∈ l, x.1 = none
theorem NilC.set {l : List Cs} (h : NilC l) (k : Nat) (b : Bool) (v : Int) : NilC (l.set k (none, b, v)) := fun x hx => by
  rcases List.mem_or_eq_of_mem_set hx with hx | rfl
  · exact h x hx
  · rfl
theorem NilC.park (t : Int) : ∀ (l : List Cs) (k : Nat) (P : Nat → Option ChS), NilC l → parkF t l k P = P
  | [], _, _, _ => rfl
  | x :: l, k, P, h => by
    obtain ⟨o, s, v⟩ := x
    have ho : o = none := h _ (List.mem_cons_self ..)
    subst ho
    exact NilC.park t l (k + 1) P fun y hy => h y (List.mem_cons_of_mem _ hy)
theorem NilC.leave (t : Int) : ∀ (l : List Cs) (P : Nat → Option ChS), NilC l → leaveF t l P = P ∧ leaveN t l P = 0
  | [], _, _ => ⟨rfl, rfl⟩
  | x :: l, P, h => by
    obtain ⟨o, s, v⟩ := x
    have ho : o = none := h _ (List.mem_cons_self ..)
    subst ho
    obtain ⟨h1, h2⟩ := NilC.leave t l P fun y hy => h y (List.mem_cons_of_mem _ hy)
    refine ⟨h1, ?_⟩
    show leaveC t P none + leaveN t l P = 0
    rw [h2]; rfl
theorem NilC.ok {l : List Cs} (h : NilC l) (P : Nat → Option ChS) : ∀ x ∈ l, CsOk P x := fun x hx i hi => by rw [h x hx] at hi; cases hi
theorem NilC.can {l : List Cs} (h : NilC l) (P : Nat → Option ChS) : ∀ x ∈ l, canC P x = false := fun x hx => by unfold canC; rw [h x hx]
theorem NilC.mute {l : List Cs} (h : NilC l) (P : Nat → Option ChS) : ∀ x ∈ l, (x.2.1 && muteC P x) = false := fun x hx => by unfold muteC; rw [h x hx]; simp
abbrev nlC : ChS := ⟨1, [6], [], [], false, false, false⟩
theorem rdy_one (k : Nat) : ∀ n : Nat, rdy (fun i => i == k) n = if k < n then [(k : Int)] else []
  | 0 => by simp [rdy]
  | n + 1 => by
    rw [rdy_succ, rdy_one k n]
    by_cases e : n = k
    · subst e; simp
    · have e1 : (n == k) = false := by simpa using e
      by_cases h : k < n
      · simp [e1, h, show k < n + 1 by omega]
      · simp [e1, h, show ¬ k < n + 1 by omega]
/-- The cases with the one of the channel between. -/
abbrev nlM (l : List Cs) (k : Nat) : List Cs := l.take k ++ [(some 0, false, 0)] ++ l.drop k
theorem nlM_get {l : List Cs} {n k i : Nat} {x : Cs} (hn : l.length = n) (hk : k ≤ n) (hl : NilC l) (hx : (nlM l k)[i]? = some x) : if i = k then x = (some 0, false, 0) else x.1 = none := by
  have hlt : (l.take k).length = k := by rw [List.length_take]; omega
  unfold nlM at hx
  rw [List.append_assoc, List.getElem?_append] at hx
  split at hx
  · next h =>
    rw [if_neg (by omega)]
    exact hl x (List.mem_of_mem_take (List.mem_of_getElem? hx))
  · next h =>
    rw [hlt] at h hx
    by_cases e : i = k
    · subst e
      rw [if_pos rfl]
      simp at hx; exact hx.symm
    · rw [if_neg e, ] 
      obtain ⟨d, hd⟩ : ∃ d, i - k = d + 1 := ⟨i - k - 1, by omega⟩
      rw [hd] at hx
      simp at hx
      exact hl x (List.mem_of_mem_drop (List.mem_of_getElem? (by simpa using hx)))
theorem nl_do (w0 W : World) (S T : Nat → Prop) (b : Nat) (v : Value) (n : Nat) (l : List Cs) (hn : l.length = n) (h16 : n ≤ 16) (hl : NilC l) (d : Bool) (dr : Int) (h : Mk w0 W S T Nob (fun _ => b) (P1 nlC) v n l (.slice none 0 0) 0 []) :
    Calls Try.prog 11 #[v, .bool d, .int .i64 dr, .int .i64 3] W fun e w' => ∃ (A : Option Addr) (cp : Nat) (S' : Nat → Prop), e = .returned (.tuple #[resV (-1) 0 false false (!d) false, .slice A 0 cp, .int .i64 0]) ∧ Mk w0 w' S' T Nob (fun _ => b) (P1 nlC) v n l (.slice none 0 0) 0 [] := by
  cases d with
  | true =>
    refine (do_default h.pool (fun k q => (h.s k q).2) v l n hn h.sl.rd (hl.ok _) (hl.mute _) (hl.can _) h16 dr 3 (by omega)).mono ?_
    rintro e w' ⟨A, cp, he, hf, hp, _⟩
    exact ⟨A, cp, S, he, h.turn hf hp⟩
  | false =>
    refine (do_park h.pool (fun k q => (h.s k q).2) v l n hn T h.sl h.st (fun k q => (h.t k q).2) (hl.ok _) (hl.mute _) (hl.can _) (few_p1 _ ⟨by simp, by simp⟩) h16 dr 3 (by omega)).mono ?_
    rintro e w' ⟨A, cp, he, hf, hp, _⟩
    rw [hl.park] at hp
    exact ⟨A, cp, _, he, h.wait hf hp⟩
theorem nl_one (w0 W : World) (S T : Nat → Prop) (b : Nat) (v : Value) (n k : Nat) (l : List Cs) (hn : l.length = n) (h14 : n ≤ 14) (hk : k ≤ n) (hl : NilC l) (d : Bool) (dr : Int) (h : Mk w0 W S T Nob (fun _ => b) (P1 nlC) v (n + 1) (nlM l k) (.slice none 0 0) 0 []) :
    Calls Try.prog 11 #[v, .bool d, .int .i64 dr, .int .i64 3] W fun e w' => ∃ (A : Option Addr) (cp : Nat), e = .returned (.tuple #[resV k 6 true false false false, .slice A 0 cp, .int .i64 0]) ∧ Fr Nob w0 w' := by
  have hlen : (nlM l k).length = n + 1 := by
    have hlt : (l.take k).length = k := by rw [List.length_take]; omega
    unfold nlM; simp; omega
  have hgk : (nlM l k)[k]? = some (some 0, false, 0) := by
    have h0 : (nlM l k)[k]? = some ((nlM l k)[k]'(by omega)) := List.getElem?_eq_getElem _
    have := nlM_get hn hk hl h0
    rw [if_pos rfl] at this
    rw [h0, this]
  have hcase : ∀ x ∈ nlM l k, x = (some 0, false, 0) ∨ x.1 = none := fun x hx => by
    obtain ⟨i, hi⟩ := List.getElem?_of_mem hx
    have := nlM_get hn hk hl hi
    split at this
    · exact .inl this
    · exact .inr this
  refine (do_ready h.pool (fun k q => (h.s k q).2) v (nlM l k) (n + 1) hlen h.sl.rd ?_ ?_ (fun i => i == k) ?_ (by omega) d dr 3 (by omega) 1 0 k 0 (some 0, false, 0) (c := nlC) (c' := ⟨1, [], [], [], false, false, false⟩) ?_ (by omega) (by omega) (by omega) ?_ (by omega) hgk rfl (P1_0 _) 6 true false [] 0 rfl rfl rfl).mono ?_
  · intro x hx
    rcases hcase x hx with rfl | e
    · intro i hi; cases hi; exact ⟨_, P1_0 _⟩
    · intro i hi; rw [e] at hi; cases hi
  · intro x hx
    rcases hcase x hx with rfl | e
    · rfl
    · unfold muteC; rw [e]; simp
  · intro i x hx
    have := nlM_get hn hk hl hx
    by_cases e : i = k
    · rw [if_pos e] at this; subst this; subst e; simp [canC, P1_0, ChS.canR, ChS.mute, ChS.free]
    · rw [if_neg e] at this; unfold canC; rw [this]; simp [e]
  · rw [rdy_one, if_pos (by omega)]; rfl
  · rw [rdy_one, if_pos (by omega)]; rfl
  · rintro e w' ⟨A, cp, he, hf, hp, _⟩
    exact ⟨A, cp, he, (h.turn hf hp).fr⟩
theorem nl_leave (w0 W : World) (S T : Nat → Prop) (b : Nat) (v : Value) (n : Nat) (l : List Cs) (hn : l.length = n) (h16 : n ≤ 16) (hl : NilC l) (h : Mk w0 W S T Nob (fun _ => b) (P1 nlC) v n l (.slice none 0 0) 0 []) :
    Calls Try.prog 13 #[v, .int .i64 3] W fun e w' => e = .returned (.int .i64 0) ∧ Mk w0 w' S T Nob (fun _ => b) (P1 nlC) v n l (.slice none 0 0) 0 [] := by
  obtain ⟨h1, h2⟩ := hl.leave 3 l (P1 nlC)
  refine (choose_leave h.pool v l n hn T h.sl h.st (hl.ok _) (by omega) (few_p1 _ ⟨by simp, by simp⟩) 3 0 h2).mono ?_
  rintro e w' ⟨he, hf, hp⟩
  rw [h1] at hp
  exact ⟨he, h.turn hf hp⟩
theorem nl_ready (w0 W : World) (S T : Nat → Prop) (b : Nat) (v : Value) (n : Nat) (l : List Cs) (hn : l.length = n) (h16 : n ≤ 16) (hl : NilC l) (h : Mk w0 W S T Nob (fun _ => b) (P1 nlC) v n l (.slice none 0 0) 0 []) :
    Calls Try.prog 15 #[v] W fun e w' => ∃ (A : Option Addr) (cp : Nat), e = .returned (.slice A 0 cp) ∧ Mk w0 w' S T Nob (fun _ => b) (P1 nlC) v n l (.slice none 0 0) 0 [] := by
  refine (choose_ready h.pool v l n hn h.sl.rd (hl.ok _) (fun _ => false) (fun k x hx => hl.can _ x (List.mem_of_getElem? hx)) (by omega) 0 (by rw [rdy_none fun _ _ => rfl]; rfl)).mono ?_
  rintro e w' ⟨A, cp, he, hf, _⟩
  exact ⟨A, cp, he, h.fr0 hf⟩
theorem Mk.setL {w0 w w' : World} {S T U : Nat → Prop} {B : Nat → Nat} {P : Nat → Option ChS} {vl vl' vw : Value} {n n' m : Nat} {l l' : List Cs} {r : List Int} (h : Mk w0 w S T U B P vl n l vw m r) (hf : Fr T w w') (hs : Sl w' T 29 3 vl' n' (css B l')) : Mk w0 w' S T U B P vl' n' l' vw m r :=
  ⟨h.fr.trans hf fun k hk q => by have := (h.t k q).1; omega, grow h.s hf.size, grow h.t hf.size, grow h.u hf.size, h.st, h.su, h.tu, h.pool.fr hf h.st, hs, h.sw.fr hf fun k q q' => h.tu k q' q⟩
/-- Another row of cases, new. -/
theorem Mk.newL {w0 w w' : World} {S T U : Nat → Prop} {B : Nat → Nat} {P : Nat → Option ChS} {vl vl' vw : Value} {n n' m : Nat} {l l' : List Cs} {r : List Int} (h : Mk w0 w S T U B P vl n l vw m r) (hf : Fr Nob w w') (hs : Sl w' (From w.heap.size) 29 3 vl' n' (css B l')) : Mk w0 w' S (fun k => w.heap.size ≤ k ∧ k < w'.heap.size) U B P vl' n' l' vw m r :=
  ⟨h.fr.trans0 hf, grow h.s hf.size, fun k q => ⟨Nat.le_trans h.fr.size q.1, q.2⟩, grow h.u hf.size, fun k q q' => by have := (h.s k q).2; omega, h.su, fun k q q' => by have := (h.u k q').2; omega, h.pool.fr0 hf, hs.mono fun k hk q => ⟨q, hk⟩, h.sw.fr hf fun _ _ q => q⟩
theorem css_take (B : Nat → Nat) (l : List Cs) (k : Nat) : (css B l).take (k * 3) = css B (l.take k) := flat_take (csEn B) (sz := 3) (fun _ => rfl) l k
theorem css_drop (B : Nat → Nat) (l : List Cs) (k : Nat) : (css B l).drop (k * 3) = css B (l.drop k) := flat_drop (csEn B) (sz := 3) (fun _ => rfl) l k
theorem css_one (B : Nat → Nat) (l : List Cs) : ∀ u ∈ css B l, u.oneCell' = true := by
  intro u hu
  simp only [css, List.mem_flatMap] at hu
  obtain ⟨x, _, hu⟩ := hu
  simp [csEn] at hu
  rcases hu with rfl | rfl | rfl <;> rfl
theorem old_fr {W W' : World} (hf : Fr (From W.heap.size) W W') : Fr Nob W W' := hf.mono fun k hk q => by unfold From at q; omega
theorem old_of {wa W : World} {k0 : Nat} (hF : Fr (From wa.heap.size) wa W) (h0 : wa.heap.size ≤ k0) {n : Nat} : ∀ k, k < n → (k = k0 ∨ W.heap.size ≤ k) → From wa.heap.size k := fun k _ q => by
  have := hF.size; unfold From; omega
theorem new_of {wa W : World} (hF : Fr (From wa.heap.size) wa W) {n : Nat} : ∀ k, k < n → (From wa.heap.size k ∨ W.heap.size ≤ k) → From wa.heap.size k := fun k _ q => by
  have := hF.size; unfold From at q ⊢; omega
theorem at_of {wa : World} {k0 : Nat} (h0 : wa.heap.size ≤ k0) {n : Nat} : ∀ k, k < n → k = k0 → From wa.heap.size k := fun k _ q => by unfold From; omega
theorem lit_cellsC {W : World} {b : Nat} {x y z : Value} {T : TypeId} (h : W.heap[b]? = some (.cells #[x, y, z] T (0, 0))) : ∀ j u, ([x, y, z] : List Value)[j]? = some u → W.cell? ((⟨b, 0, none⟩ : Addr).add j) = some u := fun j u hj => by
  rw [Addr.add_lit]; exact blk_cell h _ (by rw [Nat.zero_add]; simpa using hj)

set_option maxHeartbeats 8000000 in
theorem nil_main (w : World) (n : Nat) (at' dr : Int) (d : Bool) (h14 : n ≤ 14) :
    Calls Try.prog 4 #[.int .i64 (n : Int), .int .i64 at', .bool d, .int .i64 dr] w fun e w' => e = .returned (.bool true) ∧ Fr Nob w w' := by
  have Haw := Lib.hid (fun W => awake10 W)
  have Hnew := Lib.hid (fun W => chan_new W 1 (by omega))
  have hlo := Int.emod_nonneg at' (show ((n : Int) + 1) ≠ 0 by omega)
  have hhi := Int.emod_lt_of_pos at' (show (0 : Int) < (n : Int) + 1 by omega)
  obtain ⟨k, hk⟩ := Int.eq_ofNat_of_zero_le hlo
  have hkn : k ≤ n := by omega
  have hrnd := fun W => alike_round W at' ((n : Int) + 1) (by omega) (by omega)
  rw [hk] at hrnd
  have Hrnd := Lib.hid hrnd
  have d1 : decide ((n : Int) < 0) = false := decide_eq_false (by omega)
  have d2 : decide ((14 : Int) < n) = false := decide_eq_false (by omega)
  have d1' : ¬ (n : Int) < 0 := by omega
  have d2' : ¬ (14 : Int) < n := by omega
  have hmk : ∀ W : World, (Instr.makeSlice 23 (.int .i64 (n : Int)) (.int .i64 (n : Int))).run Try.prog W = .ok (.slice (some ⟨W.heap.size, 0, none⟩) n n) (W.alloc (.cells (madeCells #[.pointer none, .bool false, .int .i64 0] (n * 3)) 29)) := fun W => by
    obtain ⟨i, hi, hz, hs, hb⟩ := info_parts (P := Try.prog) info_case
    have := run_make (P := Try.prog) W 23 29 i (.agg #[.pointer none, .bool false, .int .i64 0]) Try.underlying23 hi hz .i64 .i64 n n (by omega) (by omega) (by rw [hb]; omega) (by omega)
    rw [hs] at this
    exact this
  have Hmk := Lib.hid hmk
  clear hrnd hk hlo hhi hmk
  go_enter Try.func4, Try.ntmps4
  go_wp2_with fail
  refine (Hnew.out _).mono ?_
  intro e w1 hnew
  obtain ⟨b, S, rfl, hmk1⟩ := Mk.first hnew
  have Hm1 := Lib.hid hmk1
  clear hnew hmk1
  go_wp2_with fail
  refine (pool_send Hm1.out.pool 0 (P1_0 _) 6 true [] 0 0 (c' := nlC) rfl rfl rfl).mono ?_
  rintro e w2 ⟨A2, cp2, rfl, hf, hp, _⟩
  rw [P1_upd] at hp
  have Hm2 := Lib.hid (Hm1.out.turn hf hp)
  clear hf hp Hm1
  have hmk := Hmk.out
  go_wp2_with fail
  clear hmk
  obtain ⟨w3, hw3⟩ : ∃ w3, w3 = w2.alloc (.cells (madeCells #[.pointer none, .bool false, .int .i64 0] (n * 3)) 29) := ⟨_, rfl⟩
  rw [← hw3]
  obtain ⟨sb, hsb⟩ : ∃ sb, sb = w2.heap.size := ⟨_, rfl⟩
  have hf3 : Fr Nob w2 w3 := by rw [hw3]; exact (Fr.refl Nob w2).alloc _
  have hs3 : Sl w3 (fun k => k = sb) 29 3 (.slice (some ⟨sb, 0, none⟩) n n) n (css (fun _ => b) (List.replicate n (none, false, 0))) := by
    have := Sl.lit w2 29 3 (madeCells #[.pointer none, .bool false, .int .i64 0] (n * 3)) n (fun k => k = sb) hsb.symm (by unfold maxLen; omega) (by rw [size_madeCells])
    rw [css_made (fun _ => b), ← hw3, ← hsb] at this
    exact this
  have Hm3 : Hid (Mk w w3 S (fun k => k = sb) Nob (fun _ => b) (P1 nlC) (.slice (some ⟨sb, 0, none⟩) n n) n (List.replicate n (none, false, 0)) (.slice none 0 0) 0 []) := Lib.hid (by
    have h1 := Hm2.out.newL hf3 (vl' := .slice (some ⟨sb, 0, none⟩) n n) (n' := n) (l' := List.replicate n (none, false, 0)) (hs3.mono fun k _ e => by unfold From; omega)
    exact ⟨h1.fr, h1.s, fun k e => by have := Hm2.out.fr.size; have := lt_of_block (show w3.heap[sb]? = _ by rw [hw3, hsb]; exact heap_alloc_new _ _); omega, h1.u, fun k q e => by have := (Hm2.out.s k q).2; omega, h1.su, fun _ _ q => q, h1.pool, hs3, h1.sw⟩)
  rw [← hsb]
  have Hrep : Hid (NilC (List.replicate n (none, false, 0))) := Lib.hid fun x hx => by rw [List.mem_replicate] at hx; rw [hx.2]
  clear hw3 hsb hf3 hs3 Hm2
  go_loopw [12] (fun i wr => ∃ (q : Nat) (l : List Cs), i = .int .i64 q ∧ q ≤ n ∧ Hid (l.length = n) ∧ Hid (NilC l) ∧ Hid (Mk w wr S (fun k => k = sb) Nob (fun _ => b) (P1 nlC) (.slice (some ⟨sb, 0, none⟩) n n) n l (.slice none 0 0) 0 [])) (fun i _ => n - (intOf i).toNat)
  case atStart => exact ⟨0, _, rfl, Nat.zero_le _, Lib.hid (by simp), Hrep, Hm3⟩
  case round =>
    obtain ⟨wo, rfl⟩ : ∃ wo : World, wo = wr := ⟨_, rfl⟩
    obtain ⟨q, l, rfl, hq, Hlen, Hnil, Hm⟩ := hrel
    clear Hm3 Hrep
    by_cases hlt : q < n
    · have hqi : (q : Int) < n := by omega
      obtain ⟨gs, os, cs, hv, _, _, hcs1, _, hcell, hfz⟩ := Hm.out.sl.form (by omega)
      cases hv
      have hx0 : l[q]? = some (l[q]'(by rw [Hlen.out]; exact hlt)) := List.getElem?_eq_getElem _
      obtain ⟨⟨o, s0, v0⟩, hx⟩ : ∃ x, l[q]? = some x := ⟨_, hx0⟩
      have ho : o = none := Hnil.out _ (List.mem_of_getElem? hx)
      subst ho
      have u1 := hcell _ _ (css_get (fun _ => b) l q _ hx).2.1
      have f1 := hfz (0 + (q * 3 + 1))
      rw [Nat.zero_add] at u1 f1
      have Hx := Lib.hid hx
      clear hcell hfz hx hx0
      go_wp2_with fail
      have Hm5 : Hid (Mk w (wo.setCell ⟨sb, q * 3 + 1, none⟩ (.bool ((q : Int) % 2 == 0))) S (fun k => k = sb) Nob (fun _ => b) (P1 nlC) (.slice (some ⟨sb, 0, none⟩) n n) n (l.set q (none, ((q : Int) % 2 == 0), v0)) (.slice none 0 0) 0 []) := Lib.hid (by
        refine Hm.out.setL ((Fr.refl (fun k => k = sb) wo).setB _ _) ?_
        have := Hm.out.sl.set (q * 3 + 1) (by omega) (.bool ((q : Int) % 2 == 0))
        rw [Nat.zero_add, css_set (fun _ => b) l q none s0 v0 _ Hx.out] at this
        exact this)
      have Hlen5 : Hid ((l.set q (none, ((q : Int) % 2 == 0), v0)).length = n) := Lib.hid (by rw [List.length_set]; exact Hlen.out)
      have Hnil5 : Hid (NilC (l.set q (none, ((q : Int) % 2 == 0), v0))) := Lib.hid (Hnil.out.set q _ v0)
      clear u1 f1
      refine ⟨⟨q + 1, _, by go_num, by omega, Hlen5, Hnil5, Hm5⟩, ?_⟩
      simp [intOf]; omega
    · obtain rfl : q = n := by omega
      have hdo := nl_do w wo S _ b _ q l Hlen.out (by omega) Hnil.out d dr Hm.out
      have Hdo := Lib.hid hdo
      clear hdo Hm
      cases d with
      | true =>
        have Hdo2 : Hid (Calls Try.prog 11 #[.slice (some ⟨sb, 0, none⟩) q q, .bool true, .int .i64 dr, .int .i64 3] wo fun e w' => ∃ (A : Option Addr) (cp : Nat) (S' : Nat → Prop), e = .returned (.tuple #[resV (-1) 0 false false false false, .slice A 0 cp, .int .i64 0]) ∧ Mk w w' S' (fun k => k = sb) Nob (fun _ => b) (P1 nlC) (.slice (some ⟨sb, 0, none⟩) q q) q l (.slice none 0 0) 0 []) := Hdo
        clear Hdo
        go_wp2_with fail
        refine Hdo2.out.mono ?_
        rintro e w4 ⟨A4, cp4, S4, rfl, hm4⟩
        have Hm4 := Lib.hid hm4
        clear hm4 Hdo2
        go_wp2_with fail
        obtain ⟨w5, hw5⟩ : ∃ w5, w5 = w4.alloc (resO (-1) 0 false false false false) := ⟨_, rfl⟩
        rw [← hw5]
        have hf5 : Fr Nob w4 w5 := by rw [hw5]; exact (Fr.refl Nob w4).alloc _
        have Hm5 := Lib.hid (Hm4.out.fr0 hf5)
        clear hw5 hf5 Hm4
        refine (nl_ready w w5 S4 _ b _ q l Hlen.out (by omega) Hnil.out Hm5.out).mono ?_
        rintro e w6 ⟨A6, cp6, rfl, hm6⟩
        have Hm6 := Lib.hid hm6
        clear hm6 Hm5
        go_wp2_with fail
        refine (nl_leave w w6 S4 _ b _ q l Hlen.out (by omega) Hnil.out Hm6.out).mono ?_
        rintro e w7 ⟨rfl, hm7⟩
        have Hm7 := Lib.hid hm7
        have hq1 : IntKind.i64.wrap ((q : Int) + 1) = (q : Int) + 1 := IntWalk.i64_in _ (by omega)
        clear hm7 Hm6
        go_wp2_with fail
        refine (Hrnd.out w7).mono ?_
        rintro e _ ⟨rfl, rfl⟩
        obtain ⟨wa, rfl⟩ : ∃ wa : World, wa = w7 := ⟨_, rfl⟩
        obtain ⟨Ak, hrunk, _, hRk⟩ := cut_h (P := Try.prog) 23 29 3 Try.underlying23 (by kernel_rfl) (some ⟨sb, 0, none⟩) q q k hkn (Nat.le_refl _)
        obtain ⟨Ad, hrund, _, hRd⟩ := cut_l (P := Try.prog) 23 29 3 Try.underlying23 (by kernel_rfl) (some ⟨sb, 0, none⟩) q q k hkn
        have hR2 := hRk wa _ Hm7.out.sl.rd
        have hR4 := hRd wa _ Hm7.out.sl.rd
        rw [css_take] at hR2
        rw [css_drop] at hR4
        obtain ⟨cs, hcs⟩ : ∃ cs, cs = q := ⟨_, rfl⟩
        have HR2 : Hid (Rd wa 3 (.slice Ak k cs) k (css (fun _ => b) (l.take k))) := Lib.hid (by rw [hcs]; exact hR2)
        have HR4 : Hid (Rd wa 3 (.slice Ad (q - k) (cs - k)) (q - k) (css (fun _ => b) (l.drop k))) := Lib.hid (by rw [hcs]; exact hR4)
        have hrunk' : ∀ W : World, (Instr.slice 23 (.slice (some ⟨sb, 0, none⟩) q q) none (some (.int .i64 (k : Int))) none).run Try.prog W = .ok (.slice Ak k cs) W := by rw [hcs]; exact hrunk
        have hrund' : ∀ W : World, (Instr.slice 23 (.slice (some ⟨sb, 0, none⟩) q q) (some (.int .i64 (k : Int))) none none).run Try.prog W = .ok (.slice Ad (q - k) (cs - k)) W := by rw [hcs]; exact hrund
        clear hR2 hR4 hRk hRd hrunk hrund hcs hq1
        go_wp2_with fail
        as_aux_lemma =>
          have hm24 : (0 + k) * 24 ≤ 140737488355328 ∧ (0 + k + 1) * 24 ≤ 140737488355328 ∧ (0 + k + 1 + (q - k)) * 24 ≤ 140737488355328 := ⟨by omega, by omega, by omega⟩
          have Hm24 := Lib.hid hm24
          have hz1 : (wa.alloc (.cells #[.pointer (some ⟨b, 0, none⟩), .bool false, .int .i64 0] 29)).heap.size = wa.heap.size + 1 := by simp
          have hz1' : (wa.alloc (.cells #[] 29)).heap.size = wa.heap.size + 1 := by simp
          have h01 : Sl (wa.alloc (.cells #[] 29)) (fun k => k = wa.heap.size) 29 3 (.slice (some ⟨wa.heap.size, 0, none⟩) 0 0) 0 [] := Sl.lit wa 29 3 #[] 0 (fun k => k = wa.heap.size) rfl (by simp [maxLen]) rfl
          have h03 := Sl.lit (wa.alloc (.cells #[.pointer (some ⟨b, 0, none⟩), .bool false, .int .i64 0] 29)) 29 3 #[] 0 (fun k => k = wa.heap.size + 1) hz1 (by simp [maxLen]) rfl
          rw [hz1] at h03
          have H01 := Lib.hid h01.drew; have H02 := Lib.hid (h01.alloc (.cells #[.pointer (some ⟨b, 0, none⟩), .bool false, .int .i64 0] 29)).drew; have H03 := Lib.hid h03.drew
          have F1 := (((Fr.refl Nob wa).alloc (.cells #[] 29)).drew)
          have F2 := ((((Fr.refl Nob wa).alloc (.cells #[] 29))).alloc (.cells #[.pointer (some ⟨b, 0, none⟩), .bool false, .int .i64 0] 29)).drew
          have F3 := ((((Fr.refl Nob wa).alloc (.cells #[.pointer (some ⟨b, 0, none⟩), .bool false, .int .i64 0] 29))).alloc (.cells #[] 29)).drew
          have HR1 := Lib.hid (HR2.out.fr F1); have HR2' := Lib.hid (HR2.out.fr F2); have HR3' := Lib.hid (HR2.out.fr F3)
          have hb2 : ((wa.alloc (.cells #[] 29)).alloc (.cells #[.pointer (some ⟨b, 0, none⟩), .bool false, .int .i64 0] 29)).drew.heap[wa.heap.size + 1]? = some (.cells #[.pointer (some ⟨b, 0, none⟩), .bool false, .int .i64 0] 29 (0, 0)) := blk_alloc_eq _ hz1'.symm
          have hb3 : ((wa.alloc (.cells #[.pointer (some ⟨b, 0, none⟩), .bool false, .int .i64 0] 29)).alloc (.cells #[] 29)).drew.heap[wa.heap.size]? = some (.cells #[.pointer (some ⟨b, 0, none⟩), .bool false, .int .i64 0] 29 (0, 0)) := ((Fr.refl Nob (wa.alloc (.cells #[.pointer (some ⟨b, 0, none⟩), .bool false, .int .i64 0] 29))).alloc _).drew.blk id (heap_alloc_new wa _)
          have HF1 := Lib.hid (F1.none (S := From wa.heap.size)); have HF2 := Lib.hid (F2.none (S := From wa.heap.size)); have HF3 := Lib.hid (F3.none (S := From wa.heap.size)); have HB2 := Lib.hid hb2; have HB3 := Lib.hid hb3
          have Hk1 := Lib.hid (Nat.le_refl wa.heap.size); have Hk2 := Hk1; have Hk3 := Lib.hid (Nat.le_succ wa.heap.size)
          have Hne2 := Lib.hid (Nat.succ_ne_self wa.heap.size); have Hne3 := Lib.hid (Nat.succ_ne_self wa.heap.size).symm
          clear hz1 hz1' h01 h03 F1 F2 F3 hb2 hb3 hm24
          go_region_held3 (fun _ => True) (exact trivial)
            ((first
              | (refine step_append_rd _ rfl _ _ _ rfl (fun k => k = wa.heap.size) 29 _ 3 24 Try.underlying23 info_case rfl (by decide) (.slice (some ⟨wa.heap.size, 0, none⟩) 0 0) 0 [] rfl (by with_reducible exact H01.out) (.slice Ak k cs) k (css (fun _ => b) (l.take k)) rfl (by with_reducible exact HR1.out) (css_one _ _) (by decide) Hm24.out.1 ?_; intro v4 w4 hs40 hf40; have hf4 := HF1.out.trans0 (hf40.mono (at_of Hk1.out)); have hs4 := hs40.mono (old_of HF1.out Hk1.out); have hx4 := Lib.hid (show True from trivial))
              | (refine step_append_rd _ rfl _ _ _ rfl (fun k => k = wa.heap.size) 29 _ 3 24 Try.underlying23 info_case rfl (by decide) (.slice (some ⟨wa.heap.size, 0, none⟩) 0 0) 0 [] rfl (by with_reducible exact H02.out) (.slice Ak k cs) k (css (fun _ => b) (l.take k)) rfl (by with_reducible exact HR2'.out) (css_one _ _) (by decide) Hm24.out.1 ?_; intro v4 w4 hs40 hf40; have hf4 := HF2.out.trans0 (hf40.mono (at_of Hk2.out)); have hs4 := hs40.mono (old_of HF2.out Hk2.out); have hx4 := Lib.hid (hf40.blk Hne2.out HB2.out))
              | (refine step_append_rd _ rfl _ _ _ rfl (fun k => k = wa.heap.size + 1) 29 _ 3 24 Try.underlying23 info_case rfl (by decide) (.slice (some ⟨wa.heap.size + 1, 0, none⟩) 0 0) 0 [] rfl (by with_reducible exact H03.out) (.slice Ak k cs) k (css (fun _ => b) (l.take k)) rfl (by with_reducible exact HR3'.out) (css_one _ _) (by decide) Hm24.out.1 ?_; intro v4 w4 hs40 hf40; have hf4 := HF3.out.trans0 (hf40.mono (at_of Hk3.out)); have hs4 := hs40.mono (old_of HF3.out Hk3.out); have hx4 := Lib.hid (hf40.blk Hne3.out HB3.out))
              | (refine step_append_sl _ rfl _ _ _ rfl (From wa.heap.size) 29 _ 3 24 Try.underlying23 info_case rfl (by decide) v4 (0 + k) ([] ++ css (fun _ => b) (l.take k)) rfl (by with_reducible exact hs4.alloc _) ⟨w4.heap.size, 0, none⟩ 1 1 [.pointer (some ⟨b, 0, none⟩), .bool false, .int .i64 0] rfl rfl (lit_cellsC (heap_alloc_new w4 _)) rfl Hm24.out.2.1 (by decide) ?_; intro v5 w5 hs50 hf50; have hf5 := (hf4.alloc (.cells #[.pointer (some ⟨b, 0, none⟩), .bool false, .int .i64 0] 29)).trans0 hf50; have hs5 := hs50.mono (new_of (hf4.alloc (.cells #[.pointer (some ⟨b, 0, none⟩), .bool false, .int .i64 0] 29))))
              | (refine step_append_sl _ rfl _ _ _ rfl (From wa.heap.size) 29 _ 3 24 Try.underlying23 info_case rfl (by decide) v4 (0 + k) ([] ++ css (fun _ => b) (l.take k)) rfl (by with_reducible exact hs4) ⟨wa.heap.size + 1, 0, none⟩ 1 1 [.pointer (some ⟨b, 0, none⟩), .bool false, .int .i64 0] rfl rfl (lit_cellsC hx4.out) rfl Hm24.out.2.1 (by decide) ?_; intro v5 w5 hs50 hf50; have hf5 := (hf4).trans0 hf50; have hs5 := hs50.mono (new_of (hf4)))
              | (refine step_append_sl _ rfl _ _ _ rfl (From wa.heap.size) 29 _ 3 24 Try.underlying23 info_case rfl (by decide) v4 (0 + k) ([] ++ css (fun _ => b) (l.take k)) rfl (by with_reducible exact hs4) ⟨wa.heap.size, 0, none⟩ 1 1 [.pointer (some ⟨b, 0, none⟩), .bool false, .int .i64 0] rfl rfl (lit_cellsC hx4.out) rfl Hm24.out.2.1 (by decide) ?_; intro v5 w5 hs50 hf50; have hf5 := (hf4).trans0 hf50; have hs5 := hs50.mono (new_of (hf4)))
              | (refine step_append_rd _ rfl _ _ _ rfl (From wa.heap.size) 29 _ 3 24 Try.underlying23 info_case rfl (by decide) v5 (0 + k + 1) ([] ++ css (fun _ => b) (l.take k) ++ [.pointer (some ⟨b, 0, none⟩), .bool false, .int .i64 0]) rfl (by with_reducible exact hs5) (.slice Ad (q - k) (cs - k)) (q - k) (css (fun _ => b) (l.drop k)) rfl (by exact HR4.out.fr (old_fr hf5)) (css_one _ _) (by decide) Hm24.out.2.2 ?_; intro v6 w6 hs60 hf60; have hf6 := hf5.trans0 hf60; have hs6 := hs60.mono (new_of hf5))))
          all_goals (
            have hks : 0 + k + 1 + (q - k) = q + 1 := by omega
            obtain ⟨A6, c6, rfl⟩ := hs6.slice
            have hse : Sl w6 (From wa.heap.size) 29 3 (.slice A6 (0 + k + 1 + (q - k)) c6) (0 + k + 1 + (q - k)) (css (fun _ => b) (nlM l k)) := by
              have e : css (fun _ => b) (nlM l k) = [] ++ css (fun _ => b) (l.take k) ++ [.pointer (some ⟨b, 0, none⟩), .bool false, .int .i64 0] ++ css (fun _ => b) (l.drop k) := by simp [css, nlM, pa]
              rw [e]; exact hs6
            rw [hks] at hse ⊢
            have Hm8 := Lib.hid (Hm7.out.newL (old_fr hf6) hse)
            clear hse hs6 hs5 hs4 hf6 hf5 hf4 hrunk' hrund'
            go_wp2_with fail
            refine (nl_one w w6 S4 _ b _ q k l Hlen.out h14 hkn Hnil.out _ dr Hm8.out).mono ?_
            rintro e w9 ⟨A9, c9, rfl, hf9⟩
            have F9 := Lib.hid hf9
            clear hf9 Hm8
            go_wp2_with fail
            refine (Haw.out _).mono ?_
            rintro e w10 ⟨rfl, hf10⟩
            have F10 := Lib.hid ((F9.out.alloc _).trans0 hf10)
            clear hf10
            go_wp2_with fail
            go_ret
            exact ⟨rfl, F10.out⟩)
      | false =>
        have Hdo2 : Hid (Calls Try.prog 11 #[.slice (some ⟨sb, 0, none⟩) q q, .bool false, .int .i64 dr, .int .i64 3] wo fun e w' => ∃ (A : Option Addr) (cp : Nat) (S' : Nat → Prop), e = .returned (.tuple #[resV (-1) 0 false false true false, .slice A 0 cp, .int .i64 0]) ∧ Mk w w' S' (fun k => k = sb) Nob (fun _ => b) (P1 nlC) (.slice (some ⟨sb, 0, none⟩) q q) q l (.slice none 0 0) 0 []) := Hdo
        clear Hdo
        go_wp2_with fail
        refine Hdo2.out.mono ?_
        rintro e w4 ⟨A4, cp4, S4, rfl, hm4⟩
        have Hm4 := Lib.hid hm4
        clear hm4 Hdo2
        go_wp2_with fail
        obtain ⟨w5, hw5⟩ : ∃ w5, w5 = w4.alloc (resO (-1) 0 false false true false) := ⟨_, rfl⟩
        rw [← hw5]
        have hf5 : Fr Nob w4 w5 := by rw [hw5]; exact (Fr.refl Nob w4).alloc _
        have Hm5 := Lib.hid (Hm4.out.fr0 hf5)
        clear hw5 hf5 Hm4
        refine (nl_ready w w5 S4 _ b _ q l Hlen.out (by omega) Hnil.out Hm5.out).mono ?_
        rintro e w6 ⟨A6, cp6, rfl, hm6⟩
        have Hm6 := Lib.hid hm6
        clear hm6 Hm5
        go_wp2_with fail
        refine (nl_leave w w6 S4 _ b _ q l Hlen.out (by omega) Hnil.out Hm6.out).mono ?_
        rintro e w7 ⟨rfl, hm7⟩
        have Hm7 := Lib.hid hm7
        have hq1 : IntKind.i64.wrap ((q : Int) + 1) = (q : Int) + 1 := IntWalk.i64_in _ (by omega)
        clear hm7 Hm6
        go_wp2_with fail
        refine (Hrnd.out w7).mono ?_
        rintro e _ ⟨rfl, rfl⟩
        obtain ⟨wa, rfl⟩ : ∃ wa : World, wa = w7 := ⟨_, rfl⟩
        obtain ⟨Ak, hrunk, _, hRk⟩ := cut_h (P := Try.prog) 23 29 3 Try.underlying23 (by kernel_rfl) (some ⟨sb, 0, none⟩) q q k hkn (Nat.le_refl _)
        obtain ⟨Ad, hrund, _, hRd⟩ := cut_l (P := Try.prog) 23 29 3 Try.underlying23 (by kernel_rfl) (some ⟨sb, 0, none⟩) q q k hkn
        have hR2 := hRk wa _ Hm7.out.sl.rd
        have hR4 := hRd wa _ Hm7.out.sl.rd
        rw [css_take] at hR2
        rw [css_drop] at hR4
        obtain ⟨cs, hcs⟩ : ∃ cs, cs = q := ⟨_, rfl⟩
        have HR2 : Hid (Rd wa 3 (.slice Ak k cs) k (css (fun _ => b) (l.take k))) := Lib.hid (by rw [hcs]; exact hR2)
        have HR4 : Hid (Rd wa 3 (.slice Ad (q - k) (cs - k)) (q - k) (css (fun _ => b) (l.drop k))) := Lib.hid (by rw [hcs]; exact hR4)
        have hrunk' : ∀ W : World, (Instr.slice 23 (.slice (some ⟨sb, 0, none⟩) q q) none (some (.int .i64 (k : Int))) none).run Try.prog W = .ok (.slice Ak k cs) W := by rw [hcs]; exact hrunk
        have hrund' : ∀ W : World, (Instr.slice 23 (.slice (some ⟨sb, 0, none⟩) q q) (some (.int .i64 (k : Int))) none none).run Try.prog W = .ok (.slice Ad (q - k) (cs - k)) W := by rw [hcs]; exact hrund
        clear hR2 hR4 hRk hRd hrunk hrund hcs hq1
        go_wp2_with fail
        as_aux_lemma =>
          have hm24 : (0 + k) * 24 ≤ 140737488355328 ∧ (0 + k + 1) * 24 ≤ 140737488355328 ∧ (0 + k + 1 + (q - k)) * 24 ≤ 140737488355328 := ⟨by omega, by omega, by omega⟩
          have Hm24 := Lib.hid hm24
          have hz1 : (wa.alloc (.cells #[.pointer (some ⟨b, 0, none⟩), .bool false, .int .i64 0] 29)).heap.size = wa.heap.size + 1 := by simp
          have hz1' : (wa.alloc (.cells #[] 29)).heap.size = wa.heap.size + 1 := by simp
          have h01 : Sl (wa.alloc (.cells #[] 29)) (fun k => k = wa.heap.size) 29 3 (.slice (some ⟨wa.heap.size, 0, none⟩) 0 0) 0 [] := Sl.lit wa 29 3 #[] 0 (fun k => k = wa.heap.size) rfl (by simp [maxLen]) rfl
          have h03 := Sl.lit (wa.alloc (.cells #[.pointer (some ⟨b, 0, none⟩), .bool false, .int .i64 0] 29)) 29 3 #[] 0 (fun k => k = wa.heap.size + 1) hz1 (by simp [maxLen]) rfl
          rw [hz1] at h03
          have H01 := Lib.hid h01.drew; have H02 := Lib.hid (h01.alloc (.cells #[.pointer (some ⟨b, 0, none⟩), .bool false, .int .i64 0] 29)).drew; have H03 := Lib.hid h03.drew
          have F1 := (((Fr.refl Nob wa).alloc (.cells #[] 29)).drew)
          have F2 := ((((Fr.refl Nob wa).alloc (.cells #[] 29))).alloc (.cells #[.pointer (some ⟨b, 0, none⟩), .bool false, .int .i64 0] 29)).drew
          have F3 := ((((Fr.refl Nob wa).alloc (.cells #[.pointer (some ⟨b, 0, none⟩), .bool false, .int .i64 0] 29))).alloc (.cells #[] 29)).drew
          have HR1 := Lib.hid (HR2.out.fr F1); have HR2' := Lib.hid (HR2.out.fr F2); have HR3' := Lib.hid (HR2.out.fr F3)
          have hb2 : ((wa.alloc (.cells #[] 29)).alloc (.cells #[.pointer (some ⟨b, 0, none⟩), .bool false, .int .i64 0] 29)).drew.heap[wa.heap.size + 1]? = some (.cells #[.pointer (some ⟨b, 0, none⟩), .bool false, .int .i64 0] 29 (0, 0)) := blk_alloc_eq _ hz1'.symm
          have hb3 : ((wa.alloc (.cells #[.pointer (some ⟨b, 0, none⟩), .bool false, .int .i64 0] 29)).alloc (.cells #[] 29)).drew.heap[wa.heap.size]? = some (.cells #[.pointer (some ⟨b, 0, none⟩), .bool false, .int .i64 0] 29 (0, 0)) := ((Fr.refl Nob (wa.alloc (.cells #[.pointer (some ⟨b, 0, none⟩), .bool false, .int .i64 0] 29))).alloc _).drew.blk id (heap_alloc_new wa _)
          have HF1 := Lib.hid (F1.none (S := From wa.heap.size)); have HF2 := Lib.hid (F2.none (S := From wa.heap.size)); have HF3 := Lib.hid (F3.none (S := From wa.heap.size)); have HB2 := Lib.hid hb2; have HB3 := Lib.hid hb3
          have Hk1 := Lib.hid (Nat.le_refl wa.heap.size); have Hk2 := Hk1; have Hk3 := Lib.hid (Nat.le_succ wa.heap.size)
          have Hne2 := Lib.hid (Nat.succ_ne_self wa.heap.size); have Hne3 := Lib.hid (Nat.succ_ne_self wa.heap.size).symm
          clear hz1 hz1' h01 h03 F1 F2 F3 hb2 hb3 hm24
          go_region_held3 (fun _ => True) (exact trivial)
            ((first
              | (refine step_append_rd _ rfl _ _ _ rfl (fun k => k = wa.heap.size) 29 _ 3 24 Try.underlying23 info_case rfl (by decide) (.slice (some ⟨wa.heap.size, 0, none⟩) 0 0) 0 [] rfl (by with_reducible exact H01.out) (.slice Ak k cs) k (css (fun _ => b) (l.take k)) rfl (by with_reducible exact HR1.out) (css_one _ _) (by decide) Hm24.out.1 ?_; intro v4 w4 hs40 hf40; have hf4 := HF1.out.trans0 (hf40.mono (at_of Hk1.out)); have hs4 := hs40.mono (old_of HF1.out Hk1.out); have hx4 := Lib.hid (show True from trivial))
              | (refine step_append_rd _ rfl _ _ _ rfl (fun k => k = wa.heap.size) 29 _ 3 24 Try.underlying23 info_case rfl (by decide) (.slice (some ⟨wa.heap.size, 0, none⟩) 0 0) 0 [] rfl (by with_reducible exact H02.out) (.slice Ak k cs) k (css (fun _ => b) (l.take k)) rfl (by with_reducible exact HR2'.out) (css_one _ _) (by decide) Hm24.out.1 ?_; intro v4 w4 hs40 hf40; have hf4 := HF2.out.trans0 (hf40.mono (at_of Hk2.out)); have hs4 := hs40.mono (old_of HF2.out Hk2.out); have hx4 := Lib.hid (hf40.blk Hne2.out HB2.out))
              | (refine step_append_rd _ rfl _ _ _ rfl (fun k => k = wa.heap.size + 1) 29 _ 3 24 Try.underlying23 info_case rfl (by decide) (.slice (some ⟨wa.heap.size + 1, 0, none⟩) 0 0) 0 [] rfl (by with_reducible exact H03.out) (.slice Ak k cs) k (css (fun _ => b) (l.take k)) rfl (by with_reducible exact HR3'.out) (css_one _ _) (by decide) Hm24.out.1 ?_; intro v4 w4 hs40 hf40; have hf4 := HF3.out.trans0 (hf40.mono (at_of Hk3.out)); have hs4 := hs40.mono (old_of HF3.out Hk3.out); have hx4 := Lib.hid (hf40.blk Hne3.out HB3.out))
              | (refine step_append_sl _ rfl _ _ _ rfl (From wa.heap.size) 29 _ 3 24 Try.underlying23 info_case rfl (by decide) v4 (0 + k) ([] ++ css (fun _ => b) (l.take k)) rfl (by with_reducible exact hs4.alloc _) ⟨w4.heap.size, 0, none⟩ 1 1 [.pointer (some ⟨b, 0, none⟩), .bool false, .int .i64 0] rfl rfl (lit_cellsC (heap_alloc_new w4 _)) rfl Hm24.out.2.1 (by decide) ?_; intro v5 w5 hs50 hf50; have hf5 := (hf4.alloc (.cells #[.pointer (some ⟨b, 0, none⟩), .bool false, .int .i64 0] 29)).trans0 hf50; have hs5 := hs50.mono (new_of (hf4.alloc (.cells #[.pointer (some ⟨b, 0, none⟩), .bool false, .int .i64 0] 29))))
              | (refine step_append_sl _ rfl _ _ _ rfl (From wa.heap.size) 29 _ 3 24 Try.underlying23 info_case rfl (by decide) v4 (0 + k) ([] ++ css (fun _ => b) (l.take k)) rfl (by with_reducible exact hs4) ⟨wa.heap.size + 1, 0, none⟩ 1 1 [.pointer (some ⟨b, 0, none⟩), .bool false, .int .i64 0] rfl rfl (lit_cellsC hx4.out) rfl Hm24.out.2.1 (by decide) ?_; intro v5 w5 hs50 hf50; have hf5 := (hf4).trans0 hf50; have hs5 := hs50.mono (new_of (hf4)))
              | (refine step_append_sl _ rfl _ _ _ rfl (From wa.heap.size) 29 _ 3 24 Try.underlying23 info_case rfl (by decide) v4 (0 + k) ([] ++ css (fun _ => b) (l.take k)) rfl (by with_reducible exact hs4) ⟨wa.heap.size, 0, none⟩ 1 1 [.pointer (some ⟨b, 0, none⟩), .bool false, .int .i64 0] rfl rfl (lit_cellsC hx4.out) rfl Hm24.out.2.1 (by decide) ?_; intro v5 w5 hs50 hf50; have hf5 := (hf4).trans0 hf50; have hs5 := hs50.mono (new_of (hf4)))
              | (refine step_append_rd _ rfl _ _ _ rfl (From wa.heap.size) 29 _ 3 24 Try.underlying23 info_case rfl (by decide) v5 (0 + k + 1) ([] ++ css (fun _ => b) (l.take k) ++ [.pointer (some ⟨b, 0, none⟩), .bool false, .int .i64 0]) rfl (by with_reducible exact hs5) (.slice Ad (q - k) (cs - k)) (q - k) (css (fun _ => b) (l.drop k)) rfl (by exact HR4.out.fr (old_fr hf5)) (css_one _ _) (by decide) Hm24.out.2.2 ?_; intro v6 w6 hs60 hf60; have hf6 := hf5.trans0 hf60; have hs6 := hs60.mono (new_of hf5))))
          all_goals (
            have hks : 0 + k + 1 + (q - k) = q + 1 := by omega
            obtain ⟨A6, c6, rfl⟩ := hs6.slice
            have hse : Sl w6 (From wa.heap.size) 29 3 (.slice A6 (0 + k + 1 + (q - k)) c6) (0 + k + 1 + (q - k)) (css (fun _ => b) (nlM l k)) := by
              have e : css (fun _ => b) (nlM l k) = [] ++ css (fun _ => b) (l.take k) ++ [.pointer (some ⟨b, 0, none⟩), .bool false, .int .i64 0] ++ css (fun _ => b) (l.drop k) := by simp [css, nlM, pa]
              rw [e]; exact hs6
            rw [hks] at hse ⊢
            have Hm8 := Lib.hid (Hm7.out.newL (old_fr hf6) hse)
            clear hse hs6 hs5 hs4 hf6 hf5 hf4 hrunk' hrund'
            go_wp2_with fail
            refine (nl_one w w6 S4 _ b _ q k l Hlen.out h14 hkn Hnil.out _ dr Hm8.out).mono ?_
            rintro e w9 ⟨A9, c9, rfl, hf9⟩
            have F9 := Lib.hid hf9
            clear hf9 Hm8
            go_wp2_with fail
            refine (Haw.out _).mono ?_
            rintro e w10 ⟨rfl, hf10⟩
            have F10 := Lib.hid ((F9.out.alloc _).trans0 hf10)
            clear hf10
            go_wp2_with fail
            go_ret
            exact ⟨rfl, F10.out⟩)

theorem nil_bad (w : World) (a0 a1 dr : Int) (s : Bool) (h : a0 < 0 ∨ 14 < a0) :
    Calls Try.prog 4 #[.int .i64 a0, .int .i64 a1, .bool s, .int .i64 dr] w fun e w' => e = .returned (.bool true) ∧ Fr Nob w w' := by
  have Haw := Lib.hid (fun W => awake10 W)
  by_cases h0 : a0 < 0
  · have d0 : decide (a0 < 0) = true := decide_eq_true h0
    clear h h0
    go_enter Try.func4, Try.ntmps4
    go_wp2_with fail
    refine (Haw.out _).mono ?_
    rintro e w2 ⟨rfl, hf2⟩
    have F2 := Lib.hid (hf2)
    clear hf2
    go_wp2_with fail
    go_ret
    exact ⟨rfl, F2.out⟩
  · have d0 : decide (a0 < 0) = false := decide_eq_false h0
    have d1 : decide (14 < a0) = true := decide_eq_true (by omega)
    clear h h0
    go_enter Try.func4, Try.ntmps4
    go_wp2_with fail
    refine (Haw.out _).mono ?_
    rintro e w2 ⟨rfl, hf2⟩
    have F2 := Lib.hid (hf2)
    clear hf2
    go_wp2_with fail
    go_ret
    exact ⟨rfl, F2.out⟩

theorem chooseNil_walk (a0 a1 : Int) (s : Bool) (a3 : Int) (w : World) (w0 : (Lit.int .i64 a0).wf = true) (w1 : (Lit.int .i64 a1).wf = true) (w3 : (Lit.int .i64 a3).wf = true) :
    Calls Try.prog 4 #[.int .i64 a0, .int .i64 a1, .bool s, .int .i64 a3] w fun e w' => e = .returned (.bool true) ∧ Below w.heap.size w w' := by
  have key : Calls Try.prog 4 #[.int .i64 a0, .int .i64 a1, .bool s, .int .i64 a3] w fun e w' => e = .returned (.bool true) ∧ Fr Nob w w' := by
    by_cases h : a0 < 0 ∨ 14 < a0
    · exact nil_bad w a0 a1 a3 s h
    · obtain ⟨n, rfl⟩ : ∃ n : Nat, a0 = n := ⟨a0.toNat, by omega⟩
      exact nil_main w n a1 a3 s (by omega)
  exact key.mono fun e w' ⟨h1, h2⟩ => ⟨h1, h2.below (Nat.le_refl _) fun _ q => q.elim⟩

/-! The row: out of the walk above. -/
namespace chooseNil
open Go.ChangeShapes Go.WideShapes Go.ChangeAt Go.RowKit
open Go.ChangeMaps (open_string shut_string)
theorem own : ownKnob Try.prog.godebug = none := by kernel_rfl
theorem laidOut : laidOutB Try.prog = true := by kernel_rfl
set_option maxRecDepth 100000 in
theorem lifted (os : Os) (started : os.Started) (H : Type) (enc : TypeId × Value → H) :
    ReturnsInHanded {} Try.checked os 4 .any (Rows.chooseNilSpec.pre6 enc Try.prog Try.f4 Rows.chooseNilRow.domain false) (Rows.chooseNilSpec.post enc Try.prog Try.f4 false true false false) := by
  refine returnsInHanded_of_change (C := Try.checked) own started (by kernel_rfl) Try.func4
    (ChangeSpec.witness6 (enc := enc) (C := Try.checked) false ⟨#[], #[.int .i64 0, .int .i64 0, .bool false, .int .i64 0], []⟩ 8 (by kernel_rfl) (by kernel_rfl) (by kernel_rfl) (by kernel_rfl)) ?_
  intro W base args ds gs before hval0 hW hcnd _
  have hval : ∀ (j : Nat) t v, Try.f4.params[j]? = some t → args[j]? = some v → Value.okWide Try.prog W .any base t v := hval0
  have hW' := hW
  obtain ⟨p, q, hA0, hV, rfl, hfz, hnd⟩ := hW
  have hA : DataW.TrodAll enc Try.prog W 0 (fun _ => true) true Try.f4.params.toList args.toList ds p := hA0
  rw [Try.params4] at hA hval
  obtain ⟨v0, vs0, d0, ds0, p0, q0, hargs, rfl, rfl, h0, r0⟩ := trodAll_cons hA
  obtain ⟨v1, vs1, d1, ds1, p1, q1, rfl, rfl, rfl, h1, r1⟩ := trodAll_cons r0
  obtain ⟨v2, vs2, d2, ds2, p2, q2, rfl, rfl, rfl, h2, r2⟩ := trodAll_cons r1
  obtain ⟨v3, vs3, d3, ds3, p3, q3, rfl, rfl, rfl, h3, r3⟩ := trodAll_cons r2
  obtain ⟨rfl, rfl, rfl⟩ := trodAll_nil r3
  obtain rfl : args = #[v0, v1, v2, v3] := by cases args; simp_all
  obtain ⟨rfl, rfl⟩ := trodVars_none hV
  obtain ⟨a0, rfl, rfl, rfl, w0⟩ := open_int Try.underlying3 (hval 0 3 v0 rfl rfl) h0
  obtain ⟨a1, rfl, rfl, rfl, w1⟩ := open_int Try.underlying3 (hval 1 3 v1 rfl rfl) h1
  obtain ⟨a2, rfl, rfl, rfl⟩ := open_bool Try.underlying4 (hval 2 4 v2 rfl rfl) h2
  obtain ⟨a3, rfl, rfl, rfl, w3⟩ := open_int Try.underlying3 (hval 3 3 v3 rfl rfl) h3
  clear hA0 hval0
  refine (chooseNil_walk a0 a1 a2 a3 W w0 w1 w3).mono fun e W' ⟨he, bel⟩ => ?_
  subst he
  exact ⟨_, rfl, _, _, _, [], _, [], hW', trodAll_mk1 (shut_bool Try.underlying4 _), (trodAll_cons_mk (shut_int Try.underlying3 w0) (trodAll_cons_mk (shut_int Try.underlying3 w1) (trodAll_cons_mk (shut_bool Try.underlying4 _) (trodAll_cons_mk (shut_int Try.underlying3 w3) trodAll_mk0)))), rfl, bel.frame _, fun h => by cases h⟩
theorem over : Rows.chooseNilRow.holds Try.pinned (OpenSpec.ofChange Rows.chooseNilSpec) :=
  OpenClaim.holds_of_wide 4 Try.f4 rfl rfl rfl rfl rfl rfl rfl ⟨rfl, rfl, rfl, rfl, rfl⟩ rfl rfl rfl rfl rfl (by kernel_rfl) Try.func4 (by kernel_rfl)
    (of_decide_eq_true (by kernel_rfl)) (by unfold Func.isWrapper; first | (rw [if_pos (by decide +kernel)]; kernel_rfl) | (rw [if_neg (by decide +kernel)]; exact ⟨rfl, rfl⟩))
    (fun os started H enc _ => lifted os started H enc)
end chooseNil
/-- THE STATEMENT. -/
theorem chooseNil_holds : Rows.ChooseNilSaid := chooseNil.over
#print axioms chooseNil_holds
end Go.Proofs.Ytdemeghhjnehbaa
