/- TopMutex answers true whatever its inputs are: no condition. -/
import Derived.Test.YtcffplgimbbflaaGreatMuQ0
set_option linter.unusedVariables false
set_option linter.unusedSimpArgs false
namespace Go.Proofs.YtcffplgimbbflaaGreat
open Go.RowKit
set_option maxRecDepth 100000
def holdN (t pc : Nat) : Nat := if pc % 4 ≠ 0 ∧ pc < 4 * t then 1 else 0
def incN (pc : Nat) : Nat := (pc + 2) / 4
def doneN (t pc : Nat) : Nat := if pc = 4 * t + 1 then 1 else 0
def wtN (L : Nat) (x : MT) : Nat := 2 * (L - x.pc) + (if x.md = 0 ∨ x.md = 5 then 1 else 0)
def Hs (n t : Nat) (f : Nat → MT) : Nat := sm (fun i => holdN t (f i).pc) n
def Ss (n : Nat) (f : Nat → MT) : Nat := sm (fun i => incN (f i).pc) n
def Ds (n t : Nat) (f : Nat → MT) : Nat := sm (fun i => doneN t (f i).pc) n
def Ws (n t : Nat) (f : Nat → MT) : Nat := sm (fun i => wtN (4 * t + 1) (f i)) n + wtN (2 * n + 5) (f 0)
section
variable {n t : Nat} {f : Nat → MT} {i : Nat} {z : MT}
theorem Hs_upd (h1 : 1 ≤ i) (h2 : i ≤ n) : Hs n t (Go.Proofs.YtcffplgimbbflaaGreat.upd f i z) + holdN t (f i).pc = Hs n t f + holdN t z.pc := sm_upd f (fun x => holdN t x.pc) z h1 h2
theorem Ss_upd (h1 : 1 ≤ i) (h2 : i ≤ n) : Ss n (Go.Proofs.YtcffplgimbbflaaGreat.upd f i z) + incN (f i).pc = Ss n f + incN z.pc := sm_upd f (fun x => incN x.pc) z h1 h2
theorem Ds_upd (h1 : 1 ≤ i) (h2 : i ≤ n) : Ds n t (Go.Proofs.YtcffplgimbbflaaGreat.upd f i z) + doneN t (f i).pc = Ds n t f + doneN t z.pc := sm_upd f (fun x => doneN t x.pc) z h1 h2
theorem Ws_upd (h1 : 1 ≤ i) (h2 : i ≤ n) : Ws n t (Go.Proofs.YtcffplgimbbflaaGreat.upd f i z) + wtN (4 * t + 1) (f i) = Ws n t f + wtN (4 * t + 1) z := by
  have := sm_upd f (fun x => wtN (4 * t + 1) x) z h1 h2
  have e : Go.Proofs.YtcffplgimbbflaaGreat.upd f i z 0 = f 0 := by unfold Go.Proofs.YtcffplgimbbflaaGreat.upd; rw [if_neg (by omega)]
  unfold Ws; rw [e]; omega
theorem Hs_upd0 : Hs n t (Go.Proofs.YtcffplgimbbflaaGreat.upd f 0 z) = Hs n t f := sm_upd0 f (fun x => holdN t x.pc) z n
theorem Ss_upd0 : Ss n (Go.Proofs.YtcffplgimbbflaaGreat.upd f 0 z) = Ss n f := sm_upd0 f (fun x => incN x.pc) z n
theorem Ds_upd0 : Ds n t (Go.Proofs.YtcffplgimbbflaaGreat.upd f 0 z) = Ds n t f := sm_upd0 f (fun x => doneN t x.pc) z n
theorem Ws_upd0 : Ws n t (Go.Proofs.YtcffplgimbbflaaGreat.upd f 0 z) + wtN (2 * n + 5) (f 0) = Ws n t f + wtN (2 * n + 5) z := by
  have := sm_upd0 f (fun x => wtN (4 * t + 1) x) z n
  unfold Ws; rw [upd_same]; omega
theorem holdN_1 {t pc : Nat} (h : pc % 4 ≠ 0) (h2 : pc < 4 * t) : holdN t pc = 1 := if_pos ⟨h, h2⟩
theorem holdN_0 {t pc : Nat} (h : pc % 4 = 0 ∨ 4 * t ≤ pc) : holdN t pc = 0 := if_neg (by omega)
theorem doneN_1 {t pc : Nat} (h : pc = 4 * t + 1) : doneN t pc = 1 := if_pos h
theorem doneN_0 {t pc : Nat} (h : pc ≠ 4 * t + 1) : doneN t pc = 0 := if_neg h
theorem wtN_1 {L : Nat} {x : MT} (h : x.md = 0 ∨ x.md = 5) : wtN L x = 2 * (L - x.pc) + 1 := by unfold wtN; rw [if_pos h]
theorem wtN_0 {L : Nat} {x : MT} (h : ¬ (x.md = 0 ∨ x.md = 5)) : wtN L x = 2 * (L - x.pc) := by unfold wtN; rw [if_neg h]; rfl
end
def WOk (t : Nat) (x : MT) : Prop := x.pc ≤ 4 * t + 1 ∧ (x.md = 0 ∨ (x.md = 1 ∧ x.pc % 4 = 0 ∧ x.pc < 4 * t) ∨ (x.md = 3 ∧ x.pc = 4 * t) ∨ (x.md = 4 ∧ x.pc = 4 * t + 1) ∨ (x.md = 5 ∧ x.pc = 0))
def MOk (n : Nat) (x : MT) : Prop := 3 ≤ x.pc ∧ x.pc ≤ 2 * n + 5 ∧ (x.md = 0 ∨ (x.md = 1 ∧ x.pc = 2 * n + 3) ∨ (x.md = 2 ∧ n + 3 ≤ x.pc ∧ x.pc < 2 * n + 3) ∨ (x.md = 4 ∧ x.pc = 2 * n + 5))
def ROk (x : MT) : Prop := x.r.length = 8 ∧ x.r.getD 0 0 = 0 ∧ x.r.getD 1 0 = 1
structure MI (n t m : Nat) (f : Nat → MT) (line b : List Int) (q r s : List Wt) (T : List Int) : Prop where
  m_eq : m = 1 + min ((f 0).pc - 3) n
  mn : MOk n (f 0)
  rg : ROk (f 0)
  wk : ∀ i, 1 ≤ i → i ≤ n → WOk t (f i) ∧ ((f i).md = 5 ↔ m ≤ i) ∧ (i < m → ROk (f i)) ∧ (holdN t (f i).pc = 1 → (f i).r.getD 5 0 = (Ss n f : Int))
  il : IdM n f 0 line
  iq : IdM n f 1 (q.map (·.1))
  ir : IdM n f 2 (r.map (·.1))
  is : IdM n f 3 (s.map (·.1))
  cq : ∀ x ∈ q, x.2.1 = 0
  cr : ∀ x ∈ r, x.2.1 = 0
  cs : ∀ x ∈ s, x.2.1 = 0
  tok : b.length + Hs n t f + (if 2 * n + 4 ≤ (f 0).pc then 1 else 0) = 1
  vb : ∀ v ∈ b, v = (Ss n f : Int)
  vm : (f 0).pc = 2 * n + 4 → (f 0).r.getD 3 0 = (Ss n f : Int)
  dn : Ds n t f = min ((f 0).pc - (n + 3)) n
  rs : r ≠ [] → s = []
  told : T = if (f 0).pc ≤ 2 * n + 4 then [] else [((n * t : Nat) : Int)]
  lens : line.length + q.length + r.length + s.length ≤ m
theorem updM_ne {f : Nat → MT} {i j : Nat} {z : MT} (h : j ≠ i) : Go.Proofs.YtcffplgimbbflaaGreat.upd f i z j = f j := by unfold Go.Proofs.YtcffplgimbbflaaGreat.upd; rw [if_neg h]
theorem updM_self (f : Nat → MT) (i : Nat) : Go.Proofs.YtcffplgimbbflaaGreat.upd f i (f i) = f := by
  funext j; unfold Go.Proofs.YtcffplgimbbflaaGreat.upd; by_cases e : j = i
  · rw [if_pos e, e]
  · rw [if_neg e]
theorem getD_set_ne' {l : List Int} {i j : Nat} {v : Int} (h : i ≠ j) : (l.set i v).getD j 0 = l.getD j 0 := by simp only [List.getD]; rw [List.getElem?_set_ne h]
theorem getD_set_self' {l : List Int} {i : Nat} {v : Int} (h : i < l.length) : (l.set i v).getD i 0 = v := by simp [List.getD, h]
theorem ROk.set {x : MT} (h : ROk x) {pc md : Nat} {k : Nat} {v : Int} (hk : 2 ≤ k) : ROk ⟨pc, md, x.r.set k v⟩ := ⟨by simpa using h.1, by show (x.r.set k v).getD 0 0 = 0; rw [getD_set_ne' (by omega)]; exact h.2.1, by show (x.r.set k v).getD 1 0 = 1; rw [getD_set_ne' (by omega)]; exact h.2.2⟩
theorem ROk.to {x : MT} (h : ROk x) {pc md : Nat} : ROk ⟨pc, md, x.r⟩ := h
theorem ROk.got {x : MT} (h : ROk x) {pc md : Nat} {B C : Nat} {v : Int} (hB : 2 ≤ B) (hC : 2 ≤ C) : ROk ⟨pc, md, ((x.r.set B v).set C 0).set C 1⟩ := ((h.set (pc := pc) (md := md) (v := v) hB).set (pc := pc) (md := md) (v := 0) hC).set (v := 1) hC
section
variable {n t m : Nat} {f : Nat → MT} {line b : List Int} {q r s : List Wt} {T : List Int} {i : Nat}
theorem MI.one (h : MI n t m f line b q r s T) {i j : Nat} (hi1 : 1 ≤ i) (hi2 : i ≤ n) (hj1 : 1 ≤ j) (hj2 : j ≤ n) (hne : j ≠ i) (hi : holdN t (f i).pc = 1) : holdN t (f j).pc = 0 := by
  have a := Hs_upd (n := n) (t := t) (f := f) (z := ⟨0, 0, []⟩) hi1 hi2
  have b : holdN t (Go.Proofs.YtcffplgimbbflaaGreat.upd f i ⟨0, 0, []⟩ j).pc ≤ Hs n t (Go.Proofs.YtcffplgimbbflaaGreat.upd f i ⟨0, 0, []⟩) := sm_ge (g := fun j => holdN t (Go.Proofs.YtcffplgimbbflaaGreat.upd f i ⟨0, 0, []⟩ j).pc) hj1 hj2
  rw [updM_ne hne] at b
  have c : holdN t 0 = 0 := holdN_0 (.inl rfl)
  have d := h.tok
  dsimp only at a
  omega
/-- A move of the main task and of one other. -/
theorem MI.pair (h : MI n t m f line b q r s T) (h1 : 1 ≤ i) (h2 : i ≤ n) {y z : MT} {m' : Nat} {line' b' : List Int} {q' r' s' : List Wt} {T' : List Int}
    (hm' : m' = 1 + min (y.pc - 3) n) (hM : MOk n y) (hMr : ROk y) (hW : WOk t z) (h5 : z.md = 5 ↔ m' ≤ i) (hR : i < m' → ROk z) (hoth : ∀ j, 1 ≤ j → j ≤ n → j ≠ i → (m ≤ j ↔ m' ≤ j))
    (hH : holdN t z.pc = 1 → z.r.getD 5 0 + incN (f i).pc = Ss n f + incN z.pc) (hS : incN z.pc = incN (f i).pc ∨ holdN t (f i).pc = 1)
    (il : IdM n (Go.Proofs.YtcffplgimbbflaaGreat.upd (Go.Proofs.YtcffplgimbbflaaGreat.upd f 0 y) i z) 0 line') (iq : IdM n (Go.Proofs.YtcffplgimbbflaaGreat.upd (Go.Proofs.YtcffplgimbbflaaGreat.upd f 0 y) i z) 1 (q'.map (·.1))) (ir : IdM n (Go.Proofs.YtcffplgimbbflaaGreat.upd (Go.Proofs.YtcffplgimbbflaaGreat.upd f 0 y) i z) 2 (r'.map (·.1))) (is : IdM n (Go.Proofs.YtcffplgimbbflaaGreat.upd (Go.Proofs.YtcffplgimbbflaaGreat.upd f 0 y) i z) 3 (s'.map (·.1)))
    (cq : ∀ x ∈ q', x.2.1 = 0) (cr : ∀ x ∈ r', x.2.1 = 0) (cs : ∀ x ∈ s', x.2.1 = 0)
    (tok : b'.length + holdN t z.pc + (if 2 * n + 4 ≤ y.pc then 1 else 0) = b.length + holdN t (f i).pc + (if 2 * n + 4 ≤ (f 0).pc then 1 else 0))
    (vb : ∀ v ∈ b', v + incN (f i).pc = Ss n f + incN z.pc) (vm : y.pc = 2 * n + 4 → y.r.getD 3 0 + incN (f i).pc = Ss n f + incN z.pc)
    (dn : doneN t z.pc + min ((f 0).pc - (n + 3)) n = min (y.pc - (n + 3)) n + doneN t (f i).pc)
    (rs : r' ≠ [] → s' = []) (told : T' = if y.pc ≤ 2 * n + 4 then [] else [((n * t : Nat) : Int)]) (lens : line'.length + q'.length + r'.length + s'.length ≤ m') :
    MI n t m' (Go.Proofs.YtcffplgimbbflaaGreat.upd (Go.Proofs.YtcffplgimbbflaaGreat.upd f 0 y) i z) line' b' q' r' s' T' := by
  have hne : i ≠ 0 := by omega
  have e0 : Go.Proofs.YtcffplgimbbflaaGreat.upd (Go.Proofs.YtcffplgimbbflaaGreat.upd f 0 y) i z 0 = y := by rw [updM_ne (Ne.symm hne), upd_same]
  have a1 := Hs_upd (n := n) (t := t) (f := Go.Proofs.YtcffplgimbbflaaGreat.upd f 0 y) (z := z) h1 h2
  have a2 := Ss_upd (n := n) (f := Go.Proofs.YtcffplgimbbflaaGreat.upd f 0 y) (z := z) h1 h2
  have a3 := Ds_upd (n := n) (t := t) (f := Go.Proofs.YtcffplgimbbflaaGreat.upd f 0 y) (z := z) h1 h2
  rw [updM_ne hne, Hs_upd0] at a1
  rw [updM_ne hne, Ss_upd0] at a2
  rw [updM_ne hne, Ds_upd0] at a3
  have d1 := h.tok; have d2 := h.dn
  refine ⟨by rw [e0]; exact hm', by rw [e0]; exact hM, by rw [e0]; exact hMr, fun j j1 j2 => ?_, il, iq, ir, is, cq, cr, cs, by rw [e0]; omega, fun v hv => ?_, fun hp => ?_, by rw [e0]; omega, rs, by rw [e0]; exact told, lens⟩
  · by_cases e : j = i
    · subst e
      rw [upd_same]
      exact ⟨hW, h5, hR, fun hh => by have := hH hh; omega⟩
    · rw [updM_ne e, updM_ne (show j ≠ 0 by omega)]
      obtain ⟨w1, w2, w3, w4⟩ := h.wk j j1 j2
      have ho := hoth j j1 j2 e
      refine ⟨w1, w2.trans ho, fun q => w3 (by omega), fun hh => ?_⟩
      rcases hS with hS | hS
      · have := w4 hh; omega
      · have := h.one h1 h2 j1 j2 e hS; omega
  · have := vb v hv; omega
  · rw [e0] at hp ⊢
    have := vm hp; omega
theorem Ws_pair (h1 : 1 ≤ i) (h2 : i ≤ n) (y z : MT) : Ws n t (Go.Proofs.YtcffplgimbbflaaGreat.upd (Go.Proofs.YtcffplgimbbflaaGreat.upd f 0 y) i z) + wtN (4 * t + 1) (f i) + wtN (2 * n + 5) (f 0) = Ws n t f + wtN (4 * t + 1) z + wtN (2 * n + 5) y := by
  have a := Ws_upd (n := n) (t := t) (f := Go.Proofs.YtcffplgimbbflaaGreat.upd f 0 y) (z := z) h1 h2
  have b := Ws_upd0 (n := n) (t := t) (f := f) (z := y)
  rw [updM_ne (by omega)] at a
  omega
end
section
variable {n t m : Nat} {f : Nat → MT} {line b : List Int} {q r s : List Wt} {T : List Int} {i : Nat}
theorem updM_main (f : Nat → MT) (y : MT) : Go.Proofs.YtcffplgimbbflaaGreat.upd (Go.Proofs.YtcffplgimbbflaaGreat.upd f 0 y) 1 (f 1) = Go.Proofs.YtcffplgimbbflaaGreat.upd f 0 y := by
  have := updM_self (Go.Proofs.YtcffplgimbbflaaGreat.upd f 0 y) 1
  rwa [updM_ne (show 1 ≠ 0 by decide)] at this
theorem updM_comm (f : Nat → MT) {i j : Nat} (y z : MT) (h : i ≠ j) : Go.Proofs.YtcffplgimbbflaaGreat.upd (Go.Proofs.YtcffplgimbbflaaGreat.upd f j y) i z = Go.Proofs.YtcffplgimbbflaaGreat.upd (Go.Proofs.YtcffplgimbbflaaGreat.upd f i z) j y := by
  funext k; unfold Go.Proofs.YtcffplgimbbflaaGreat.upd
  by_cases a : k = i
  · subst a; rw [if_pos rfl, if_neg h, if_pos rfl]
  · rw [if_neg a, if_neg a]
theorem MI.main_free (h : MI n t m f line b q r s T) (h1 : 1 ≤ i) (h2 : i ≤ n) (hh : holdN t (f i).pc = 1) : b = [] ∧ (f 0).pc < 2 * n + 4 := by
  have a := h.tok
  have c : holdN t (f i).pc ≤ Hs n t f := sm_ge (g := fun j => holdN t (f j).pc) h1 h2
  constructor
  · exact List.length_eq_zero_iff.1 (by omega)
  · by_cases e : 2 * n + 4 ≤ (f 0).pc
    · rw [if_pos e] at a; omega
    · omega
/-- A move of one task that is not the main one. -/
theorem MI.work (h : MI n t m f line b q r s T) (h1 : 1 ≤ i) (h2 : i ≤ n) {z : MT} {line' b' : List Int} {q' r' s' : List Wt}
    (hW : WOk t z) (h5 : z.md = 5 ↔ m ≤ i) (hR : ROk z)
    (hH : holdN t z.pc = 1 → z.r.getD 5 0 + incN (f i).pc = Ss n f + incN z.pc) (hS : incN z.pc = incN (f i).pc ∨ holdN t (f i).pc = 1)
    (il : IdM n (Go.Proofs.YtcffplgimbbflaaGreat.upd f i z) 0 line') (iq : IdM n (Go.Proofs.YtcffplgimbbflaaGreat.upd f i z) 1 (q'.map (·.1))) (ir : IdM n (Go.Proofs.YtcffplgimbbflaaGreat.upd f i z) 2 (r'.map (·.1))) (is : IdM n (Go.Proofs.YtcffplgimbbflaaGreat.upd f i z) 3 (s'.map (·.1)))
    (cq : ∀ x ∈ q', x.2.1 = 0) (cr : ∀ x ∈ r', x.2.1 = 0) (cs : ∀ x ∈ s', x.2.1 = 0)
    (tok : b'.length + holdN t z.pc = b.length + holdN t (f i).pc)
    (vb : ∀ v ∈ b', v + incN (f i).pc = Ss n f + incN z.pc)
    (dn : doneN t z.pc = doneN t (f i).pc)
    (rs : r' ≠ [] → s' = []) (lens : line'.length + q'.length + r'.length + s'.length ≤ m) :
    MI n t m (Go.Proofs.YtcffplgimbbflaaGreat.upd f i z) line' b' q' r' s' T := by
  have := h.pair (y := f 0) (z := z) (b' := b') (T' := T) h1 h2 h.m_eq h.mn h.rg hW h5 (fun _ => hR) (fun _ _ _ _ => Iff.rfl) hH hS (by rw [updM_self]; exact il) (by rw [updM_self]; exact iq) (by rw [updM_self]; exact ir) (by rw [updM_self]; exact is) cq cr cs (by omega) vb (fun hp => by
    have a := h.vm hp
    rcases hS with e | e
    · omega
    · have := (h.main_free h1 h2 e).2; omega) (by omega) rs h.told lens
  rwa [updM_self] at this
/-- A move of the main task. -/
theorem MI.main (h : MI n t m f line b q r s T) (hn1 : 1 ≤ n) {y : MT} {line' b' : List Int} {q' r' s' : List Wt} {T' : List Int}
    (hm' : m = 1 + min (y.pc - 3) n) (hM : MOk n y) (hMr : ROk y)
    (il : IdM n (Go.Proofs.YtcffplgimbbflaaGreat.upd f 0 y) 0 line') (iq : IdM n (Go.Proofs.YtcffplgimbbflaaGreat.upd f 0 y) 1 (q'.map (·.1))) (ir : IdM n (Go.Proofs.YtcffplgimbbflaaGreat.upd f 0 y) 2 (r'.map (·.1))) (is : IdM n (Go.Proofs.YtcffplgimbbflaaGreat.upd f 0 y) 3 (s'.map (·.1)))
    (cq : ∀ x ∈ q', x.2.1 = 0) (cr : ∀ x ∈ r', x.2.1 = 0) (cs : ∀ x ∈ s', x.2.1 = 0)
    (tok : b'.length + (if 2 * n + 4 ≤ y.pc then 1 else 0) = b.length + (if 2 * n + 4 ≤ (f 0).pc then 1 else 0))
    (vb : ∀ v ∈ b', v = Ss n f) (vm : y.pc = 2 * n + 4 → y.r.getD 3 0 = Ss n f)
    (dn : min ((f 0).pc - (n + 3)) n = min (y.pc - (n + 3)) n)
    (rs : r' ≠ [] → s' = []) (told : T' = if y.pc ≤ 2 * n + 4 then [] else [((n * t : Nat) : Int)]) (lens : line'.length + q'.length + r'.length + s'.length ≤ m) :
    MI n t m (Go.Proofs.YtcffplgimbbflaaGreat.upd f 0 y) line' b' q' r' s' T' := by
  obtain ⟨w1, w2, w3, w4⟩ := h.wk 1 (Nat.le_refl _) hn1
  have := h.pair (i := 1) (y := y) (z := f 1) (b' := b') (T' := T') (Nat.le_refl _) hn1 hm' hM hMr w1 w2 w3 (fun _ _ _ _ => Iff.rfl) (fun hh => by rw [w4 hh]) (.inl rfl) (by rw [updM_main]; exact il) (by rw [updM_main]; exact iq) (by rw [updM_main]; exact ir) (by rw [updM_main]; exact is) cq cr cs (by omega) (fun v hv => by rw [vb v hv]) (fun hp => by rw [vm hp]) (by omega) rs told lens
  rwa [updM_main] at this
end
def Nxt (n t m : Nat) (f : Nat → MT) (line b : List Int) (q r s : List Wt) (k : Nat) (ev : List Ev) (T : List Int) (N dr : Int) : Prop :=
  ∃ m' f' line' b' q' r' s' ev', (MW (tsM n t m f) line b q r s k ev).step (PMu n t) (1, N, dr) = some (MW (tsM n t m' f') line' b' q' r' s' (k + 1) ev') ∧ (MI n t m' f' line' b' q' r' s' (T ++ toldL 0 ev') ∧ (q' ≠ [] → b' = [])) ∧ Ws n t f' + 1 ≤ Ws n t f
theorem mem_snoc0 {l : List Wt} {y : Wt} (h : ∀ x ∈ l, x.2.1 = 0) (hy : y.2.1 = 0) : ∀ x ∈ l ++ [y], x.2.1 = 0 := fun x hx => by
  rcases List.mem_append.1 hx with q | q
  · exact h x q
  · rw [List.mem_singleton] at q; rw [q]; exact hy
theorem tk_run {n t i pc : Nat} {x : List Int} : (tkR (pgI i : Nat) (pc : Nat) x, false, []) = tkM n t i ⟨pc, 0, x⟩ := by unfold tkM; rw [if_pos rfl]
theorem tk_over {n t i pc : Nat} {x : List Int} : (tkO (pgI i : Nat) (pc : Nat) x, false, []) = tkM n t i ⟨pc, 4, x⟩ := by unfold tkM; rw [if_neg (by simp), if_pos rfl]
theorem tk_wait {n t i pc c : Nat} {x : List Int} {y : Ins} (h0 : c ≠ 0) (h4 : c ≠ 4) (hy : (pgm n t i)[pc]? = some y) : (tkW (pgI i : Nat) (pc : Nat) x y.1.1 y.1.2.1 y.1.2.2.1 y.1.2.2.2, false, []) = tkM n t i ⟨pc, c, x⟩ := by
  unfold tkM pI; rw [if_neg h0, if_neg h4, hy]; rfl
section
variable {n t m : Nat} {f : Nat → MT} {line b : List Int} {q r s : List Wt} {k : Nat} {ev : List Ev} {T : List Int} {N dr : Int} {i : Nat}
theorem MI.few (h : MI n t m f line b q r s T) (hn : n ≤ 6) : m ≤ 7 ∧ line.length ≤ 7 ∧ q.length ≤ 7 ∧ r.length ≤ 7 ∧ s.length ≤ 7 := by
  have a := h.lens; have b := h.m_eq
  have : min ((f 0).pc - 3) n ≤ n := Nat.min_le_right _ _
  omega
theorem MI.lt (h : MI n t m f line b q r s T) (hm : (f i).md ≠ 5) (hin : i ≤ n) : i < m := by
  by_cases h0 : i = 0
  · rw [h.m_eq]; omega
  · have := (h.wk i (by omega) hin).2.1
    omega
theorem MI.get (h : MI n t m f line b q r s T) (hm : (f i).md = 0) (hin : i ≤ n) : (tsM n t m f)[i]? = some (tkR (pgI i : Nat) ((f i).pc : Nat) (f i).r, false, []) := by
  rw [tsM_get (h.lt (by omega) hin)]
  unfold tkM
  rw [if_pos hm]
theorem MI.getW (h : MI n t m f line b q r s T) (h0 : (f i).md ≠ 0) (h4 : (f i).md ≠ 4) (h5 : (f i).md ≠ 5) (hin : i ≤ n) {y : Ins} (hy : (pgm n t i)[(f i).pc]? = some y) : (tsM n t m f)[i]? = some (tkW (pgI i : Nat) ((f i).pc : Nat) (f i).r y.1.1 y.1.2.1 y.1.2.2.1 y.1.2.2.2, false, []) := by
  rw [tsM_get (h.lt h5 hin), tk_wait h0 h4 hy]
theorem MI.off (h : MI n t m f line b q r s T) (hm : (f i).md = 0) (hin : i ≤ n) : (line.erase (i : Int)).length + 1 = line.length := by
  have : (i : Int) ∈ line := h.il.mem.2 ⟨hin, hm⟩
  have := List.length_pos_of_mem this
  rw [List.length_erase_of_mem ‹_›]
  omega
theorem MI.sum (h : MI n t m f line b q r s T) (ht : t ≤ 4) : Ss n f ≤ n * 5 := sm_le fun j j1 j2 => by
  have := (h.wk j j1 j2).1.1
  unfold incN; omega
theorem not_in {n : Nat} {f : Nat → MT} {i c : Nat} {l : List Wt} (h : IdM n f c (l.map (·.1))) (hm : (f i).md ≠ c) : ∀ y ∈ l, y.1 ≠ (i : Int) := fun y hy e => by
  have : (i : Int) ∈ l.map (·.1) := by rw [← e]; exact List.mem_map_of_mem hy
  exact hm (h.mem.1 this).2
/-- One is added. -/
theorem mu_inc (h : MI n t m f line b q r s T) (hn : n ≤ 6) (ht : t ≤ 4) (hk : k < 10000) (hid : line.getD (N % (line.length : Int)).toNat 0 = (i : Int)) (hl : line ≠ []) (hm : (f i).md = 0) (hin : i ≤ n) (h1 : 1 ≤ i) (hqb : q ≠ [] → b = []) (hp : (f i).pc < 4 * t) (hp4 : (f i).pc % 4 = 1) : Nxt n t m f line b q r s k ev T N dr := by
  have hlt := h.lt (by omega) hin
  obtain ⟨hw, h5, hro, hh⟩ := h.wk i h1 hin
  have hro := hro hlt
  have hpg : pgm n t i = pW t := by unfold pgm; rw [if_neg (by omega)]
  obtain ⟨c1, c2, c3, c4, c5⟩ := h.few hn
  have hoff := h.off hm hin
  have hlen := h.lens
  have hv := hh (holdN_1 (by omega) hp)
  have hb0 := (h.main_free h1 hin (holdN_1 (by omega) hp)).1
  have hst := mw_own (P := PMu n t) (ev := ev) (r := r) (s := s) (b := b) (q := q) (k := k) (dr := dr) (y := wI 1) (x' := (f i).r.set 5 ((f i).r.getD 5 0 + 1)) hid hl (h.get hm hin) (pgm_at n t i) (progB_pgm hn ht) hro.1 hk (by omega) (by omega) (by omega) (by rw [hpg, pW_at hp, hp4]) rfl (by simpa using hro.1) (by
    show ((((f i).pc : Nat) : Int) + 1, updR (ofL (f i).r) 5 (addT (ofL (f i).r 5) 1), false, (0 : Int), false) = _
    have e1 : ofL (f i).r 5 = (f i).r.getD 5 0 := rfl
    have hb := h.sum ht
    have e2 : addT ((f i).r.getD 5 0) 1 = (f i).r.getD 5 0 + 1 := by rw [hv]; unfold addT heldT; omega
    rw [e1, e2, updR_ofL _ _ _ (by rw [hro.1]; decide)]; rfl)
  refine ⟨m, Go.Proofs.YtcffplgimbbflaaGreat.upd f i ⟨(f i).pc + 1, 0, (f i).r.set 5 ((f i).r.getD 5 0 + 1)⟩, line, b, q, r, s, [], by rw [← tsM_set tk_run]; exact hst, ⟨?_, hqb⟩, ?_⟩
  · rw [show T ++ toldL 0 [] = T by simp [toldL]]
    refine h.work h1 hin ⟨by show (f i).pc + 1 ≤ _; omega, .inl rfl⟩ (by show (0 = 5) ↔ _; omega) (hro.set (by decide)) (fun _ => ?_) (.inr (holdN_1 (by omega) hp)) (h.il.stay (by simp [hm])) (h.iq.stay (by simp [hm])) (h.ir.stay (by simp [hm])) (h.is.stay (by simp [hm])) h.cq h.cr h.cs ?_ ?_ ?_ h.rs h.lens
    · show ((f i).r.set 5 _).getD 5 0 + _ = _ + (incN ((f i).pc + 1) : Int)
      rw [getD_set_self' (by rw [hro.1]; decide)]; unfold incN; omega
    · show _ + holdN t ((f i).pc + 1) = _
      rw [holdN_1 (by omega) (by omega), holdN_1 (by omega) hp]
    · intro v hv'; rw [hb0] at hv'; cases hv'
    · show doneN t ((f i).pc + 1) = _
      rw [doneN_0 (by omega), doneN_0 (by omega)]
  · have a := Ws_upd (n := n) (t := t) (f := f) (z := ⟨(f i).pc + 1, 0, (f i).r.set 5 ((f i).r.getD 5 0 + 1)⟩) h1 hin
    rw [wtN_1 (x := f i) (.inl hm), wtN_1 (x := ⟨(f i).pc + 1, 0, _⟩) (.inl rfl)] at a
    dsimp only at a
    omega
/-- It is asked what time it is. -/
theorem mu_now (h : MI n t m f line b q r s T) (hn : n ≤ 6) (ht : t ≤ 4) (hk : k < 10000) (hid : line.getD (N % (line.length : Int)).toNat 0 = (i : Int)) (hl : line ≠ []) (hm : (f i).md = 0) (hin : i ≤ n) (h1 : 1 ≤ i) (hqb : q ≠ [] → b = []) (hp : (f i).pc < 4 * t) (hp4 : (f i).pc % 4 = 2) : Nxt n t m f line b q r s k ev T N dr := by
  have hlt := h.lt (by omega) hin
  obtain ⟨hw, h5, hro, hh⟩ := h.wk i h1 hin
  have hro := hro hlt
  have hpg : pgm n t i = pW t := by unfold pgm; rw [if_neg (by omega)]
  obtain ⟨c1, c2, c3, c4, c5⟩ := h.few hn
  have hoff := h.off hm hin
  have hlen := h.lens
  have hv := hh (holdN_1 (by omega) hp)
  have hb0 := (h.main_free h1 hin (holdN_1 (by omega) hp)).1
  have hst := mw_own (P := PMu n t) (ev := ev) (r := r) (s := s) (b := b) (q := q) (k := k) (dr := dr) (y := wI 2) (x' := (f i).r.set 6 0) hid hl (h.get hm hin) (pgm_at n t i) (progB_pgm hn ht) hro.1 hk (by omega) (by omega) (by omega) (by rw [hpg, pW_at hp, hp4]) rfl (by simpa using hro.1) (by
    show ((((f i).pc : Nat) : Int) + 1, updR (ofL (f i).r) 6 0, false, (0 : Int), false) = _
    rw [updR_ofL _ _ _ (by rw [hro.1]; decide)]; rfl)
  refine ⟨m, Go.Proofs.YtcffplgimbbflaaGreat.upd f i ⟨(f i).pc + 1, 0, (f i).r.set 6 0⟩, line, b, q, r, s, [], by rw [← tsM_set tk_run]; exact hst, ⟨?_, hqb⟩, ?_⟩
  · rw [show T ++ toldL 0 [] = T by simp [toldL]]
    refine h.work h1 hin ⟨by show (f i).pc + 1 ≤ _; omega, .inl rfl⟩ (by show (0 = 5) ↔ _; omega) (hro.set (by decide)) (fun _ => ?_) (.inr (holdN_1 (by omega) hp)) (h.il.stay (by simp [hm])) (h.iq.stay (by simp [hm])) (h.ir.stay (by simp [hm])) (h.is.stay (by simp [hm])) h.cq h.cr h.cs ?_ ?_ ?_ h.rs h.lens
    · show ((f i).r.set 6 _).getD 5 0 + _ = _ + (incN ((f i).pc + 1) : Int)
      rw [getD_set_ne' (by decide)]; unfold incN; omega
    · show _ + holdN t ((f i).pc + 1) = _
      rw [holdN_1 (by omega) (by omega), holdN_1 (by omega) hp]
    · intro v hv'; rw [hb0] at hv'; cases hv'
    · show doneN t ((f i).pc + 1) = _
      rw [doneN_0 (by omega), doneN_0 (by omega)]
  · have a := Ws_upd (n := n) (t := t) (f := f) (z := ⟨(f i).pc + 1, 0, (f i).r.set 6 0⟩) h1 hin
    rw [wtN_1 (x := f i) (.inl hm), wtN_1 (x := ⟨(f i).pc + 1, 0, _⟩) (.inl rfl)] at a
    dsimp only at a
    omega
/-- It takes the number. -/
theorem mu_take (h : MI n t m f line b q r s T) (hn : n ≤ 6) (ht : t ≤ 4) (hk : k < 10000) (hid : line.getD (N % (line.length : Int)).toNat 0 = (i : Int)) (hl : line ≠ []) (hm : (f i).md = 0) (hin : i ≤ n) (h1 : 1 ≤ i) {v : Int} (hbv : b = [v]) (hp : (f i).pc < 4 * t) (hp4 : (f i).pc % 4 = 0) : Nxt n t m f line b q r s k ev T N dr := by
  have hlt := h.lt (by omega) hin
  obtain ⟨hw, h5, hro, hh⟩ := h.wk i h1 hin
  have hro := hro hlt
  have hpg : pgm n t i = pW t := by unfold pgm; rw [if_neg (by omega)]
  obtain ⟨c1, c2, c3, c4, c5⟩ := h.few hn
  have hoff := h.off hm hin
  have hlen := h.lens
  subst hbv
  have hv := h.vb v (List.mem_singleton.2 rfl)
  have hst := mw_act (P := PMu n t) (ev := ev) (r := r) (s := s) (b := [v]) (q := q) (k := k) (dr := dr) (y := wI 0) hid hl (h.get hm hin) (pgm_at n t i) (progB_pgm hn ht) hro.1 hk (by omega) (by omega) (by omega) (by rw [hpg, pW_at hp, hp4]) rfl rfl (by simp [hro.1]) (h.get hm hin) (by simp) (a_take0 hro.2.1 rfl rfl hro.1)
  refine ⟨m, Go.Proofs.YtcffplgimbbflaaGreat.upd f i ⟨(f i).pc + 1, 0, (((f i).r.set 5 v).set 6 0).set 6 1⟩, line, [], q, r, s, [], by rw [← tsM_set tk_run]; exact hst, ⟨?_, fun _ => rfl⟩, ?_⟩
  · rw [show T ++ toldL 0 [] = T by simp [toldL]]
    refine h.work h1 hin ⟨by show (f i).pc + 1 ≤ _; omega, .inl rfl⟩ (by show (0 = 5) ↔ _; omega) (hro.got (by decide) (by decide)) (fun _ => ?_) (.inl ?_) (h.il.stay (by simp [hm])) (h.iq.stay (by simp [hm])) (h.ir.stay (by simp [hm])) (h.is.stay (by simp [hm])) h.cq h.cr h.cs ?_ ?_ ?_ h.rs h.lens
    · show ((((f i).r.set 5 v).set 6 0).set 6 1).getD 5 0 + _ = _ + (incN ((f i).pc + 1) : Int)
      rw [getD_set_ne' (by decide), getD_set_ne' (by decide), getD_set_self' (by rw [hro.1]; decide)]; unfold incN; omega
    · show incN ((f i).pc + 1) = _
      unfold incN; omega
    · show _ + holdN t ((f i).pc + 1) = _
      rw [holdN_1 (by omega) (by omega), holdN_0 (by omega)]; rfl
    · intro u hu; cases hu
    · show doneN t ((f i).pc + 1) = _
      rw [doneN_0 (by omega), doneN_0 (by omega)]
  · have a := Ws_upd (n := n) (t := t) (f := f) (z := ⟨(f i).pc + 1, 0, (((f i).r.set 5 v).set 6 0).set 6 1⟩) h1 hin
    rw [wtN_1 (x := f i) (.inl hm), wtN_1 (x := ⟨(f i).pc + 1, 0, _⟩) (.inl rfl)] at a
    dsimp only at a
    omega
/-- Nothing is there: it waits. -/
theorem mu_wait (h : MI n t m f line b q r s T) (hn : n ≤ 6) (ht : t ≤ 4) (hk : k < 10000) (hid : line.getD (N % (line.length : Int)).toNat 0 = (i : Int)) (hl : line ≠ []) (hm : (f i).md = 0) (hin : i ≤ n) (h1 : 1 ≤ i) (hbv : b = []) (hp : (f i).pc < 4 * t) (hp4 : (f i).pc % 4 = 0) : Nxt n t m f line b q r s k ev T N dr := by
  have hlt := h.lt (by omega) hin
  obtain ⟨hw, h5, hro, hh⟩ := h.wk i h1 hin
  have hro := hro hlt
  have hpg : pgm n t i = pW t := by unfold pgm; rw [if_neg (by omega)]
  obtain ⟨c1, c2, c3, c4, c5⟩ := h.few hn
  have hoff := h.off hm hin
  have hlen := h.lens
  subst hbv
  have hst := mw_park (P := PMu n t) (ev := ev) (r := r) (s := s) (b := []) (q := q) (k := k) (dr := dr) (y := wI 0) hid hl (h.get hm hin) (pgm_at n t i) (progB_pgm hn ht) hro.1 hk (by omega) (by omega) (by omega) (by rw [hpg, pW_at hp, hp4]) rfl rfl rfl (.inr rfl) rfl rfl (a_wait0 hro.2.1 (not_in h.iq (by omega)))
  refine ⟨m, Go.Proofs.YtcffplgimbbflaaGreat.upd f i ⟨(f i).pc, 1, (f i).r⟩, line.erase (i : Int), [], q ++ [((i : Int), 0, 0)], r, s, _, by rw [← tsM_set (tk_wait (by decide) (by decide) (by rw [hpg, pW_at hp, hp4]))]; exact hst, ⟨?_, fun _ => rfl⟩, ?_⟩
  · rw [show T ++ toldL 0 _ = T by simp [toldL]]
    refine h.work h1 hin ⟨hw.1, .inr (.inl ⟨rfl, hp4, hp⟩)⟩ (by show (1 = 5) ↔ _; omega) hro.to (fun hq => ?_) (.inl rfl) (h.il.leave (by simp)) (by rw [List.map_append]; exact h.iq.come (by omega) hin rfl) (h.ir.stay (by simp [hm])) (h.is.stay (by simp [hm])) (mem_snoc0 h.cq rfl) h.cr h.cs rfl (fun u hu => by cases hu) rfl h.rs (by rw [List.length_append, List.length_singleton]; omega)
    exact absurd hq (by rw [holdN_0 (.inl hp4)]; decide)
  · have a := Ws_upd (n := n) (t := t) (f := f) (z := ⟨(f i).pc, 1, (f i).r⟩) h1 hin
    rw [wtN_1 (x := f i) (.inl hm), wtN_0 (x := ⟨(f i).pc, 1, _⟩) (by simp)] at a
    dsimp only at a
    omega
/-- It gives the number back. -/
theorem mu_put (h : MI n t m f line b q r s T) (hn : n ≤ 6) (ht : t ≤ 4) (hk : k < 10000) (hid : line.getD (N % (line.length : Int)).toNat 0 = (i : Int)) (hl : line ≠ []) (hm : (f i).md = 0) (hin : i ≤ n) (h1 : 1 ≤ i) (hq0 : q = []) (hp : (f i).pc < 4 * t) (hp4 : (f i).pc % 4 = 3) : Nxt n t m f line b q r s k ev T N dr := by
  have hlt := h.lt (by omega) hin
  obtain ⟨hw, h5, hro, hh⟩ := h.wk i h1 hin
  have hro := hro hlt
  have hpg : pgm n t i = pW t := by unfold pgm; rw [if_neg (by omega)]
  obtain ⟨c1, c2, c3, c4, c5⟩ := h.few hn
  have hoff := h.off hm hin
  have hlen := h.lens
  subst hq0
  have hv := hh (holdN_1 (by omega) hp)
  obtain rfl := (h.main_free h1 hin (holdN_1 (by omega) hp)).1
  have hst := mw_act (P := PMu n t) (ev := ev) (r := r) (s := s) (b := []) (q := []) (k := k) (dr := dr) (y := wI 3) hid hl (h.get hm hin) (pgm_at n t i) (progB_pgm hn ht) hro.1 hk (by omega) (by omega) (by omega) (by rw [hpg, pW_at hp, hp4]) rfl rfl hro.1 (h.get hm hin) (by simp) (a_put0 hro.2.1)
  refine ⟨m, Go.Proofs.YtcffplgimbbflaaGreat.upd f i ⟨(f i).pc + 1, 0, (f i).r⟩, line, [ofL (f i).r 5], [], r, s, [], by rw [← tsM_set tk_run]; exact hst, ⟨?_, fun e => absurd rfl e⟩, ?_⟩
  · rw [show T ++ toldL 0 [] = T by simp [toldL]]
    refine h.work h1 hin ⟨by show (f i).pc + 1 ≤ _; omega, .inl rfl⟩ (by show (0 = 5) ↔ _; omega) hro.to (fun hq => ?_) (.inl ?_) (h.il.stay (by simp [hm])) (h.iq.stay (by simp [hm])) (h.ir.stay (by simp [hm])) (h.is.stay (by simp [hm])) h.cq h.cr h.cs ?_ ?_ ?_ h.rs h.lens
    · exact absurd hq (by show holdN t ((f i).pc + 1) ≠ 1; rw [holdN_0 (.inl (by omega))]; decide)
    · show incN ((f i).pc + 1) = _
      unfold incN; omega
    · show _ + holdN t ((f i).pc + 1) = _
      rw [holdN_0 (.inl (by omega)), holdN_1 (by omega) hp]; rfl
    · intro u hu
      rw [List.mem_singleton.1 hu]
      show (f i).r.getD 5 0 + _ = _ + (incN ((f i).pc + 1) : Int)
      rw [hv]; unfold incN; omega
    · show doneN t ((f i).pc + 1) = _
      rw [doneN_0 (by omega), doneN_0 (by omega)]
  · have a := Ws_upd (n := n) (t := t) (f := f) (z := ⟨(f i).pc + 1, 0, (f i).r⟩) h1 hin
    rw [wtN_1 (x := f i) (.inl hm), wtN_1 (x := ⟨(f i).pc + 1, 0, _⟩) (.inl rfl)] at a
    dsimp only at a
    omega
/-- It tells that it is done; nobody asks yet. -/
theorem mu_stay (h : MI n t m f line b q r s T) (hn : n ≤ 6) (ht : t ≤ 4) (hk : k < 10000) (hid : line.getD (N % (line.length : Int)).toNat 0 = (i : Int)) (hl : line ≠ []) (hm : (f i).md = 0) (hin : i ≤ n) (h1 : 1 ≤ i) (hqb : q ≠ [] → b = []) (hr0 : r = []) (hp : (f i).pc = 4 * t) : Nxt n t m f line b q r s k ev T N dr := by
  have hlt := h.lt (by omega) hin
  obtain ⟨hw, h5, hro, hh⟩ := h.wk i h1 hin
  have hro := hro hlt
  have hpg : pgm n t i = pW t := by unfold pgm; rw [if_neg (by omega)]
  obtain ⟨c1, c2, c3, c4, c5⟩ := h.few hn
  have hoff := h.off hm hin
  have hlen := h.lens
  subst hr0
  have hst := mw_park (P := PMu n t) (ev := ev) (r := []) (s := s) (b := b) (q := q) (k := k) (dr := dr) (y := ins 10 1 5 0) hid hl (h.get hm hin) (pgm_at n t i) (progB_pgm hn ht) hro.1 hk (by omega) (by omega) (by omega) (by rw [hpg, hp, pW_last]) rfl rfl rfl (.inl rfl) rfl rfl (a_stay1 hro.2.2)
  refine ⟨m, Go.Proofs.YtcffplgimbbflaaGreat.upd f i ⟨(f i).pc, 3, (f i).r⟩, line.erase (i : Int), b, q, [], s ++ [((i : Int), 0, ofL (f i).r 5)], _, by rw [← tsM_set (tk_wait (by decide) (by decide) (by rw [hpg, hp, pW_last]))]; exact hst, ⟨?_, hqb⟩, ?_⟩
  · rw [show T ++ toldL 0 _ = T by simp [toldL]]
    refine h.work h1 hin ⟨hw.1, .inr (.inr (.inl ⟨rfl, hp⟩))⟩ (by show (3 = 5) ↔ _; omega) hro.to (fun hq => ?_) (.inl rfl) (h.il.leave (by simp)) (h.iq.stay (by simp [hm])) (h.ir.stay (by simp [hm])) (by rw [List.map_append]; exact h.is.come (by omega) hin rfl) h.cq h.cr (mem_snoc0 h.cs rfl) rfl (fun u hu => by rw [h.vb u hu]) rfl (fun e => absurd rfl e) (by rw [List.length_append, List.length_singleton]; omega)
    exact absurd hq (by rw [holdN_0 (.inr (by show 4 * t ≤ (f i).pc; omega))]; decide)
  · have a := Ws_upd (n := n) (t := t) (f := f) (z := ⟨(f i).pc, 3, (f i).r⟩) h1 hin
    rw [wtN_1 (x := f i) (.inl hm), wtN_0 (x := ⟨(f i).pc, 3, _⟩) (by simp)] at a
    dsimp only at a
    omega
/-- It ends. -/
theorem mu_over (h : MI n t m f line b q r s T) (hn : n ≤ 6) (ht : t ≤ 4) (hk : k < 10000) (hid : line.getD (N % (line.length : Int)).toNat 0 = (i : Int)) (hl : line ≠ []) (hm : (f i).md = 0) (hin : i ≤ n) (h1 : 1 ≤ i) (hqb : q ≠ [] → b = []) (hp : (f i).pc = 4 * t + 1) : Nxt n t m f line b q r s k ev T N dr := by
  have hlt := h.lt (by omega) hin
  obtain ⟨hw, h5, hro, hh⟩ := h.wk i h1 hin
  have hro := hro hlt
  have hpg : pgm n t i = pW t := by unfold pgm; rw [if_neg (by omega)]
  obtain ⟨c1, c2, c3, c4, c5⟩ := h.few hn
  have hoff := h.off hm hin
  have hlen := h.lens
  have hst := mw_end (P := PMu n t) (ev := ev) (r := r) (s := s) (b := b) (q := q) (k := k) (dr := dr) hid hl (h.get hm hin) (pgm_at n t i) (progB_pgm hn ht) hk (by omega) (by omega) (by omega) (by rw [hpg, pW_len, hp])
  refine ⟨m, Go.Proofs.YtcffplgimbbflaaGreat.upd f i ⟨(f i).pc, 4, (f i).r⟩, line.erase (i : Int), b, q, r, s, _, by rw [← tsM_set tk_over]; exact hst, ⟨?_, hqb⟩, ?_⟩
  · rw [show T ++ toldL 0 _ = T by simp [toldL]]
    refine h.work h1 hin ⟨hw.1, .inr (.inr (.inr (.inl ⟨rfl, hp⟩)))⟩ (by show (4 = 5) ↔ _; omega) hro.to (fun hq => ?_) (.inl rfl) (h.il.leave (by simp)) (h.iq.stay (by simp [hm])) (h.ir.stay (by simp [hm])) (h.is.stay (by simp [hm])) h.cq h.cr h.cs rfl (fun u hu => by rw [h.vb u hu]) rfl h.rs (by omega)
    exact absurd hq (by rw [holdN_0 (.inr (by show 4 * t ≤ (f i).pc; omega))]; decide)
  · have a := Ws_upd (n := n) (t := t) (f := f) (z := ⟨(f i).pc, 4, (f i).r⟩) h1 hin
    rw [wtN_1 (x := f i) (.inl hm), wtN_0 (x := ⟨(f i).pc, 4, _⟩) (by simp)] at a
    dsimp only at a
    omega
end
section
variable {n t m : Nat} {f : Nat → MT} {line b : List Int} {q r s : List Wt} {k : Nat} {ev : List Ev} {T : List Int} {N dr : Int} {i : Nat}
theorem MI.put (h : MI n t m f line b q r s T) (hm : (f i).md = 0) (hin : i ≤ n) (h1 : 1 ≤ i) (hp : (f i).pc < 4 * t) (hp4 : (f i).pc % 4 = 3) : MI n t m (Go.Proofs.YtcffplgimbbflaaGreat.upd f i ⟨(f i).pc + 1, 0, (f i).r⟩) line [ofL (f i).r 5] q r s T := by
  have hlt := h.lt (by omega) hin
  obtain ⟨hw, h5, hro, hh⟩ := h.wk i h1 hin
  have hro := hro hlt
  have hv := hh (holdN_1 (by omega) hp)
  obtain rfl := (h.main_free h1 hin (holdN_1 (by omega) hp)).1
  refine h.work h1 hin ⟨by show (f i).pc + 1 ≤ _; omega, .inl rfl⟩ (by show (0 = 5) ↔ _; omega) hro.to (fun hq => ?_) (.inl ?_) (h.il.stay (by simp [hm])) (h.iq.stay (by simp [hm])) (h.ir.stay (by simp [hm])) (h.is.stay (by simp [hm])) h.cq h.cr h.cs ?_ ?_ ?_ h.rs h.lens
  · exact absurd hq (by show holdN t ((f i).pc + 1) ≠ 1; rw [holdN_0 (.inl (by omega))]; decide)
  · show incN ((f i).pc + 1) = _
    unfold incN; omega
  · show _ + holdN t ((f i).pc + 1) = _
    rw [holdN_0 (.inl (by omega)), holdN_1 (by omega) hp]; rfl
  · intro u hu
    rw [List.mem_singleton.1 hu]
    show (f i).r.getD 5 0 + _ = _ + (incN ((f i).pc + 1) : Int)
    rw [hv]; unfold incN; omega
  · show doneN t ((f i).pc + 1) = _
    rw [doneN_0 (by omega), doneN_0 (by omega)]
/-- It gives the number to one that waits. -/
theorem mu_hand (h : MI n t m f line b q r s T) (hn : n ≤ 6) (ht : t ≤ 4) (hk : k < 10000) (hid : line.getD (N % (line.length : Int)).toNat 0 = (i : Int)) (hl : line ≠ []) (hm : (f i).md = 0) (hin : i ≤ n) (h1 : 1 ≤ i) {j : Nat} {u : Int} {q' : List Wt} (hq : q = ((j : Int), 0, u) :: q') (hj1 : 1 ≤ j) (hp : (f i).pc < 4 * t) (hp4 : (f i).pc % 4 = 3) : Nxt n t m f line b q r s k ev T N dr := by
  have hlt := h.lt (by omega) hin
  obtain ⟨hw, h5, hro, hh⟩ := h.wk i h1 hin
  have hro := hro hlt
  have hpg : pgm n t i = pW t := by unfold pgm; rw [if_neg (by omega)]
  obtain ⟨c1, c2, c3, c4, c5⟩ := h.few hn
  have hoff := h.off hm hin
  have hlen := h.lens
  have hput := h.put hm hin h1 hp hp4
  obtain rfl := (h.main_free h1 hin (holdN_1 (by omega) hp)).1
  subst hq
  obtain ⟨hjn, hjm⟩ := (IdM.mem (i := j) h.iq).1 (by simp)
  have hij : i ≠ j := by rintro rfl; omega
  obtain ⟨jw, j5, jro, jh⟩ := h.wk j hj1 hjn
  have jro := jro (h.lt (by omega) hjn)
  obtain ⟨jp1, jp2⟩ : (f j).pc % 4 = 0 ∧ (f j).pc < 4 * t := by rcases jw.2 with e | e | e | e | e <;> omega
  have hpj : pgm n t j = pW t := by unfold pgm; rw [if_neg (by omega)]
  have hyj : (pgm n t j)[(f j).pc]? = some (wI 0) := by rw [hpj, pW_at jp2, jp1]
  have gj := h.getW (i := j) (by omega) (by omega) (by omega) hjn hyj
  have hst := mw_act (P := PMu n t) (ev := ev) (r := r) (s := s) (b := []) (q := ((j : Int), 0, u) :: q') (k := k) (dr := dr) (y := wI 3) hid hl (h.get hm hin) (pgm_at n t i) (progB_pgm hn ht) hro.1 hk (by omega) (by omega) (by omega) (by rw [hpg, pW_at hp, hp4]) rfl rfl hro.1 (by rw [List.getElem?_set_ne (Ne.symm hij)]; exact h.get hm hin) (by simp) (a_hand0 (x := (f i).r) (A := 0) (B := 5) (C := 0) hro.2.1 gj rfl rfl rfl rfl (fun e => by have := (h.il.mem.1 e).2; omega) (by omega) (by omega) jro.1)
  have hft : Go.Proofs.YtcffplgimbbflaaGreat.upd f i ⟨(f i).pc + 1, 0, (f i).r⟩ j = f j := updM_ne (Ne.symm hij)
  refine ⟨m, Go.Proofs.YtcffplgimbbflaaGreat.upd (Go.Proofs.YtcffplgimbbflaaGreat.upd f i ⟨(f i).pc + 1, 0, (f i).r⟩) j ⟨(f j).pc + 1, 0, (((f j).r.set 5 (ofL (f i).r 5)).set 6 0).set 6 1⟩, line ++ [(j : Int)], [], q', r, s, _, by rw [← updM_comm f _ _ hij, ← tsM_set tk_run, ← tsM_set tk_run]; exact hst, ⟨?_, fun _ => rfl⟩, ?_⟩
  · rw [show T ++ toldL 0 _ = T by simp [toldL]]
    refine hput.work hj1 hjn ⟨by show (f j).pc + 1 ≤ _; omega, .inl rfl⟩ (by show (0 = 5) ↔ _; omega) (jro.got (by decide) (by decide)) (fun _ => ?_) (.inl ?_) (hput.il.come (by rw [hft]; omega) hjn rfl) (IdM.pop (i := j) hput.iq (by simp)) (hput.ir.stay (by rw [hft]; simp [hjm])) (hput.is.stay (by rw [hft]; simp [hjm])) (fun x hx => h.cq x (List.mem_cons_of_mem _ hx)) h.cr h.cs ?_ (fun u hu => by cases hu) ?_ h.rs ?_
    · rw [hft]
      show ((((f j).r.set 5 _).set 6 0).set 6 1).getD 5 0 + _ = _ + (incN ((f j).pc + 1) : Int)
      rw [getD_set_ne' (by decide), getD_set_ne' (by decide), getD_set_self' (by rw [jro.1]; decide), hput.vb _ (List.mem_singleton.2 rfl)]; unfold incN; omega
    · rw [hft]; show incN ((f j).pc + 1) = _
      unfold incN; omega
    · rw [hft]; show _ + holdN t ((f j).pc + 1) = _
      rw [holdN_1 (by omega) (by omega), holdN_0 (.inl jp1)]; rfl
    · rw [hft]; show doneN t ((f j).pc + 1) = _
      rw [doneN_0 (by omega), doneN_0 (by omega)]
    · simp only [List.length_append, List.length_cons, List.length_nil] at hlen ⊢; omega
  · have a := Ws_upd (n := n) (t := t) (f := f) (z := ⟨(f i).pc + 1, 0, (f i).r⟩) h1 hin
    have a2 := Ws_upd (n := n) (t := t) (f := Go.Proofs.YtcffplgimbbflaaGreat.upd f i ⟨(f i).pc + 1, 0, (f i).r⟩) (z := ⟨(f j).pc + 1, 0, (((f j).r.set 5 (ofL (f i).r 5)).set 6 0).set 6 1⟩) hj1 hjn
    rw [hft, wtN_0 (x := f j) (by omega), wtN_1 (x := ⟨_, 0, _⟩) (.inl rfl)] at a2
    rw [wtN_1 (x := f i) (.inl hm), wtN_1 (x := ⟨_, 0, _⟩) (.inl rfl)] at a
    dsimp only at a a2
    omega
/-- It gives the number to the main one, that waits. -/
theorem mu_hand_main (h : MI n t m f line b q r s T) (hn : n ≤ 6) (ht : t ≤ 4) (hk : k < 10000) (hid : line.getD (N % (line.length : Int)).toNat 0 = (i : Int)) (hl : line ≠ []) (hm : (f i).md = 0) (hin : i ≤ n) (h1 : 1 ≤ i) (hn1 : 1 ≤ n) {u : Int} {q' : List Wt} (hq : q = (((0 : Nat) : Int), 0, u) :: q') (hp : (f i).pc < 4 * t) (hp4 : (f i).pc % 4 = 3) : Nxt n t m f line b q r s k ev T N dr := by
  have hlt := h.lt (by omega) hin
  obtain ⟨hw, h5, hro, hh⟩ := h.wk i h1 hin
  have hro := hro hlt
  have hpg : pgm n t i = pW t := by unfold pgm; rw [if_neg (by omega)]
  obtain ⟨c1, c2, c3, c4, c5⟩ := h.few hn
  have hoff := h.off hm hin
  have hlen := h.lens
  have hput := h.put hm hin h1 hp hp4
  obtain rfl := (h.main_free h1 hin (holdN_1 (by omega) hp)).1
  subst hq
  obtain ⟨_, hjm⟩ := (IdM.mem (i := 0) h.iq).1 (by simp)
  have hij : i ≠ 0 := by omega
  have jro := h.rg
  have jp : (f 0).pc = 2 * n + 3 := by obtain ⟨_, _, e⟩ := h.mn; omega
  have hyj : (pgm n t 0)[(f 0).pc]? = some (ins 11 0 3 4) := by rw [jp]; exact pM_take n
  have gj := h.getW (i := 0) (by omega) (by omega) (by omega) (by omega) hyj
  have hst := mw_act (P := PMu n t) (ev := ev) (r := r) (s := s) (b := []) (q := (((0 : Nat) : Int), 0, u) :: q') (k := k) (dr := dr) (y := wI 3) hid hl (h.get hm hin) (pgm_at n t i) (progB_pgm hn ht) hro.1 hk (by omega) (by omega) (by omega) (by rw [hpg, pW_at hp, hp4]) rfl rfl hro.1 (by rw [List.getElem?_set_ne (Ne.symm hij)]; exact h.get hm hin) (by simp) (a_hand0 (x := (f i).r) (A := 0) (B := 5) (C := 0) hro.2.1 gj rfl rfl rfl rfl (fun e => by have := (h.il.mem.1 e).2; omega) (by omega) (by omega) jro.1)
  have hft : Go.Proofs.YtcffplgimbbflaaGreat.upd f i ⟨(f i).pc + 1, 0, (f i).r⟩ 0 = f 0 := updM_ne (Ne.symm hij)
  refine ⟨m, Go.Proofs.YtcffplgimbbflaaGreat.upd (Go.Proofs.YtcffplgimbbflaaGreat.upd f i ⟨(f i).pc + 1, 0, (f i).r⟩) 0 ⟨(f 0).pc + 1, 0, (((f 0).r.set 3 (ofL (f i).r 5)).set 4 0).set 4 1⟩, line ++ [((0 : Nat) : Int)], [], q', r, s, _, by rw [← updM_comm f _ _ hij, ← tsM_set tk_run, ← tsM_set tk_run]; exact hst, ⟨?_, fun _ => rfl⟩, ?_⟩
  · rw [show T ++ toldL 0 _ = T by simp [toldL]]
    refine hput.main hn1 (by have := h.m_eq; show m = 1 + min ((f 0).pc + 1 - 3) n; omega) ⟨by show 3 ≤ (f 0).pc + 1; omega, by show (f 0).pc + 1 ≤ _; omega, .inl rfl⟩ (jro.got (by decide) (by decide)) (hput.il.come (by rw [hft]; omega) (by omega) rfl) (IdM.pop (i := 0) hput.iq (by simp)) (hput.ir.stay (by rw [hft]; simp [hjm])) (hput.is.stay (by rw [hft]; simp [hjm])) (fun x hx => h.cq x (List.mem_cons_of_mem _ hx)) h.cr h.cs ?_ (fun u hu => by cases hu) (fun _ => ?_) ?_ h.rs ?_ ?_
    · rw [hft, if_pos (by show _ ≤ (f 0).pc + 1; omega), if_neg (by omega)]; rfl
    · show ((((f 0).r.set 3 _).set 4 0).set 4 1).getD 3 0 = _
      rw [getD_set_ne' (by decide), getD_set_ne' (by decide), getD_set_self' (by rw [jro.1]; decide), hput.vb _ (List.mem_singleton.2 rfl)]
    · rw [hft]; show _ = min ((f 0).pc + 1 - (n + 3)) n
      omega
    · have := h.told; rw [if_pos (by omega)] at this; rw [if_pos (by show (f 0).pc + 1 ≤ 2 * n + 4; omega)]; exact this
    · simp only [List.length_append, List.length_cons, List.length_nil] at hlen ⊢; omega
  · have a := Ws_upd (n := n) (t := t) (f := f) (z := ⟨(f i).pc + 1, 0, (f i).r⟩) h1 hin
    have a2 := Ws_upd0 (n := n) (t := t) (f := Go.Proofs.YtcffplgimbbflaaGreat.upd f i ⟨(f i).pc + 1, 0, (f i).r⟩) (z := ⟨(f 0).pc + 1, 0, (((f 0).r.set 3 (ofL (f i).r 5)).set 4 0).set 4 1⟩)
    rw [hft, wtN_0 (x := f 0) (by omega), wtN_1 (x := ⟨_, 0, _⟩) (.inl rfl)] at a2
    rw [wtN_1 (x := f i) (.inl hm), wtN_1 (x := ⟨_, 0, _⟩) (.inl rfl)] at a
    dsimp only at a a2
    omega
/-- It tells the main one, that waits, that it is done. -/
theorem mu_done (h : MI n t m f line b q r s T) (hn : n ≤ 6) (ht : t ≤ 4) (hk : k < 10000) (hid : line.getD (N % (line.length : Int)).toNat 0 = (i : Int)) (hl : line ≠ []) (hm : (f i).md = 0) (hin : i ≤ n) (h1 : 1 ≤ i) (hqb : q ≠ [] → b = []) {j : Nat} {u : Int} {r' : List Wt} (hr : r = ((j : Int), 0, u) :: r') (hp : (f i).pc = 4 * t) : Nxt n t m f line b q r s k ev T N dr := by
  have hlt := h.lt (by omega) hin
  obtain ⟨hw, h5, hro, hh⟩ := h.wk i h1 hin
  have hro := hro hlt
  have hpg : pgm n t i = pW t := by unfold pgm; rw [if_neg (by omega)]
  obtain ⟨c1, c2, c3, c4, c5⟩ := h.few hn
  have hoff := h.off hm hin
  have hlen := h.lens
  subst hr
  obtain ⟨hjn, hjm⟩ := (IdM.mem (i := j) h.ir).1 (by simp)
  obtain rfl : j = 0 := by
    by_cases e : j = 0
    · exact e
    · obtain ⟨_, jw⟩ := (h.wk j (by omega) hjn).1; omega
  have hij : i ≠ 0 := by omega
  have jro := h.rg
  obtain ⟨jp1, jp2⟩ : n + 3 ≤ (f 0).pc ∧ (f 0).pc < 2 * n + 3 := by obtain ⟨_, _, e⟩ := h.mn; omega
  have hyj : (pgm n t 0)[(f 0).pc]? = some (ins 11 1 3 4) := pM_recv jp1 jp2
  have gj := h.getW (i := 0) (by omega) (by omega) (by omega) (by omega) hyj
  have hst := mw_act (P := PMu n t) (ev := ev) (r := (((0 : Nat) : Int), 0, u) :: r') (s := s) (b := b) (q := q) (k := k) (dr := dr) (y := ins 10 1 5 0) hid hl (h.get hm hin) (pgm_at n t i) (progB_pgm hn ht) hro.1 hk (by omega) (by omega) (by omega) (by rw [hpg, hp, pW_last]) rfl rfl hro.1 (by rw [List.getElem?_set_ne (Ne.symm hij)]; exact h.get hm hin) (by simp) (a_hand1 (x := (f i).r) (A := 1) (B := 5) (C := 0) hro.2.2 gj rfl rfl rfl rfl (fun e => by have := (h.il.mem.1 e).2; omega) (by omega) (by omega) jro.1)
  refine ⟨m, Go.Proofs.YtcffplgimbbflaaGreat.upd (Go.Proofs.YtcffplgimbbflaaGreat.upd f 0 ⟨(f 0).pc + 1, 0, (((f 0).r.set 3 (ofL (f i).r 5)).set 4 0).set 4 1⟩) i ⟨(f i).pc + 1, 0, (f i).r⟩, line ++ [((0 : Nat) : Int)], b, q, r', s, _, by rw [← tsM_set tk_run, ← tsM_set tk_run]; exact hst, ⟨?_, hqb⟩, ?_⟩
  · rw [show T ++ toldL 0 _ = T by simp [toldL]]
    have hfi : Go.Proofs.YtcffplgimbbflaaGreat.upd f 0 ⟨(f 0).pc + 1, 0, (((f 0).r.set 3 (ofL (f i).r 5)).set 4 0).set 4 1⟩ i = f i := updM_ne hij
    refine h.pair h1 hin (by have := h.m_eq; show m = 1 + min ((f 0).pc + 1 - 3) n; omega) ⟨by show 3 ≤ (f 0).pc + 1; omega, by show (f 0).pc + 1 ≤ _; omega, .inl rfl⟩ (jro.got (by decide) (by decide)) ⟨by show (f i).pc + 1 ≤ _; omega, .inl rfl⟩ (by show (0 = 5) ↔ _; omega) (fun _ => hro.to) (fun _ _ _ _ => Iff.rfl) (fun hh => ?_) (.inl ?_) ((h.il.come (by omega) (by omega) rfl).stay (by rw [hfi]; simp [hm])) ((h.iq.stay (by simp [hjm])).stay (by rw [hfi]; simp [hm])) (IdM.stay (IdM.pop (i := 0) h.ir (by simp)) (by rw [hfi]; simp [hm])) ((h.is.stay (by simp [hjm])).stay (by rw [hfi]; simp [hm])) h.cq (fun x hx => h.cr x (List.mem_cons_of_mem _ hx)) h.cs ?_ (fun v hv => ?_) (fun hh => ?_) ?_ (fun e => h.rs (by simp)) ?_ ?_
    · exact absurd hh (by show holdN t ((f i).pc + 1) ≠ 1; rw [holdN_0 (.inr (by omega))]; decide)
    · show incN ((f i).pc + 1) = _; unfold incN; omega
    · show _ + holdN t ((f i).pc + 1) + (if 2 * n + 4 ≤ (f 0).pc + 1 then 1 else 0) = _
      rw [holdN_0 (.inr (by omega)), holdN_0 (.inr (by omega)), if_neg (by omega), if_neg (by omega)]
    · show _ = _ + (incN ((f i).pc + 1) : Int)
      rw [h.vb v hv]; unfold incN; omega
    · exfalso; have : (f 0).pc + 1 = 2 * n + 4 := hh; omega
    · show doneN t ((f i).pc + 1) + _ = min ((f 0).pc + 1 - (n + 3)) n + _
      rw [doneN_1 (by omega), doneN_0 (by omega)]; omega
    · have := h.told; rw [if_pos (by omega)] at this; rw [if_pos (by show (f 0).pc + 1 ≤ 2 * n + 4; omega)]; exact this
    · simp only [List.length_append, List.length_cons, List.length_nil] at hlen ⊢; omega
  · have a := Ws_pair (n := n) (t := t) (f := f) h1 hin ⟨(f 0).pc + 1, 0, (((f 0).r.set 3 (ofL (f i).r 5)).set 4 0).set 4 1⟩ ⟨(f i).pc + 1, 0, (f i).r⟩
    rw [wtN_1 (x := f i) (.inl hm), wtN_0 (x := f 0) (by omega), wtN_1 (x := ⟨_, 0, (f i).r⟩) (.inl rfl), wtN_1 (x := ⟨(f 0).pc + 1, 0, _⟩) (.inl rfl)] at a
    dsimp only at a
    omega
end
end Go.Proofs.YtcffplgimbbflaaGreat
