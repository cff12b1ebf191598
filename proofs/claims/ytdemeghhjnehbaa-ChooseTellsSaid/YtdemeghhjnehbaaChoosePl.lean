/- Plain words on cases: which are ready, what one does, what is when a task waits by them all, and when it leaves. -/
import Derived.Test.YtdemeghhjnehbaaPool
set_option linter.unusedVariables false
set_option linter.unusedSimpArgs false
namespace Go.Proofs.Ytdemeghhjnehbaa
open Go.RowKit
set_option maxRecDepth 100000
/-- The numbers ahead of k that are so. -/
def rdy (f : Nat → Bool) (k : Nat) : List Int := ((List.range k).filter f).map fun i : Nat => (i : Int)
theorem rdy_succ (f : Nat → Bool) (k : Nat) : rdy f (k + 1) = if f k = true then rdy f k ++ [(k : Int)] else rdy f k := by
  unfold rdy
  rw [List.range_succ, List.filter_append, List.map_append]
  by_cases h : f k = true <;> simp [h]
theorem rdy_yes {f : Nat → Bool} {k : Nat} (h : f k = true) : rdy f (k + 1) = rdy f k ++ [(k : Int)] := by rw [rdy_succ, if_pos h]
theorem rdy_no {f : Nat → Bool} {k : Nat} (h : f k = false) : rdy f (k + 1) = rdy f k := by rw [rdy_succ, if_neg (by rw [h]; simp)]
theorem rdy_le (f : Nat → Bool) (k : Nat) : (rdy f k).length ≤ k := by
  unfold rdy; rw [List.length_map]; have := List.length_filter_le f (List.range k); simpa using this
theorem rdy_get {f : Nat → Bool} {k j : Nat} {x : Int} (h : (rdy f k)[j]? = some x) : ∃ i : Nat, x = i ∧ i < k ∧ f i = true := by
  obtain ⟨i, hi, rfl⟩ := List.mem_map.1 (List.mem_of_getElem? h)
  rw [List.mem_filter] at hi
  exact ⟨i, rfl, by simpa using hi.1, hi.2⟩
theorem rdy_congr {f g : Nat → Bool} {k : Nat} (h : ∀ i, i < k → f i = g i) : rdy f k = rdy g k := by
  unfold rdy
  congr 1
  exact List.filter_congr fun x hx => h x (by simpa using hx)
theorem rdy_none {f : Nat → Bool} {k : Nat} (h : ∀ i, i < k → f i = false) : rdy f k = [] := by
  unfold rdy
  rw [List.map_eq_nil_iff, List.filter_eq_nil_iff]
  intro a ha; rw [h a (by simpa using ha)]; simp
theorem rdy_nil {f : Nat → Bool} {k : Nat} (h : rdy f k = []) : ∀ i, i < k → f i = false := by
  intro i hi
  unfold rdy at h
  rw [List.map_eq_nil_iff, List.filter_eq_nil_iff] at h
  have := h i (by simpa using hi)
  simpa using this
theorem rdy_all {f : Nat → Bool} {k : Nat} (h : ∀ i, i < k → f i = true) : rdy f k = (List.range k).map fun i : Nat => (i : Int) := by
  unfold rdy
  congr 1
  exact List.filter_eq_self.2 fun a ha => h a (by simpa using ha)
/-- What one does on its channel. -/
def oneR (c : ChS) (x : Cs) : Int × Bool × Bool × List Wk := if x.2.1 then (0, (c.sendR x.2.2).2.2 == 0, (c.sendR x.2.2).2.2 == 5, (c.sendR x.2.2).2.1) else (c.recvR.1, c.recvR.2.1, false, c.recvR.2.2.2)
def oneS (c : ChS) (x : Cs) : ChS := if x.2.1 then c.sendS x.2.2 else c.recvS
/-- A task waits by case number k. -/
def stepF (P : Nat → Option ChS) (f : ChS → ChS) (o : Option Nat) : Nat → Option ChS := match o with
  | none => P
  | some i => match P i with
    | some c => upd P i (some (f c))
    | none => P
def valC (x : Cs) : Int := if x.2.1 then x.2.2 else 0
def parkF (t : Int) : List Cs → Nat → (Nat → Option ChS) → Nat → Option ChS
  | [], _, P => P
  | x :: l, k, P => parkF t l (k + 1) (stepF P (fun c => c.waitS (t, (k : Int), valC x) x.2.1) x.1)
theorem parkF_snoc (t : Int) : ∀ (l : List Cs) (k : Nat) (P : Nat → Option ChS) (x : Cs), parkF t (l ++ [x]) k P = stepF (parkF t l k P) (fun c => c.waitS (t, ((k + l.length : Nat) : Int), valC x) x.2.1) x.1
  | [], k, P, x => by simp [parkF]
  | y :: l, k, P, x => by
    simp only [List.cons_append, parkF]
    rw [parkF_snoc t l (k + 1)]
    have : k + 1 + l.length = k + (y :: l).length := by simp; omega
    rw [this]
def leaveF (t : Int) : List Cs → (Nat → Option ChS) → Nat → Option ChS
  | [], P => P
  | x :: l, P => leaveF t l (stepF P (fun c => c.removeS t) x.1)
def leaveC (t : Int) (P : Nat → Option ChS) (o : Option Nat) : Nat := match o with
  | none => 0
  | some i => match P i with
    | some c => c.removeR t
    | none => 0
def leaveN (t : Int) : List Cs → (Nat → Option ChS) → Nat
  | [], _ => 0
  | x :: l, P => leaveC t P x.1 + leaveN t l (stepF P (fun c => c.removeS t) x.1)
theorem leaveF_snoc (t : Int) : ∀ (l : List Cs) (P : Nat → Option ChS) (x : Cs), leaveF t (l ++ [x]) P = stepF (leaveF t l P) (fun c => c.removeS t) x.1
  | [], P, x => rfl
  | y :: l, P, x => leaveF_snoc t l _ x
theorem leaveN_snoc (t : Int) : ∀ (l : List Cs) (P : Nat → Option ChS) (x : Cs), leaveN t (l ++ [x]) P = leaveN t l P + leaveC t (leaveF t l P) x.1
  | [], P, x => by simp [leaveN, leaveF]
  | y :: l, P, x => by
    simp only [List.cons_append, leaveN, leaveF]
    rw [leaveN_snoc t l _ x, Nat.add_assoc]
/-- No channel has more than so many who wait. -/
def Few (P : Nat → Option ChS) (m : Nat) : Prop := ∀ i c, P i = some c → c.rv.length ≤ m ∧ c.sd.length ≤ m
theorem Few.mono {P : Nat → Option ChS} {m n : Nat} (h : Few P m) (hn : m ≤ n) : Few P n := fun i c hi => ⟨Nat.le_trans (h i c hi).1 hn, Nat.le_trans (h i c hi).2 hn⟩
theorem Few.step {P : Nat → Option ChS} {m n : Nat} (h : Few P m) (hn : m ≤ n) (f : ChS → ChS) (hf : ∀ c : ChS, c.rv.length ≤ m → c.sd.length ≤ m → (f c).rv.length ≤ n ∧ (f c).sd.length ≤ n) (o : Option Nat) : Few (stepF P f o) n := by
  cases o with
  | none => exact h.mono hn
  | some i =>
    unfold stepF
    cases hp : P i with
    | none => simp only [hp]; exact h.mono hn
    | some c =>
      simp only [hp]
      intro j d hj
      by_cases e : j = i
      · subst e; rw [upd_same] at hj; cases hj; exact hf c (h j c hp).1 (h j c hp).2
      · rw [upd_ne _ _ e] at hj; exact h.mono hn j d hj
theorem wait_few (x : Wt) (s : Bool) (m : Nat) (c : ChS) (h1 : c.rv.length ≤ m) (h2 : c.sd.length ≤ m) : (c.waitS x s).rv.length ≤ m + 1 ∧ (c.waitS x s).sd.length ≤ m + 1 := by
  unfold ChS.waitS
  split
  · split
    · exact ⟨by simp; omega, by simp; omega⟩
    · exact ⟨by simp; omega, by simp; omega⟩
  · exact ⟨by omega, by omega⟩
theorem remove_few (t : Int) (m : Nat) (c : ChS) (h1 : c.rv.length ≤ m) (h2 : c.sd.length ≤ m) : (c.removeS t).rv.length ≤ m ∧ (c.removeS t).sd.length ≤ m :=
  ⟨Nat.le_trans (notT_le _ _) h1, Nat.le_trans (notT_le _ _) h2⟩
theorem CsOk.step {P : Nat → Option ChS} {x : Cs} (h : CsOk P x) (f : ChS → ChS) (o : Option Nat) : CsOk (stepF P f o) x := by
  intro i hi
  obtain ⟨c, hc⟩ := h i hi
  cases o with
  | none => exact ⟨c, hc⟩
  | some j =>
    unfold stepF
    cases hp : P j with
    | none => exact ⟨c, by simp only [hp]; exact hc⟩
    | some d =>
      simp only [hp]
      by_cases e : i = j
      · subst e; exact ⟨_, upd_same _ _ _⟩
      · exact ⟨c, by rw [upd_ne _ _ e]; exact hc⟩
theorem CsOk.park {x : Cs} (t : Int) : ∀ (l : List Cs) (k : Nat) (P : Nat → Option ChS), CsOk P x → CsOk (parkF t l k P) x
  | [], _, _, h => h
  | y :: l, k, P, h => CsOk.park t l (k + 1) _ (h.step _ _)
theorem CsOk.leave {x : Cs} (t : Int) : ∀ (l : List Cs) (P : Nat → Option ChS), CsOk P x → CsOk (leaveF t l P) x
  | [], _, h => h
  | y :: l, P, h => CsOk.leave t l _ (h.step _ _)
theorem Few.park (t : Int) : ∀ (l : List Cs) (k : Nat) (P : Nat → Option ChS) (m : Nat), Few P m → Few (parkF t l k P) (m + l.length)
  | [], _, _, m, h => h
  | y :: l, k, P, m, h => by
    have h1 := h.step (Nat.le_succ m) (fun c => c.waitS (t, (k : Int), valC y) y.2.1) (fun c a b => wait_few _ _ m c a b) y.1
    have h2 := Few.park t l (k + 1) _ (m + 1) h1
    have : m + 1 + l.length = m + (y :: l).length := by simp; omega
    rw [← this]; exact h2
theorem Few.leave (t : Int) (m : Nat) : ∀ (l : List Cs) (P : Nat → Option ChS), Few P m → Few (leaveF t l P) m
  | [], _, h => h
  | y :: l, P, h => Few.leave t m l _ (h.step (Nat.le_refl m) (fun c => c.removeS t) (fun c a b => remove_few t m c a b) y.1)
theorem remove_le (t : Int) (m : Nat) (c : ChS) (h1 : c.rv.length ≤ m) (h2 : c.sd.length ≤ m) : c.removeR t ≤ m + m := by unfold ChS.removeR; omega
theorem leaveC_le {t : Int} {P : Nat → Option ChS} {m : Nat} (h : Few P m) (o : Option Nat) : leaveC t P o ≤ m + m := by
  cases o with
  | none => exact Nat.zero_le _
  | some i =>
    unfold leaveC
    cases hp : P i with
    | none => simp only [hp]; exact Nat.zero_le _
    | some c => simp only [hp]; exact remove_le t m c (h i c hp).1 (h i c hp).2
theorem leaveN_le {t : Int} {m : Nat} : ∀ (l : List Cs) (P : Nat → Option ChS), Few P m → leaveN t l P ≤ l.length * (m + m)
  | [], _, _ => Nat.zero_le _
  | x :: l, P, h => by
    have h1 := leaveC_le (t := t) h x.1
    have h2 := leaveN_le (t := t) l _ (h.step (Nat.le_refl m) (fun c => c.removeS t) (fun c a b => remove_few t m c a b) x.1)
    simp only [leaveN, List.length_cons, Nat.add_mul]
    omega
theorem css_get (B : Nat → Nat) (l : List Cs) (k : Nat) (x : Cs) (h : l[k]? = some x) : (css B l)[k * 3]? = some (.pointer (pa B x.1)) ∧ (css B l)[k * 3 + 1]? = some (.bool x.2.1) ∧ (css B l)[k * 3 + 2]? = some (.int .i64 x.2.2) :=
  ⟨by have := rowsGet (sz := 3) (csEn B) (fun _ => rfl) l k 0 x h (by omega); simpa using this, rowsGet (sz := 3) (csEn B) (fun _ => rfl) l k 1 x h (by omega), rowsGet (sz := 3) (csEn B) (fun _ => rfl) l k 2 x h (by omega)⟩
theorem take_snocC (q : List Cs) (k : Nat) (x : Cs) (h : q[k]? = some x) : q.take (k + 1) = q.take k ++ [x] := by rw [List.take_add_one]; simp [h]
end Go.Proofs.Ytdemeghhjnehbaa
