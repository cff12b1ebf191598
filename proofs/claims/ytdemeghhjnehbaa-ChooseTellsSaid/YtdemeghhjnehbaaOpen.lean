/- How arguments of the laws come in: slices of numbers, texts, bools, arrays and structs, as slices that are read. -/
import Derived.Test.YtdemeghhjnehbaaRows
import Derived.Test.YtdemeghhjnehbaaBase
import Derived.ProofKit
import Derived.OpenShut
import Derived.ShutString
import Derived.ChangeOld
import Derived.Below
import Derived.Deep.Slices
set_option linter.unusedVariables false
set_option linter.unusedSimpArgs false
namespace Go.Proofs.Ytdemeghhjnehbaa
open Go.ChangeShapes Go.WideShapes Go.ChangeAt Go.RowKit
set_option maxRecDepth 100000

/-- Cells that read as a thing of type e are so. -/
def Dec (P : Program) (w : World) (e : TypeId) (K : List Value → Prop) : Prop :=
  ∀ (H : Type) (enc : TypeId × Value → H) (n : Nat) (cs : List Value) (x : DataW H × List MemPlace), DataW.trod enc P w 0 (fun _ => true) true n e cs = some x → K cs
section
variable {P : Program} {w : World} {e t : TypeId}
theorem Dec.mono {K K' : List Value → Prop} (h : Dec P w e K) (hk : ∀ cs, K cs → K' cs) : Dec P w e K' := fun H enc n cs x hx => hk _ (h H enc n cs x hx)
theorem dec_int (ht : P.underlying e = some (.int .i64)) : Dec P w e fun cs => ∃ x, cs = [.int .i64 x] ∧ (Lit.int .i64 x).wf = true := by
  intro H enc n cs x hx
  obtain ⟨y, rfl, _, hw⟩ := DataW.trod_int ht hx
  exact ⟨y, rfl, hw⟩
theorem dec_bool (ht : P.underlying e = some .bool) : Dec P w e fun cs => ∃ x, cs = [.bool x] := by
  intro H enc n cs x hx
  obtain ⟨y, rfl, _⟩ := DataW.trod_bool ht hx
  exact ⟨y, rfl⟩
theorem dec_str (ht : P.underlying e = some .string) : Dec P w e fun cs => ∃ s : ByteArray, cs = [.string s] ∧ s.size ≤ maxLen := by
  intro H enc n cs x hx
  obtain ⟨y, rfl, _, hw⟩ := DataW.trod_string ht hx
  exact ⟨y, rfl, hw⟩
theorem dec_array {n sz : Nat} {K : List Value → Prop} (ht : P.underlying t = some (.array n e)) (hsz : P.cellsOf e = sz) (hn : P.cellsOf t = n * sz) (h : Dec P w e K) : Dec P w t fun cs => cs.length = n * sz ∧ ∀ i, i < n → K ((cs.drop (i * sz)).take sz) := by
  intro H enc m cs x hx
  obtain ⟨xs, m', _, _, hl, hx1, hi⟩ := DataW.trod_array ht hx
  subst hsz
  refine ⟨by rw [hl, hn], fun i hin => ?_⟩
  have := hi i hin
  rw [List.getElem?_eq_getElem (by omega)] at this
  exact h H enc _ _ _ this
/-- A struct: field by field. -/
theorem dec_struct {fs : Array Field} {sz : Nat} (ht : P.underlying t = some (.struct fs)) (hsz : P.cellsOf t = sz) (K : Nat → List Value → Prop)
    (h : ∀ i f, fs[i]? = some f → Dec P w f.type (K i)) : Dec P w t fun cs => cs.length = sz ∧ ∀ i f, fs[i]? = some f → K i ((cs.drop f.offset).take (P.cellsOf f.type)) := by
  intro H enc m cs x hx
  obtain ⟨xs, m', _, _, hl, hx1, hi⟩ := DataW.trod_struct ht hx
  subst hsz
  refine ⟨hl, fun i f hf => ?_⟩
  have := hi i f hf
  have hlt : i < xs.length := by
    have := (Array.getElem?_eq_some_iff.1 hf).1; omega
  rw [List.getElem?_eq_getElem hlt] at this
  exact h i f hf H enc _ _ _ this
theorem rows_of {α : Type} (en : α → List Value) (Q : α → Prop) : ∀ (rows : List (List Value)), (∀ r ∈ rows, ∃ a, r = en a ∧ Q a) → ∃ l : List α, rows = l.map en ∧ ∀ a ∈ l, Q a
  | [], _ => ⟨[], rfl, fun _ h => by simp at h⟩
  | r :: rows, h => by
    obtain ⟨l, hl, hq⟩ := rows_of en Q rows fun r hr => h r (List.mem_cons_of_mem _ hr)
    obtain ⟨a, ha, hqa⟩ := h r (List.mem_cons_self ..)
    exact ⟨a :: l, by rw [ha, hl]; rfl, fun b hb => by rcases List.mem_cons.1 hb with rfl | hb; exact hqa; exact hq b hb⟩
theorem flat_get {α : Type} (en : α → List Value) {sz : Nat} : ∀ (l : List α), (∀ a ∈ l, (en a).length = sz) → ∀ i j a, l[i]? = some a → j < sz → (l.flatMap en)[i * sz + j]? = (en a)[j]?
  | [], _, i, j, a, h, _ => by simp at h
  | x :: l, hl, 0, j, a, h, hj => by
    simp at h; subst h
    rw [List.flatMap_cons, Nat.zero_mul, Nat.zero_add, List.getElem?_append_left (by rw [hl _ (List.mem_cons_self ..)]; exact hj)]
  | x :: l, hl, i + 1, j, a, h, hj => by
    have hx := hl _ (List.mem_cons_self ..)
    rw [List.flatMap_cons, List.getElem?_append_right (by rw [hx, Nat.add_mul]; omega), hx, show (i + 1) * sz + j - sz = i * sz + j by rw [Nat.add_mul]; omega]
    exact flat_get en l (fun b hb => hl b (List.mem_cons_of_mem _ hb)) i j a (by simpa using h) hj
theorem flat_one {α : Type} (f : α → Value) : ∀ l : List α, l.flatMap (fun x => [f x]) = l.map f
  | [] => rfl
  | x :: l => by rw [List.flatMap_cons, flat_one f l]; rfl
theorem flat_len {α : Type} (en : α → List Value) {sz : Nat} : ∀ (l : List α), (∀ a ∈ l, (en a).length = sz) → (l.flatMap en).length = l.length * sz
  | [], _ => by simp
  | x :: l, hl => by
    rw [List.flatMap_cons, List.length_append, hl _ (List.mem_cons_self ..), flat_len en l (fun b hb => hl b (List.mem_cons_of_mem _ hb)), List.length_cons, Nat.add_mul]; omega
theorem flat_drop {α : Type} (en : α → List Value) {sz : Nat} (hen : ∀ a, (en a).length = sz) : ∀ (l : List α) (k : Nat), (l.flatMap en).drop (k * sz) = (l.drop k).flatMap en
  | l, 0 => by simp
  | [], k + 1 => by simp
  | x :: l, k + 1 => by
    rw [List.flatMap_cons, List.drop_append, List.drop_of_length_le (by rw [hen, Nat.add_mul]; omega), hen, show (k + 1) * sz - sz = k * sz by rw [Nat.add_mul]; omega, flat_drop en hen l k]
    simp
theorem flat_take {α : Type} (en : α → List Value) {sz : Nat} (hen : ∀ a, (en a).length = sz) : ∀ (l : List α) (k : Nat), (l.flatMap en).take (k * sz) = (l.take k).flatMap en
  | l, 0 => by simp
  | [], k + 1 => by simp
  | x :: l, k + 1 => by
    rw [List.flatMap_cons, List.take_append, List.take_of_length_le (by rw [hen, Nat.add_mul]; omega), hen, show (k + 1) * sz - sz = k * sz by rw [Nat.add_mul]; omega, flat_take en hen l k]
    simp
/-- A slice whose elements are so: a list of things, its cells there. -/
theorem dec_slice {α : Type} {sz : Nat} (en : α → List Value) (Q : α → Prop) (hz : 0 < sz) (ht : P.underlying t = some (.slice e)) (hsz : P.cellsOf e = sz) (hen : ∀ a, (en a).length = sz)
    (h : Dec P w e fun cs => ∃ a, cs = en a ∧ Q a) : Dec P w t fun cs => ∃ v, cs = [v] ∧ ∃ l : List α, Rd w sz v l.length (l.flatMap en) ∧ ∀ a ∈ l, Q a := by
  intro H enc m cs x hx
  rcases Go.Deep.open_slice ht hx with ⟨rfl, _⟩ | ⟨a, len, cap, m', n, D, Pl, rfl, hb, hl, hm, hmm, _, hi⟩
  · exact ⟨_, rfl, [], ⟨by simp, by simp [maxLen], _, _, rfl, by simp, by simp [maxLen], fun h => absurd h (by simp)⟩, fun x hx => by simp at hx⟩
  · subst hsz
    have hm' : m' = cap := by simpa using hmm
    subst hm'
    have hrow : ∀ i, i < len → ∃ a' : α, (∀ j, j < P.cellsOf e → w.cell? (a.add (i * P.cellsOf e + j)) = (en a')[j]?) ∧ Q a' := by
      intro i hil
      obtain ⟨cs', h1, h2⟩ := hi i (by omega)
      obtain ⟨_, h3, h4⟩ := World.cells?_some h1
      obtain ⟨a', rfl, hq⟩ := h H enc _ _ _ h2
      exact ⟨a', fun j hj => by rw [← h4 j hj, Go.Deep.add_add], hq⟩
    have hlist : ∀ k, k ≤ len → ∃ l : List α, l.length = k ∧ (∀ i a', l[i]? = some a' → ∀ j, j < P.cellsOf e → w.cell? (a.add (i * P.cellsOf e + j)) = (en a')[j]?) ∧ ∀ a ∈ l, Q a := by
      intro k
      induction k with
      | zero => exact fun _ => ⟨[], rfl, fun i a' h => by simp at h, fun _ h => by simp at h⟩
      | succ k ih =>
        intro hk
        obtain ⟨l, hl1, hl2, hl3⟩ := ih (by omega)
        obtain ⟨a', ha1, ha2⟩ := hrow k (by omega)
        refine ⟨l ++ [a'], by simp [hl1], fun i b hb j hj => ?_, fun b hb => ?_⟩
        · rw [List.getElem?_append] at hb
          split at hb
          · exact hl2 i b hb j hj
          · have : i = l.length := by
              have := (List.getElem?_eq_some_iff.1 hb).1; simp at this; omega
            subst this
            simp at hb; subst hb; rw [hl1]; exact ha1 j hj
        · rcases List.mem_append.1 hb with hb | hb
          · exact hl3 b hb
          · simp at hb; subst hb; exact ha2
    obtain ⟨l, hl1, hl2, hl3⟩ := hlist len (Nat.le_refl _)
    have hfl := flat_len en l fun a _ => hen a
    refine ⟨_, rfl, l, ⟨hfl, by omega, some a, m', by rw [hl1], by omega, hm, fun hn => ?_⟩, hl3⟩
    have hcell : ∀ k u, (l.flatMap en)[k]? = some u → w.cell? (a.add k) = some u := by
      intro k u hk
      have hk1 := (List.getElem?_eq_some_iff.1 hk).1
      rw [hfl] at hk1
      have hi1 : k / P.cellsOf e < l.length := (Nat.div_lt_iff_lt_mul hz).2 hk1
      have hj1 := Nat.mod_lt k hz
      have e1 := Nat.div_add_mod k (P.cellsOf e)
      rw [Nat.mul_comm] at e1
      have h5 := hl2 _ _ (List.getElem?_eq_getElem hi1) _ hj1
      have h6 := flat_get en l (fun a _ => hen a) _ _ _ (List.getElem?_eq_getElem hi1) hj1
      rw [e1] at h5 h6
      rw [h5, ← h6]; exact hk
    have h0 : ∃ u, (l.flatMap en)[0]? = some u := ⟨_, List.getElem?_eq_getElem (by rw [hfl]; exact Nat.mul_pos hn hz)⟩
    obtain ⟨u0, h0⟩ := h0
    have hc0 := hcell 0 u0 h0
    obtain ⟨b, off, spot⟩ := a
    have hspot : spot = none := by simpa [Addr.add] using World.cell?_spot hc0
    subst hspot
    refine ⟨b, off, rfl, block_lt_of_cell hc0, fun j u hj => ?_⟩
    have := hcell j u hj
    rwa [Addr.add_lit] at this
end
/-- An argument that is a slice of such things. -/
theorem opn_of {H : Type} {enc : TypeId × Value → H} {P : Program} {W : World} {t : TypeId} {v : Value} {d : DataW H} {p : List MemPlace} {K : List Value → Prop} (hd : Dec P W t K) (h : DataW.Trod enc P W 0 (fun _ => true) true t v d p) : K v.cells.toList := by
  obtain ⟨fuel, hf⟩ := h
  exact hd H enc _ _ _ hf
theorem opn_slice {H : Type} {enc : TypeId × Value → H} {P : Program} {W : World} {t e : TypeId} {α : Type} {sz : Nat} (en : α → List Value) (Q : α → Prop) (hz : 0 < sz) (ht : P.underlying t = some (.slice e)) (hsz : P.cellsOf e = sz) (hen : ∀ a, (en a).length = sz)
    (he : Dec P W e fun cs => ∃ a, cs = en a ∧ Q a) {base : Nat} {v : Value} {d : DataW H} {p : List MemPlace} (hv : Value.okWide P W .any base t v) (h : DataW.Trod enc P W 0 (fun _ => true) true t v d p) :
    ∃ l : List α, Rd W sz v l.length (l.flatMap en) ∧ ∀ a ∈ l, Q a := by
  obtain ⟨a, len, cap, rfl⟩ := okWide_slice ht hv
  obtain ⟨v, hv, r⟩ := opn_of (dec_slice en Q hz ht hsz hen he) h
  simp [Value.cells] at hv
  subst hv
  exact r

/-- A slice of whole numbers that came in. -/
def IsInts (w : World) (v : Value) (l : List Int) : Prop := Rd w 1 v l.length (ints l) ∧ ∀ x ∈ l, (Lit.int .i64 x).wf = true
theorem opn_ints {H : Type} {enc : TypeId × Value → H} {W : World} {base : Nat} {v : Value} {d : DataW H} {p : List MemPlace} (hv : Value.okWide Try.prog W .any base 42 v) (h : DataW.Trod enc Try.prog W 0 (fun _ => true) true 42 v d p) : ∃ l, IsInts W v l := by
  obtain ⟨l, h1, h2⟩ := opn_slice (sz := 1) (fun x : Int => [.int .i64 x]) (fun x => (Lit.int .i64 x).wf = true) (by omega) Try.underlying42 (by kernel_rfl) (fun _ => rfl) (dec_int Try.underlying3) hv h
  exact ⟨l, by rw [flat_one] at h1; exact h1, h2⟩
/-- A slice of texts that came in. -/
def IsStrs (w : World) (v : Value) (l : List ByteArray) : Prop := Rd w 1 v l.length (l.map Value.string) ∧ ∀ x ∈ l, x.size ≤ maxLen
/-- A slice of bools that came in. -/
def IsBools (w : World) (v : Value) (l : List Bool) : Prop := Rd w 1 v l.length (l.map Value.bool)
theorem opn_bools {H : Type} {enc : TypeId × Value → H} {W : World} {base : Nat} {v : Value} {d : DataW H} {p : List MemPlace} (hv : Value.okWide Try.prog W .any base 45 v) (h : DataW.Trod enc Try.prog W 0 (fun _ => true) true 45 v d p) : ∃ l, IsBools W v l := by
  obtain ⟨l, h1, h2⟩ := opn_slice (sz := 1) (fun x : Bool => [.bool x]) (fun _ => True) (by omega) Try.underlying45 (by kernel_rfl) (fun _ => rfl) ((dec_bool Try.underlying4).mono fun _ ⟨x, hx⟩ => ⟨x, hx, trivial⟩) hv h
  exact ⟨l, by rw [flat_one] at h1; exact h1⟩
/-- A slice of pairs that came in. -/
abbrev pairs (l : List (Int × Int)) : List Value := l.flatMap fun p => [.int .i64 p.1, .int .i64 p.2]
def IsPairs (w : World) (v : Value) (l : List (Int × Int)) : Prop := Rd w 2 v l.length (pairs l) ∧ ∀ x ∈ l, (Lit.int .i64 x.1).wf = true ∧ (Lit.int .i64 x.2).wf = true
end Go.Proofs.Ytdemeghhjnehbaa
