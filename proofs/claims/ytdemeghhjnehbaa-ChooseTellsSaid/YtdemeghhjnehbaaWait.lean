/- Who waits: a row of nodes that point at each other, as it lies in blocks of a set S; what New, Len, Push and drop do. -/
import Derived.Test.YtdemeghhjnehbaaProg
import Derived.Test.YtdemeghhjnehbaaBase
import Derived.IntWalk
set_option linter.unusedVariables false
set_option linter.unusedSimpArgs false
namespace Go.Proofs.Ytdemeghhjnehbaa
open Go.RowKit
set_option maxRecDepth 100000

/-- One who waits: its task, its case, its value. -/
abbrev Wt := Int × Int × Int
abbrev wtCells (x : Wt) : List Value := [.int .i64 x.1, .int .i64 x.2.1, .int .i64 x.2.2]
abbrev wtVal (x : Wt) : Value := .agg #[.int .i64 x.1, .int .i64 x.2.1, .int .i64 x.2.2]
def ptr : Option Nat → Value
  | none => .pointer none
  | some k => .pointer (some ⟨k, 0, none⟩)
theorem ptr_none : ptr none = .pointer none := rfl
theorem ptr_some (k : Nat) : ptr (some k) = .pointer (some ⟨k, 0, none⟩) := rfl
def prevB (xs : List (Nat × Wt)) (j : Nat) : Option Nat := if j = 0 then none else (xs[j - 1]?).map (·.1)
def nextB (xs : List (Nat × Wt)) (j : Nat) : Option Nat := (xs[j + 1]?).map (·.1)
def lastB (xs : List (Nat × Wt)) : Option Nat := prevB xs xs.length
def firstB (xs : List (Nat × Wt)) : Option Nat := (xs[0]?).map (·.1)
def nodeObj (x : Wt) (p n : Option Nat) : Obj := .cells #[.int .i64 x.1, .int .i64 x.2.1, .int .i64 x.2.2, ptr p, ptr n] 126 (0, 0)
def queueObj (f l : Option Nat) (n : Nat) : Obj := .cells #[ptr f, ptr l, .int .i64 (n : Int)] 119 (0, 0)
/-- The nodes xs, in order, of the queue in block b. -/
structure QAt (w : World) (S : Nat → Prop) (b : Nat) (xs : List (Nat × Wt)) : Prop where
  own : S b
  blk : w.heap[b]? = some (queueObj (firstB xs) (lastB xs) xs.length)
  node : ∀ (j : Nat) (x : Nat × Wt), xs[j]? = some x → S x.1 ∧ x.1 ≠ b ∧ w.heap[x.1]? = some (nodeObj x.2 (prevB xs j) (nextB xs j))
  nd : ∀ (i j : Nat) (x y : Nat × Wt), xs[i]? = some x → xs[j]? = some y → x.1 = y.1 → i = j
  few : xs.length ≤ 100000
theorem QAt.fr {w w' : World} {S F : Nat → Prop} {b : Nat} {xs : List (Nat × Wt)} (h : QAt w S b xs) (hf : Fr F w w') (hd : ∀ k, S k → F k → False) : QAt w' S b xs :=
  ⟨h.own, hf.blk (hd _ h.own) h.blk, fun j x hx => ⟨(h.node j x hx).1, (h.node j x hx).2.1, hf.blk (hd _ (h.node j x hx).1) (h.node j x hx).2.2⟩, h.nd, h.few⟩
theorem QAt.mono {w : World} {S S' : Nat → Prop} {b : Nat} {xs : List (Nat × Wt)} (h : QAt w S b xs) (hs : ∀ k, k < w.heap.size → S k → S' k) : QAt w S' b xs :=
  ⟨hs _ (lt_of_block h.blk) h.own, h.blk, fun j x hx => ⟨hs _ (lt_of_block (h.node j x hx).2.2) (h.node j x hx).1, (h.node j x hx).2⟩, h.nd, h.few⟩
theorem QAt.lt {w : World} {S : Nat → Prop} {b : Nat} {xs : List (Nat × Wt)} (h : QAt w S b xs) (j : Nat) (x : Nat × Wt) (hx : xs[j]? = some x) : x.1 < w.heap.size := lt_of_block (h.node j x hx).2.2
/-- The queue in block b has ws, in order. -/
def WaitAt (w : World) (S : Nat → Prop) (b : Nat) (ws : List Wt) : Prop := ∃ xs, QAt w S b xs ∧ xs.map (·.2) = ws
theorem WaitAt.fr {w w' : World} {S F : Nat → Prop} {b : Nat} {ws : List Wt} (h : WaitAt w S b ws) (hf : Fr F w w') (hd : ∀ k, S k → F k → False) : WaitAt w' S b ws := by
  obtain ⟨xs, h, e⟩ := h; exact ⟨xs, h.fr hf hd, e⟩
theorem WaitAt.fr0 {w w' : World} {S : Nat → Prop} {b : Nat} {ws : List Wt} (h : WaitAt w S b ws) (hf : Fr Nob w w') : WaitAt w' S b ws := h.fr hf fun _ _ q => q
theorem WaitAt.mono {w : World} {S S' : Nat → Prop} {b : Nat} {ws : List Wt} (h : WaitAt w S b ws) (hs : ∀ k, k < w.heap.size → S k → S' k) : WaitAt w S' b ws := by
  obtain ⟨xs, h, e⟩ := h; exact ⟨xs, h.mono hs, e⟩
theorem WaitAt.few {w : World} {S : Nat → Prop} {b : Nat} {ws : List Wt} (h : WaitAt w S b ws) : ws.length ≤ 100000 := by
  obtain ⟨xs, h, rfl⟩ := h; simpa using h.few
theorem WaitAt.own {w : World} {S : Nat → Prop} {b : Nat} {ws : List Wt} (h : WaitAt w S b ws) : S b ∧ b < w.heap.size := by
  obtain ⟨xs, h, rfl⟩ := h; exact ⟨h.own, lt_of_block h.blk⟩

theorem lastB_nil : lastB [] = none := rfl
theorem lastB_pos (xs : List (Nat × Wt)) (n : Nat) (x : Nat × Wt) (hn : xs.length = n + 1) (hx : xs[n]? = some x) : lastB xs = some x.1 := by
  unfold lastB prevB; rw [hn, if_neg (by omega)]; simp [hx]

/-- One behind all. -/
theorem QAt.snoc {w w' : World} {S : Nat → Prop} {b nb : Nat} {xs : List (Nat × Wt)} {x : Wt} (h : QAt w S b xs) (hlt : xs.length < 100000) (hf : Fr S w w') (hnb : w.heap.size ≤ nb)
    (hb : w'.heap[b]? = some (queueObj (firstB (xs ++ [(nb, x)])) (some nb) (xs.length + 1)))
    (hn : w'.heap[nb]? = some (nodeObj x (lastB xs) none))
    (hl : ∀ n y, xs.length = n + 1 → xs[n]? = some y → w'.heap[y.1]? = some (nodeObj y.2 (prevB xs n) (some nb)))
    (ho : ∀ j y, j + 1 < xs.length → xs[j]? = some y → w'.heap[y.1]? = w.heap[y.1]?) : QAt w' (And' S w w') b (xs ++ [(nb, x)]) := by
  refine ⟨.inl h.own, ?_, fun j y hy => ?_, fun i j y z hy hz e => ?_, by simp; omega⟩
  · have e : lastB (xs ++ [(nb, x)]) = some nb := lastB_pos _ xs.length (nb, x) (by simp) (by simp)
    rw [e, hb]; simp
  · rw [List.getElem?_append] at hy
    by_cases hj : j < xs.length
    · rw [if_pos hj] at hy
      obtain ⟨h1, h2, h3⟩ := h.node j y hy
      refine ⟨.inl h1, h2, ?_⟩
      have ep : prevB (xs ++ [(nb, x)]) j = prevB xs j := by
        unfold prevB; split
        · rfl
        · rw [List.getElem?_append_left (by omega)]
      rw [ep]
      by_cases hlast : j + 1 < xs.length
      · have en : nextB (xs ++ [(nb, x)]) j = nextB xs j := by unfold nextB; rw [List.getElem?_append_left (by omega)]
        rw [en, ho j y hlast hy, h3]
      · have hlen : xs.length = j + 1 := by omega
        have en : nextB (xs ++ [(nb, x)]) j = some nb := by unfold nextB; rw [List.getElem?_append_right (by omega), hlen]; simp
        rw [en, hl j y hlen hy]
    · rw [if_neg hj] at hy
      have hj0 : j = xs.length := by
        have := (List.getElem?_eq_some_iff.1 hy).1; simp at this; omega
      subst hj0
      simp at hy
      subst hy
      have hnl := lt_of_block hn
      refine ⟨.inr ⟨hnb, hnl⟩, fun e => ?_, ?_⟩
      · have := lt_of_block h.blk
        simp at e; omega
      · have ep : prevB (xs ++ [(nb, x)]) xs.length = lastB xs := by
          unfold lastB prevB; split
          · rfl
          · rw [List.getElem?_append_left (by omega)]
        have en : nextB (xs ++ [(nb, x)]) xs.length = none := by unfold nextB; rw [List.getElem?_append_right (by omega)]; simp
        rw [ep, en]; exact hn
  · have hlen : (xs ++ [(nb, x)]).length = xs.length + 1 := by simp
    have hi := (List.getElem?_eq_some_iff.1 hy).1
    have hj := (List.getElem?_eq_some_iff.1 hz).1
    rw [List.getElem?_append] at hy hz
    by_cases hi1 : i < xs.length
    · rw [if_pos hi1] at hy
      by_cases hj1 : j < xs.length
      · rw [if_pos hj1] at hz
        exact h.nd i j y z hy hz e
      · rw [if_neg hj1] at hz
        have : z = (nb, x) := by
          have : j - xs.length = 0 := by omega
          rw [this] at hz; simpa using hz.symm
        subst this
        have := h.lt i y hy
        simp at e; omega
    · rw [if_neg hi1] at hy
      have : y = (nb, x) := by
        have : i - xs.length = 0 := by omega
        rw [this] at hy; simpa using hy.symm
      subst this
      by_cases hj1 : j < xs.length
      · rw [if_pos hj1] at hz
        have := h.lt j z hz
        simp at e; omega
      · omega

/-- One is taken out. -/
theorem QAt.erase {w w' : World} {S : Nat → Prop} {b : Nat} {xs : List (Nat × Wt)} (h : QAt w S b xs) (i : Nat) (hi : i < xs.length)
    (hb : w'.heap[b]? = some (queueObj (if i = 0 then nextB xs i else firstB xs) (if i + 1 = xs.length then prevB xs i else lastB xs) (xs.length - 1)))
    (hp : ∀ y, i ≠ 0 → xs[i - 1]? = some y → w'.heap[y.1]? = some (nodeObj y.2 (prevB xs (i - 1)) (nextB xs i)))
    (hn : ∀ y, xs[i + 1]? = some y → w'.heap[y.1]? = some (nodeObj y.2 (prevB xs i) (nextB xs (i + 1))))
    (ho : ∀ j y, xs[j]? = some y → j + 1 ≠ i → j ≠ i → j ≠ i + 1 → w'.heap[y.1]? = w.heap[y.1]?) : QAt w' S b (xs.eraseIdx i) := by
  have hlen : (xs.eraseIdx i).length = xs.length - 1 := by rw [List.length_eraseIdx, if_pos hi]
  have hg : ∀ j, (xs.eraseIdx i)[j]? = if j < i then xs[j]? else xs[j + 1]? := fun j => List.getElem?_eraseIdx ..
  have hnx : ∀ j, nextB (xs.eraseIdx i) j = if j + 1 < i then nextB xs j else nextB xs (j + 1) := fun j => by
    unfold nextB; rw [hg]; split <;> rfl
  have hpv : ∀ j, prevB (xs.eraseIdx i) j = if j ≤ i then prevB xs j else prevB xs (j + 1) := fun j => by
    unfold prevB
    by_cases hj0 : j = 0
    · subst hj0; simp
    · rw [if_neg hj0, hg]
      by_cases hji : j ≤ i
      · rw [if_pos hji, if_neg hj0, if_pos (by omega)]
      · rw [if_neg hji, if_neg (by omega), if_neg (by omega)]
        congr 2
        omega
  refine ⟨h.own, ?_, fun j y hy => ?_, fun a c y z hy hz e => ?_, by have := h.few; omega⟩
  · rw [hb, hlen]
    congr 2
    · unfold firstB
      rw [hg]
      by_cases h0 : i = 0
      · subst h0; simp [nextB]
      · rw [if_neg h0, if_pos (by omega)]
    · unfold lastB
      rw [hlen, hpv]
      by_cases h1 : i + 1 = xs.length
      · rw [if_pos h1, if_pos (by omega)]
        congr 1; omega
      · rw [if_neg h1, if_neg (by omega)]
        congr 1; omega
  · rw [hg] at hy
    by_cases hji : j < i
    · rw [if_pos hji] at hy
      obtain ⟨h1, h2, h3⟩ := h.node j y hy
      refine ⟨h1, h2, ?_⟩
      rw [hnx, hpv, if_pos (by omega : j ≤ i)]
      by_cases hj1 : j + 1 < i
      · rw [if_pos hj1, ho j y hy (by omega) (by omega) (by omega), h3]
      · have hj2 : j = i - 1 := by omega
        rw [if_neg hj1, show j + 1 = i by omega, hj2]
        exact hp y (by omega) (by rw [← hj2]; exact hy)
    · rw [if_neg hji] at hy
      obtain ⟨h1, h2, h3⟩ := h.node (j + 1) y hy
      refine ⟨h1, h2, ?_⟩
      have en : nextB (xs.eraseIdx i) j = nextB xs (j + 1) := by rw [hnx, if_neg (by omega)]
      rw [en]
      by_cases hj1 : j = i
      · have ep : prevB (xs.eraseIdx i) j = prevB xs i := by rw [hpv, if_pos (by omega), hj1]
        rw [ep, hj1]
        rw [hj1] at hy
        exact hn y hy
      · have ep : prevB (xs.eraseIdx i) j = prevB xs (j + 1) := by rw [hpv, if_neg (by omega)]
        rw [ep, ho (j + 1) y hy (by omega) (by omega) (by omega), h3]
  · rw [hg] at hy hz
    by_cases ha : a < i
    · rw [if_pos ha] at hy
      by_cases hc : c < i
      · rw [if_pos hc] at hz; exact h.nd _ _ y z hy hz e
      · rw [if_neg hc] at hz; have := h.nd _ _ y z hy hz e; omega
    · rw [if_neg ha] at hy
      by_cases hc : c < i
      · rw [if_pos hc] at hz; have := h.nd _ _ y z hy hz e; omega
      · rw [if_neg hc] at hz; have := h.nd _ _ y z hy hz e; omega

theorem wait_new (w : World) : Calls Try.prog 30 #[] w fun e w' => ∃ b, e = .returned (.pointer (some ⟨b, 0, none⟩)) ∧ Fr Nob w w' ∧ WaitAt w' (fun k => w.heap.size ≤ k ∧ k < w'.heap.size) b [] := by
  go_enter Try.func30, Try.ntmps30
  go_wp2
  go_ret
  exact ⟨w.heap.size, rfl, (Fr.refl Nob w).alloc _, [], ⟨by simp, heap_alloc_new _ _, fun j x hx => by simp at hx, fun i j x y hx => by simp at hx, by simp⟩, rfl⟩
theorem wait_len (w : World) (S : Nat → Prop) (b : Nat) (ws : List Wt) (n : Nat) (hn : ws.length = n) (h : WaitAt w S b ws) :
    Calls Try.prog 72 #[.pointer (some ⟨b, 0, none⟩)] w fun e w' => e = .returned (.int .i64 (n : Int)) ∧ w = w' := by
  obtain ⟨xs, h, rfl⟩ := h
  rw [List.length_map] at hn
  have c2 := blk_cell h.blk 2 rfl
  rw [hn] at c2
  clear h hn
  go_enter Try.func72, Try.ntmps72
  go_wp2
  go_ret
  exact ⟨rfl, rfl⟩
theorem wait_push_nil (w : World) (x : Wt) :
    Calls Try.prog 69 #[.pointer none, wtVal x] w fun e w' => e = .returned (.int .i64 0) ∧ Fr Nob w w' := by
  go_enter Try.func69, Try.ntmps69
  go_wp2
  go_ret
  exact ⟨rfl, (Fr.refl _ _).alloc _⟩
end Go.Proofs.Ytdemeghhjnehbaa
