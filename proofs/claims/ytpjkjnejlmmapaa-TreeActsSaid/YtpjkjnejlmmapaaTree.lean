/- Who hangs on whom, as it lies in memory, in blocks of a set S: the row of nodes, and of each its kids. -/
import Derived.Test.YtpjkjnejlmmapaaProg
import Derived.Test.YtpjkjnejlmmapaaBase
import Derived.Test.YtpjkjnejlmmapaaDelete
import Derived.Test.YtpjkjnejlmmapaaOpen
import Derived.Test.YtpjkjnejlmmapaaTreePl
set_option linter.unusedVariables false
set_option linter.unusedSimpArgs false
namespace Go.Proofs.Ytpjkjnejlmmapaa
open Go.RowKit
set_option maxRecDepth 100000

abbrev NdV := Nd × Value
abbrev ndEn (x : NdV) : List Value := [.int .i64 x.1.1, .bool x.1.2, x.2]
abbrev nds (xs : List NdV) : List Nd := xs.map fun x => x.1
theorem info_node : (Try.prog.info? 96).map (fun i => (i.zero, i.size, i.bytes)) = some (some (.agg #[.int .i64 0, .bool false, .slice none 0 0]), 3, 40) := by kernel_rfl
theorem flat_set {α : Type} (en : α → List Value) {sz : Nat} (hen : ∀ a, (en a).length = sz) : ∀ (l : List α) (p : Nat) (a a' : α) (j : Nat) (u : Value), l[p]? = some a → j < sz → en a' = (en a).set j u → (l.flatMap en).set (p * sz + j) u = (l.set p a').flatMap en
  | [], p, a, a', j, u, h, _, _ => by simp at h
  | x :: l, 0, a, a', j, u, h, hj, he => by
    simp at h; subst h
    rw [List.set_cons_zero, List.flatMap_cons, List.flatMap_cons, Nat.zero_mul, Nat.zero_add, List.set_append_left _ _ (by rw [hen]; exact hj), he]
  | x :: l, p + 1, a, a', j, u, h, hj, he => by
    rw [List.set_cons_succ, List.flatMap_cons, List.flatMap_cons, List.set_append_right _ _ (by rw [hen, Nat.add_mul]; omega), hen, show (p + 1) * sz + j - sz = p * sz + j by rw [Nat.add_mul]; omega, flat_set en hen l p a a' j u (by simpa using h) hj he]

structure TAt (w : World) (S : Nat → Prop) (b : Nat) (v : Value) (xs : List NdV) (M : Nat → Prop) (K : Nat → Nat → Prop) : Prop where
  own : S b
  blk : w.heap[b]? = some (.cells #[v] 94 (0, 0))
  main : Sl w M 96 3 v xs.length (xs.flatMap ndEn)
  kid : ∀ i x, xs[i]? = some x → Sl w (K i) 3 1 x.2 (kids (nds xs) i).length (ints (kids (nds xs) i))
  inM : ∀ k, M k → S k ∧ k ≠ b ∧ k < w.heap.size
  inK : ∀ i k, K i k → i < xs.length ∧ S k ∧ k ≠ b ∧ ¬ M k ∧ k < w.heap.size
  apart : ∀ i j k, K i k → K j k → i = j
  ok : TreeOk (nds xs)
  few : xs.length ≤ 1000
/-- The tree in block b has ns. -/
def TreeAt (w : World) (S : Nat → Prop) (b : Nat) (ns : List Nd) : Prop := ∃ v xs M K, TAt w S b v xs M K ∧ nds xs = ns
theorem TAt.fr {w w' : World} {S F : Nat → Prop} {b : Nat} {v : Value} {xs : List NdV} {M : Nat → Prop} {K : Nat → Nat → Prop} (h : TAt w S b v xs M K) (hf : Fr F w w') (hd : ∀ k, S k → F k → False) : TAt w' S b v xs M K where
  own := h.own
  blk := hf.blk (hd _ h.own) h.blk
  main := h.main.fr hf fun k q => hd k (h.inM k q).1
  kid := fun i x hx => (h.kid i x hx).fr hf fun k q => hd k (h.inK i k q).2.1
  inM := fun k q => ⟨(h.inM k q).1, (h.inM k q).2.1, Nat.lt_of_lt_of_le (h.inM k q).2.2 hf.size⟩
  inK := fun i k q => ⟨(h.inK i k q).1, (h.inK i k q).2.1, (h.inK i k q).2.2.1, (h.inK i k q).2.2.2.1, Nat.lt_of_lt_of_le (h.inK i k q).2.2.2.2 hf.size⟩
  apart := h.apart
  ok := h.ok
  few := h.few
theorem TAt.mono {w : World} {S S' : Nat → Prop} {b : Nat} {v : Value} {xs : List NdV} {M : Nat → Prop} {K : Nat → Nat → Prop} (h : TAt w S b v xs M K) (hs : ∀ k, k < w.heap.size → S k → S' k) : TAt w S' b v xs M K where
  own := hs _ (lt_of_block h.blk) h.own
  blk := h.blk
  main := h.main
  kid := h.kid
  inM := fun k q => ⟨hs k (h.inM k q).2.2 (h.inM k q).1, (h.inM k q).2⟩
  inK := fun i k q => ⟨(h.inK i k q).1, hs k (h.inK i k q).2.2.2.2 (h.inK i k q).2.1, (h.inK i k q).2.2⟩
  apart := h.apart
  ok := h.ok
  few := h.few
theorem TreeAt.fr {w w' : World} {S F : Nat → Prop} {b : Nat} {ns : List Nd} (h : TreeAt w S b ns) (hf : Fr F w w') (hd : ∀ k, S k → F k → False) : TreeAt w' S b ns := by
  obtain ⟨v, xs, M, K, h, e⟩ := h; exact ⟨v, xs, M, K, h.fr hf hd, e⟩
theorem TreeAt.fr0 {w w' : World} {S : Nat → Prop} {b : Nat} {ns : List Nd} (h : TreeAt w S b ns) (hf : Fr Nob w w') : TreeAt w' S b ns := h.fr hf fun _ _ q => q
theorem TreeAt.mono {w : World} {S S' : Nat → Prop} {b : Nat} {ns : List Nd} (h : TreeAt w S b ns) (hs : ∀ k, k < w.heap.size → S k → S' k) : TreeAt w S' b ns := by
  obtain ⟨v, xs, M, K, h, e⟩ := h; exact ⟨v, xs, M, K, h.mono hs, e⟩
theorem TreeAt.ok {w : World} {S : Nat → Prop} {b : Nat} {ns : List Nd} (h : TreeAt w S b ns) : TreeOk ns ∧ ns.length ≤ 1000 := by
  obtain ⟨v, xs, M, K, h, e⟩ := h; subst e; exact ⟨h.ok, by simpa using h.few⟩
theorem TreeAt.own {w : World} {S : Nat → Prop} {b : Nat} {ns : List Nd} (h : TreeAt w S b ns) : S b ∧ b < w.heap.size := by
  obtain ⟨v, xs, M, K, h, e⟩ := h; exact ⟨h.own, lt_of_block h.blk⟩

/-- One more, that hangs on p. -/
theorem TAt.hang {w w' : World} {S : Nat → Prop} {b p z : Nat} {v v' kv : Value} {xs : List NdV} {x : NdV} {M : Nat → Prop} {K : Nat → Nat → Prop} (h : TAt w S b v xs M K) (hx : xs[p]? = some x) (hlt : xs.length < 1000)
    (hf : Fr (fun k => K p k ∨ M k ∨ k = b) w w') (hz : w.heap.size ≤ z) (hz' : z ≤ w'.heap.size)
    (hb : w'.heap[b]? = some (.cells #[v'] 94 (0, 0)))
    (hk : Sl w' (fun k => K p k ∨ (w.heap.size ≤ k ∧ k < z)) 3 1 kv ((kids (nds xs) p).length + 1) (ints (kids (nds xs) p ++ [(xs.length : Int)])))
    (hm : Sl w' (fun k => M k ∨ (z ≤ k ∧ k < w'.heap.size)) 96 3 v' (xs.length + 1) ((xs.set p (x.1, kv)).flatMap ndEn ++ ndEn (((p : Int), true), .slice none 0 0))) :
    TreeAt w' (And' S w w') b (nds xs ++ [((p : Int), true)]) := by
  have hp := (List.getElem?_eq_some_iff.1 hx).1
  have hbl := lt_of_block h.blk
  have e0 : nds (xs.set p (x.1, kv)) = nds xs := by
    unfold nds; rw [List.map_set]
    apply List.ext_getElem?
    intro i
    rw [List.getElem?_set]
    split
    · next e => subst e; rw [List.getElem?_map, hx]; simp [hp]
    · rfl
  have e1 : nds (xs.set p (x.1, kv) ++ [(((p : Int), true), .slice none 0 0)]) = nds xs ++ [((p : Int), true)] := by
    unfold nds at e0 ⊢; rw [List.map_append, e0]; rfl
  have el : (nds xs).length = xs.length := by simp
  refine ⟨v', xs.set p (x.1, kv) ++ [(((p : Int), true), .slice none 0 0)], fun k => M k ∨ (z ≤ k ∧ k < w'.heap.size), fun i k => if i = p then K p k ∨ (w.heap.size ≤ k ∧ k < z) else K i k, ?_, e1⟩
  refine ⟨.inl h.own, hb, ?_, ?_, ?_, ?_, ?_, ?_, ?_⟩
  · have : (xs.set p (x.1, kv) ++ [(((p : Int), true), Value.slice none 0 0)]).length = xs.length + 1 := by simp
    rw [this, List.flatMap_append]
    simpa using hm
  · intro i y hy
    rw [e1]
    rw [List.getElem?_append] at hy
    split at hy
    · rw [List.getElem?_set] at hy
      split at hy
      · next e =>
        subst e
        first | rw [if_pos (by omega)] at hy | skip
        cases hy
        simp only [if_true]
        rw [kids_snoc_yes, el]
        simpa using hk
      · next e =>
        rw [kids_snoc_no _ _ _ _ (.inr (by omega))]
        have eK : (fun k => if i = p then K p k ∨ (w.heap.size ≤ k ∧ k < z) else K i k) = K i := by
          funext k; rw [if_neg (fun q : i = p => e q.symm)]
        show Sl w' (fun k => if i = p then K p k ∨ (w.heap.size ≤ k ∧ k < z) else K i k) _ _ _ _ _
        rw [eK]
        refine (h.kid i y hy).fr hf fun k q => ?_
        rintro (r | r | r)
        · exact e (h.apart _ _ _ r q)
        · exact (h.inK i k q).2.2.2.1 r
        · exact (h.inK i k q).2.2.1 r
    · next hge =>
      simp at hge
      have hi := (List.getElem?_eq_some_iff.1 hy).1
      simp at hi
      have hi0 : i = xs.length := by omega
      subst hi0
      simp at hy
      subst hy
      have hk0 : kids (nds xs ++ [((p : Int), true)]) xs.length = [] := by
        rw [kids_snoc_no _ _ _ _ (.inr (by omega))]
        unfold kids
        rw [kidsN_out _ h.ok _ (by rw [el]; omega)]; rfl
      rw [hk0]
      exact Sl.nil _ _ _ _
  · rintro k (q | q)
    · exact ⟨.inl (h.inM k q).1, (h.inM k q).2.1, Nat.lt_of_lt_of_le (h.inM k q).2.2 hf.size⟩
    · exact ⟨.inr ⟨by omega, q.2⟩, by omega, q.2⟩
  · intro i k q
    have hsz := hf.size
    by_cases hi : i = p
    · subst hi
      rw [if_pos rfl] at q
      rcases q with q | q
      · have := h.inK _ k q
        exact ⟨by simp; omega, .inl this.2.1, this.2.2.1, fun r => by rcases r with r | r; exact this.2.2.2.1 r; omega, by omega⟩
      · exact ⟨by simp; omega, .inr ⟨q.1, by omega⟩, by omega, fun r => by rcases r with r | r; have := (h.inM k r).2.2; omega; omega, by omega⟩
    · rw [if_neg hi] at q
      have := h.inK _ k q
      exact ⟨by simp; omega, .inl this.2.1, this.2.2.1, fun r => by rcases r with r | r; exact this.2.2.2.1 r; omega, by omega⟩
  · intro i j k qi qj
    by_cases hi : i = p
    · by_cases hj : j = p
      · omega
      · subst hi
        rw [if_pos rfl] at qi
        rw [if_neg hj] at qj
        rcases qi with qi | qi
        · exact h.apart _ _ _ qi qj
        · have := (h.inK _ _ qj).2.2.2.2; omega
    · rw [if_neg hi] at qi
      by_cases hj : j = p
      · subst hj
        rw [if_pos rfl] at qj
        rcases qj with qj | qj
        · exact h.apart _ _ _ qi qj
        · have := (h.inK _ _ qi).2.2.2.2; omega
      · rw [if_neg hj] at qj
        exact h.apart _ _ _ qi qj
  · rw [e1]
    exact ok_snoc _ h.ok _ _ (by omega) (by rw [el]; omega) fun _ => by omega
  · simp; omega
/-- One more, that hangs on nobody. -/
theorem TAt.lone {w w' : World} {S : Nat → Prop} {b : Nat} {p : Int} {v v' : Value} {xs : List NdV} {M : Nat → Prop} {K : Nat → Nat → Prop} (h : TAt w S b v xs M K) (hp1 : -1 ≤ p) (hp2 : p < xs.length) (hlt : xs.length < 1000)
    (hf : Fr (fun k => M k ∨ k = b) w w')
    (hb : w'.heap[b]? = some (.cells #[v'] 94 (0, 0)))
    (hm : Sl w' (fun k => M k ∨ (w.heap.size ≤ k ∧ k < w'.heap.size)) 96 3 v' (xs.length + 1) (xs.flatMap ndEn ++ ndEn ((p, false), .slice none 0 0))) :
    TreeAt w' (And' S w w') b (nds xs ++ [(p, false)]) := by
  have hbl := lt_of_block h.blk
  have e1 : nds (xs ++ [((p, false), .slice none 0 0)]) = nds xs ++ [(p, false)] := by
    unfold nds; rw [List.map_append]; rfl
  have el : (nds xs).length = xs.length := by simp
  refine ⟨v', xs ++ [((p, false), .slice none 0 0)], fun k => M k ∨ (w.heap.size ≤ k ∧ k < w'.heap.size), K, ?_, e1⟩
  refine ⟨.inl h.own, hb, ?_, ?_, ?_, ?_, h.apart, ?_, ?_⟩
  · have : (xs ++ [((p, false), Value.slice none 0 0)]).length = xs.length + 1 := by simp
    rw [this, List.flatMap_append]
    simpa using hm
  · intro i y hy
    rw [e1, kids_snoc_no _ _ _ _ (.inl rfl)]
    rw [List.getElem?_append] at hy
    split at hy
    · refine (h.kid i y hy).fr hf fun k q => ?_
      rintro (r | r)
      · exact (h.inK i k q).2.2.2.1 r
      · exact (h.inK i k q).2.2.1 r
    · next hge =>
      have hi := (List.getElem?_eq_some_iff.1 hy).1
      simp at hi
      have hi0 : i = xs.length := by omega
      subst hi0
      simp at hy
      subst hy
      have hk0 : kids (nds xs) xs.length = [] := by
        unfold kids
        rw [kidsN_out _ h.ok _ (by rw [el]; omega)]; rfl
      rw [hk0]
      exact Sl.nil _ _ _ _
  · rintro k (q | q)
    · exact ⟨.inl (h.inM k q).1, (h.inM k q).2.1, Nat.lt_of_lt_of_le (h.inM k q).2.2 hf.size⟩
    · exact ⟨.inr q, by omega, q.2⟩
  · intro i k q
    have := h.inK _ k q
    have := hf.size
    exact ⟨by simp; omega, .inl (h.inK _ k q).2.1, (h.inK _ k q).2.2.1, fun r => by rcases r with r | r; exact (h.inK _ k q).2.2.2.1 r; omega, by omega⟩
  · rw [e1]
    exact ok_snoc _ h.ok _ _ hp1 (by rw [el]; omega) fun q => by simp at q
  · simp; omega
/-- One taken off its parent. -/
theorem TAt.off {w w' : World} {S : Nat → Prop} {b p i : Nat} {v kv : Value} {xs : List NdV} {x y : NdV} {M : Nat → Prop} {K : Nat → Nat → Prop} (h : TAt w S b v xs M K) (hx : xs[i]? = some x) (hp : x.1 = ((p : Int), true)) (hy : xs[p]? = some y)
    (hf : Fr (fun k => K p k ∨ M k) w w') 
    (hk : Sl w' (K p) 3 1 kv ((kids (nds xs) p).length - 1) (ints ((kids (nds xs) p).erase (i : Int))))
    (hm : Sl w' M 96 3 v xs.length (((xs.set i (((p : Int), false), x.2)).set p (y.1, kv)).flatMap ndEn)) :
    TreeAt w' S b ((nds xs).set i ((p : Int), false)) := by
  have hi := (List.getElem?_eq_some_iff.1 hx).1
  have hpl := (List.getElem?_eq_some_iff.1 hy).1
  have hxn : (nds xs)[i]? = some ((p : Int), true) := by unfold nds; rw [List.getElem?_map, hx]; simp [hp]
  have hpi : p < i := by have := (h.ok i _ hxn).2.1; simp at this; omega
  have e1 : nds ((xs.set i (((p : Int), false), x.2)).set p (y.1, kv)) = (nds xs).set i ((p : Int), false) := by
    unfold nds
    rw [List.map_set, List.map_set]
    apply List.ext_getElem?
    intro j
    rw [List.getElem?_set]
    split
    · next e =>
      subst e
      have hne : ¬ i = p := by omega
      rw [List.getElem?_set, if_neg hne, List.getElem?_map, hy]
      simp [hpl]
    · rfl
  refine ⟨v, (xs.set i (((p : Int), false), x.2)).set p (y.1, kv), M, K, ?_, e1⟩
  have hlen : ((xs.set i (((p : Int), false), x.2)).set p (y.1, kv)).length = xs.length := by simp
  have hsz := hf.size
  refine ⟨h.own, hf.blk (fun q => ?_) h.blk, ?_, ?_, ?_, ?_, h.apart, ?_, ?_⟩
  · rcases q with q | q
    · exact (h.inK _ _ q).2.2.1 rfl
    · exact (h.inM _ q).2.1 rfl
  · rw [hlen]; exact hm
  · intro j u hu
    rw [e1]
    rw [List.getElem?_set] at hu
    by_cases hj : p = j
    · subst hj
      rw [if_pos rfl, if_pos (by simpa using hpl)] at hu
      cases hu
      rw [kids_set_eq _ _ _ hxn, List.length_erase_of_mem (mem_kids _ _ _ hxn)]
      exact hk
    · rw [if_neg hj] at hu
      rw [kids_set_ne _ _ _ _ hxn (by omega)]
      have key : ∀ x', xs[j]? = some x' → x'.2 = u.2 → Sl w' (K j) 3 1 u.2 (kids (nds xs) j).length (ints (kids (nds xs) j)) := by
        intro x' hx' e
        rw [← e]
        refine (h.kid j x' hx').fr hf fun k q => ?_
        rintro (r | r)
        · exact hj (h.apart _ _ _ r q)
        · exact (h.inK j k q).2.2.2.1 r
      rw [List.getElem?_set] at hu
      by_cases hij : i = j
      · subst hij
        rw [if_pos rfl, if_pos hi] at hu
        cases hu
        exact key x hx rfl
      · rw [if_neg hij] at hu
        exact key u hu rfl
  · intro k q; exact ⟨(h.inM k q).1, (h.inM k q).2.1, Nat.lt_of_lt_of_le (h.inM k q).2.2 hsz⟩
  · intro j k q
    have := h.inK j k q
    exact ⟨by rw [hlen]; exact this.1, this.2.1, this.2.2.1, this.2.2.2.1, by omega⟩
  · rw [e1]; exact ok_set _ h.ok _ _ hxn
  · rw [hlen]; exact h.few
end Go.Proofs.Ytpjkjnejlmmapaa
