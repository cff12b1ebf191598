/- Plain words on wakes: each once, and where they lie. -/
import Derived.Test.YtfpcnagimjmkpaaChanLaw
import Derived.Test.YtfpcnagimjmkpaaOpen
set_option linter.unusedVariables false
set_option linter.unusedSimpArgs false
namespace Go.Proofs.Ytfpcnagimjmkpaa
open Go.RowKit
set_option maxRecDepth 100000
theorem onceW_nodup (pn : Bool) : ∀ (l : List Wt) (acc : List Wk), (l.map (·.1)).Nodup → (∀ x ∈ l, ∀ y ∈ acc, y.1 ≠ x.1) → onceW pn acc l = acc ++ l.map (fun x => wakeOf x 0 false pn)
  | [], acc, _, _ => by simp [onceW]
  | x :: l, acc, hn, hd => by
    simp only [List.map_cons, List.nodup_cons] at hn
    have hx : acc.any (fun y => y.1 == x.1) = false := by
      rw [List.any_eq_false]; intro y hy; simp; exact hd x (List.mem_cons_self ..) y hy
    unfold onceW
    rw [hx, if_neg (by simp), onceW_nodup pn l _ hn.2 ?_]
    · simp
    · intro z hz y hy
      rcases List.mem_append.1 hy with hy | hy
      · exact hd z (List.mem_cons_of_mem _ hz) y hy
      · simp at hy; subst hy
        intro e
        exact hn.1 (List.mem_map.2 ⟨z, hz, e.symm⟩)
theorem rd_wk {w : World} {A : Option Addr} {n cp : Nat} {l : List Wk} (h : Rd w 5 (.slice A n cp) n (wks l)) (i : Nat) (k : Wk) (hi : i < n) (hk : l[i]? = some k) : ∃ g o, A = some ⟨g, o, none⟩ ∧ n ≤ cp ∧ WkAt w g (o + i * 5) k := by
  obtain ⟨_, _, A', c', hv, hc1, hc2, hA⟩ := h
  cases hv
  obtain ⟨g, o, rfl, hg, hc⟩ := hA (by omega)
  have q := fun j u hj hu => hc (i * 5 + j) u ((rowsGet wkEn (fun _ => rfl) l i j k hk hj).trans hu)
  have z := fun j : Nat => Nat.add_assoc o (i * 5) j
  exact ⟨g, o, rfl, hc1, by have := q 0 _ (by omega) rfl; simpa using this, by rw [z]; exact q 1 _ (by omega) rfl, by rw [z]; exact q 2 _ (by omega) rfl, by rw [z]; exact q 3 _ (by omega) rfl, by rw [z]; exact q 4 _ (by omega) rfl⟩
theorem range_nodup (n : Nat) (f : Nat → Int × Int) : (((List.range n).map (fun k : Nat => (((k : Int), f k) : Wt)) : List Wt).map (·.1)).Nodup := by
  rw [List.map_map]
  have : ((fun x : Wt => x.1) ∘ fun k : Nat => ((k : Int), f k)) = fun k : Nat => (k : Int) := rfl
  rw [this]
  exact List.pairwise_map.2 ((List.nodup_range (n := n)).imp fun h e => h (by exact_mod_cast e))
end Go.Proofs.Ytfpcnagimjmkpaa
