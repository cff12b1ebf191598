/- What the functions of package tree do, each as a contract on a tree that lies in blocks of a set S and has the nodes ns. -/
import Derived.Test.YtpjkjnejlmmapaaTree
import Derived.Test.YtpjkjnejlmmapaaMore
import Derived.IntWalk
set_option linter.unusedVariables false
set_option linter.unusedSimpArgs false
namespace Go.Proofs.Ytpjkjnejlmmapaa
open Go.RowKit
set_option maxRecDepth 100000
theorem info_intT : (Try.prog.info? 3).map (fun i => (i.zero, i.size, i.bytes)) = some (some (.int .i64 0), 1, 8) := by kernel_rfl

theorem tree_new (w : World) : Calls Try.prog 36 #[] w fun e w' => ∃ b, e = .returned (.pointer (some ⟨b, 0, none⟩)) ∧ Fr Nob w w' ∧ TreeAt w' (fun k => w.heap.size ≤ k ∧ k < w'.heap.size) b [] := by
  go_enter Try.func36, Try.ntmps36
  go_wp2
  go_ret
  refine ⟨w.heap.size, rfl, (Fr.refl Nob w).alloc _, .slice none 0 0, [], Nob, fun _ => Nob, ⟨by simp, heap_alloc_new _ _, Sl.nil _ _ _ _, fun i x hx => by simp at hx, fun k q => q.elim, fun i k q => q.elim, fun i j k q => q.elim, fun i x hx => by simp at hx, by simp⟩, rfl⟩
theorem tree_len (w : World) (S : Nat → Prop) (b : Nat) (ns : List Nd) (n : Nat) (hn : ns.length = n) (h : TreeAt w S b ns) :
    Calls Try.prog 41 #[.pointer (some ⟨b, 0, none⟩)] w fun e w' => e = .returned (.int .i64 (n : Int)) ∧ w = w' := by
  obtain ⟨v, xs, M, K, h, rfl⟩ := h
  have hm := h.main
  rw [show xs.length = n by simpa using hn] at hm
  have c0 := blk_cell h.blk 0 rfl
  obtain ⟨A, c, rfl⟩ := hm.slice
  clear h hm hn
  go_enter Try.func41, Try.ntmps41
  go_wp2
  go_ret
  exact ⟨rfl, rfl⟩
theorem tree_len_nil (w : World) :
    Calls Try.prog 41 #[.pointer none] w fun e w' => e = .returned (.int .i64 0) ∧ w = w' := by
  go_enter Try.func41, Try.ntmps41
  go_wp2
  go_ret
  exact ⟨rfl, rfl⟩
theorem tree_has_yes (w : World) (S : Nat → Prop) (b : Nat) (ns : List Nd) (i n : Nat) (hn : ns.length = n) (h : TreeAt w S b ns) (hi : i < n) :
    Calls Try.prog 57 #[.pointer (some ⟨b, 0, none⟩), .int .i64 (i : Int)] w fun e w' => e = .returned (.bool true) ∧ w = w' := by
  have H := Lib.hid (tree_len w S b ns n hn h)
  clear h hn
  have h1 : (i : Int) < n := by omega
  go_enter Try.func57, Try.ntmps57
  go_wp2_with fail
  refine H.out.mono ?_
  rintro e w' ⟨rfl, rfl⟩
  go_wp2_with fail
  go_ret
  exact ⟨rfl, rfl⟩
theorem tree_has_no (w : World) (S : Nat → Prop) (b : Nat) (ns : List Nd) (id : Int) (n : Nat) (hn : ns.length = n) (h : TreeAt w S b ns) (hi : id < 0 ∨ (n : Int) ≤ id) :
    Calls Try.prog 57 #[.pointer (some ⟨b, 0, none⟩), .int .i64 id] w fun e w' => e = .returned (.bool false) ∧ w = w' := by
  have H := Lib.hid (tree_len w S b ns n hn h)
  clear h hn
  by_cases h0 : id < 0
  · clear hi
    have hd : decide (0 ≤ id) = false := by simp; omega
    go_enter Try.func57, Try.ntmps57
    go_wp2_with fail
    go_ret
    exact ⟨rfl, rfl⟩
  · have h1 : (n : Int) ≤ id := by omega
    have hd : decide (0 ≤ id) = true := by simp; omega
    have hd2 : decide (id < (n : Int)) = false := by simp; omega
    clear hi
    go_enter Try.func57, Try.ntmps57
    go_wp2_with fail
    refine H.out.mono ?_
    rintro e w' ⟨rfl, rfl⟩
    go_wp2_with fail
    go_ret
    exact ⟨rfl, rfl⟩
/-- What is read of one node. -/
theorem TAt.cells {w : World} {S : Nat → Prop} {b : Nat} {v : Value} {xs : List NdV} {M : Nat → Prop} {K : Nat → Nat → Prop} (h : TAt w S b v xs M K) (i : Nat) (x : NdV) (hx : xs[i]? = some x) :
    ∃ g off cap, v = .slice (some ⟨g, off, none⟩) xs.length cap ∧ M g ∧ g < w.heap.size ∧ xs.length ≤ cap ∧ cap ≤ maxLen ∧ w.cell? ⟨g, off + i * 3, none⟩ = some (.int .i64 x.1.1) ∧ w.cell? ⟨g, off + i * 3 + 1, none⟩ = some (.bool x.1.2) ∧ w.cell? ⟨g, off + i * 3 + 2, none⟩ = some x.2 ∧ ∀ j, w.frozen? ⟨g, j, none⟩ = false := by
  have hi := (List.getElem?_eq_some_iff.1 hx).1
  obtain ⟨g, off, cap, hv, hM, hg, hc1, hc2, hcell, hfz⟩ := h.main.form (by omega)
  have q0 := hcell _ _ (flat_get (sz := 3) ndEn xs (fun _ _ => rfl) i 0 x hx (by omega))
  have q1 := hcell _ _ (flat_get (sz := 3) ndEn xs (fun _ _ => rfl) i 1 x hx (by omega))
  have q2 := hcell _ _ (flat_get (sz := 3) ndEn xs (fun _ _ => rfl) i 2 x hx (by omega))
  rw [← Nat.add_assoc] at q1 q2
  exact ⟨g, off, cap, hv, hM, hg, hc1, hc2, q0, q1, q2, hfz⟩
theorem tree_parent_no (w : World) (S : Nat → Prop) (b : Nat) (ns : List Nd) (id : Int) (n : Nat) (hn : ns.length = n) (h : TreeAt w S b ns) (hi : id < 0 ∨ (n : Int) ≤ id) :
    Calls Try.prog 42 #[.pointer (some ⟨b, 0, none⟩), .int .i64 id] w fun e w' => e = .returned (.tuple #[.int .i64 0, .bool false, .bool false]) ∧ w = w' := by
  have H := Lib.hid (tree_has_no w S b ns id n hn h hi)
  clear h hn hi
  go_enter Try.func42, Try.ntmps42
  go_wp2_with fail
  refine H.out.mono ?_
  rintro e w' ⟨rfl, rfl⟩
  go_wp2_with fail
  go_ret3
  exact ⟨rfl, rfl⟩
theorem tree_parent (w : World) (S : Nat → Prop) (b : Nat) (ns : List Nd) (i : Nat) (p : Int) (l : Bool) (hx : ns[i]? = some (p, l)) (h : TreeAt w S b ns) :
    Calls Try.prog 42 #[.pointer (some ⟨b, 0, none⟩), .int .i64 (i : Int)] w fun e w' => e = .returned (.tuple #[.int .i64 p, .bool l, .bool true]) ∧ Fr Nob w w' := by
  have hi := (List.getElem?_eq_some_iff.1 hx).1
  have H := Lib.hid (tree_has_yes w S b ns i _ rfl h hi)
  obtain ⟨v, xs, M, K, h, rfl⟩ := h
  obtain ⟨y, hy, hyx⟩ : ∃ y, xs[i]? = some y ∧ y.1 = (p, l) := by
    unfold nds at hx; rw [List.getElem?_map] at hx
    cases hq : xs[i]? with
    | none => simp [hq] at hx
    | some y => exact ⟨y, rfl, by simpa [hq] using hx⟩
  obtain ⟨g, off, cap, hv, hM, hg, hc1, hc2, q0, q1, q2, hfz⟩ := h.cells i y hy
  have c0 := blk_cell h.blk 0 rfl
  rw [hyx] at q0 q1
  have hil : i < xs.length := by simpa using hi
  have few := h.few
  subst hv
  clear h hx hy hyx hi hfz q2
  have e0 : w.cell? ⟨g, off + i * 3, none⟩ = some (.int .i64 p) := q0
  have e1 : w.cell? ⟨g, off + i * 3 + 1, none⟩ = some (.bool l) := q1
  clear q0 q1
  generalize xs.length = n at *
  have hin : (i : Int) < n := by omega
  unfold maxLen at hc2
  go_enter Try.func42, Try.ntmps42
  go_wp2_with fail
  refine H.out.mono ?_
  rintro e w' ⟨rfl, rfl⟩
  go_wp2_with fail
  go_quiet (fail)
  go_wp2_with fail
  go_ret3
  exact ⟨rfl, (Fr.refl _ _).drewN _⟩
theorem tree_kids_no (w : World) (S : Nat → Prop) (b : Nat) (ns : List Nd) (id : Int) (n : Nat) (hn : ns.length = n) (h : TreeAt w S b ns) (hi : id < 0 ∨ (n : Int) ≤ id) :
    Calls Try.prog 44 #[.pointer (some ⟨b, 0, none⟩), .int .i64 id] w fun e w' => e = .returned (.slice none 0 0) ∧ w = w' := by
  have H := Lib.hid (tree_has_no w S b ns id n hn h hi)
  clear h hn hi
  go_enter Try.func44, Try.ntmps44
  go_wp2_with fail
  refine H.out.mono ?_
  rintro e w' ⟨rfl, rfl⟩
  go_wp2_with fail
  go_ret
  exact ⟨rfl, rfl⟩
theorem tree_kids (w : World) (S : Nat → Prop) (b : Nat) (ns : List Nd) (i : Nat) (hi : i < ns.length) (h : TreeAt w S b ns) :
    Calls Try.prog 44 #[.pointer (some ⟨b, 0, none⟩), .int .i64 (i : Int)] w fun e w' => ∃ v, e = .returned v ∧ Fr Nob w w' ∧ Sl w' (From w.heap.size) 3 1 v (kids ns i).length (ints (kids ns i)) := by
  have H := Lib.hid (tree_has_yes w S b ns i _ rfl h hi)
  have hkl : (kids ns i).length ≤ ns.length := by rw [kids_len]; exact kidsN_le ns i
  have hfew := h.ok.2
  obtain ⟨v, xs, M, K, h, rfl⟩ := h
  have hil : i < xs.length := by simpa using hi
  have hy : xs[i]? = some xs[i] := by simp [hil]
  have hk := h.kid i _ hy
  obtain ⟨g, off, cap, hv, hM, hg, hc1, hc2, q0, q1, q2, hfz⟩ := h.cells i _ hy
  generalize xs[i] = y at *
  have c0 := blk_cell h.blk 0 rfl
  obtain ⟨Ak, ck, hAk⟩ := hk.slice
  rw [hAk] at hk q2
  have hcl := clone_ints w _ (kids (nds xs) i) _ rfl (by omega) hk.rd
  have Hcl := Lib.hid hcl
  subst hv
  clear h hy hi hfz q0 q1 hk hcl hAk
  generalize kids (nds xs) i = kk at *
  generalize xs.length = n at *
  have hin : (i : Int) < n := by omega
  unfold maxLen at hc2
  go_enter Try.func44, Try.ntmps44
  go_wp2_with fail
  refine H.out.mono ?_
  rintro e w' ⟨rfl, rfl⟩
  go_wp2_with fail
  refine Hcl.out.mono ?_
  rintro e w' ⟨v', rfl, hf, hs⟩
  obtain ⟨A', c', rfl⟩ := hs.slice
  have Hf := Lib.hid hf; have Hs := Lib.hid hs
  clear hf hs
  go_wp2_with fail
  go_ret
  exact ⟨_, rfl, Hf.out, Hs.out⟩

theorem tree_add_nil (w : World) (p : Int) (l : Bool) :
    Calls Try.prog 37 #[.pointer none, .int .i64 p, .bool l] w fun e w' => e = .returned (.tuple #[.int .i64 0, .int .i64 1]) ∧ Fr Nob w w' := by
  go_enter Try.func37, Try.ntmps37
  go_wp2_with fail
  go_ret2
  exact ⟨rfl, Fr.refl _ _⟩
theorem tree_add_bad (w : World) (S : Nat → Prop) (b : Nat) (ns : List Nd) (p : Int) (l : Bool) (h : TreeAt w S b ns) (hp : p < -1 ∨ (ns.length : Int) ≤ p) :
    Calls Try.prog 37 #[.pointer (some ⟨b, 0, none⟩), .int .i64 p, .bool l] w fun e w' => e = .returned (.tuple #[.int .i64 0, .int .i64 1]) ∧ Fr Nob w w' := by
  have H := Lib.hid (tree_has_no w S b ns p _ rfl h (by omega))
  have hb : (p != -1) = true := by simp; omega
  clear h hp
  go_enter Try.func37, Try.ntmps37
  go_wp2_with fail
  refine H.out.mono ?_
  rintro e w' ⟨rfl, rfl⟩
  go_wp2_with fail
  go_ret2
  exact ⟨rfl, Fr.refl _ _⟩
theorem tree_add_full (w : World) (S : Nat → Prop) (b : Nat) (ns : List Nd) (p : Int) (l : Bool) (h : TreeAt w S b ns) (hp : -1 ≤ p) (hp2 : p < (ns.length : Int)) (hf : 1000 ≤ ns.length) :
    Calls Try.prog 37 #[.pointer (some ⟨b, 0, none⟩), .int .i64 p, .bool l] w fun e w' => e = .returned (.tuple #[.int .i64 0, .int .i64 3]) ∧ Fr Nob w w' := by
  have hh := fun (i : Nat) (hi : i < ns.length) => tree_has_yes w S b ns i _ rfl h hi
  obtain ⟨v, xs, M, K, h, rfl⟩ := h
  have c0 := blk_cell h.blk 0 rfl
  obtain ⟨A, c, hA⟩ := h.main.slice
  subst hA
  have hl : (nds xs).length = xs.length := by simp
  rw [hl] at hp2 hf hh
  have Hh := Lib.hid hh
  clear h hl hh
  generalize xs.length = n at *
  have h3 : (1000 : Int) ≤ n := by omega
  by_cases h0 : p = -1
  · subst h0
    go_enter Try.func37, Try.ntmps37
    go_wp2_with fail
    go_ret2
    exact ⟨rfl, Fr.refl _ _⟩
  · obtain ⟨i, rfl⟩ := Int.eq_ofNat_of_zero_le (show 0 ≤ p by omega)
    have H := Lib.hid (Hh.out i (by omega))
    have hb : ((i : Int) != -1) = true := by simp
    clear h0
    go_enter Try.func37, Try.ntmps37
    go_wp2_with fail
    refine H.out.mono ?_
    rintro e w' ⟨rfl, rfl⟩
    go_wp2_with fail
    go_ret2
    exact ⟨rfl, Fr.refl _ _⟩
end Go.Proofs.Ytpjkjnejlmmapaa
