/- What the methods of package arena do, at whole numbers, texts and pairs: each as a contract on an arena that lies in blocks of a set S and holds n things, the cells cs. -/
import Derived.Test.YtaghnlmfhfbhhaaProg
import Derived.Test.YtaghnlmfhfbhhaaBase
set_option linter.unusedVariables false
set_option linter.unusedSimpArgs false
namespace Go.Proofs.Ytaghnlmfhfbhhaa
open Go.RowKit
set_option maxRecDepth 100000

/-- An arena: T its struct's type, E its things' type, sz their cells. -/
def ArenaAt (T E sz : Nat) (w : World) (S : Nat → Prop) (b : Nat) (most : Nat) (n : Nat) (cs : List Value) : Prop :=
  ∃ v, S b ∧ w.heap[b]? = some (.cells #[v, .int .i64 (most : Int)] T (0, 0)) ∧ Sl w (fun k => S k ∧ k ≠ b) E sz v n cs ∧ n ≤ most ∧ most ≤ 1000
section
variable {T E sz : Nat}
theorem ArenaAt.bound {w : World} {S : Nat → Prop} {b most n : Nat} {cs : List Value} (h : ArenaAt T E sz w S b most n cs) : n ≤ most ∧ most ≤ 1000 := by
  obtain ⟨v, hS, hb, hs, hn, hm⟩ := h; exact ⟨hn, hm⟩
theorem ArenaAt.fr {w w' : World} {S F : Nat → Prop} {b most n : Nat} {cs : List Value} (h : ArenaAt T E sz w S b most n cs) (hf : Fr F w w') (hd : ∀ k, S k → F k → False) : ArenaAt T E sz w' S b most n cs := by
  obtain ⟨v, hS, hb, hs, r⟩ := h
  exact ⟨v, hS, hf.blk (hd _ hS) hb, hs.fr hf (fun k q => hd k q.1), r⟩
theorem ArenaAt.mono {w : World} {S S' : Nat → Prop} {b most n : Nat} {cs : List Value} (h : ArenaAt T E sz w S b most n cs) (hs : ∀ k, k < w.heap.size → S k → S' k) : ArenaAt T E sz w S' b most n cs := by
  obtain ⟨v, hS, hb, hsl, r⟩ := h
  exact ⟨v, hs _ (lt_of_block hb) hS, hb, hsl.mono (fun k hk q => ⟨hs k hk q.1, q.2⟩), r⟩
end

theorem Try.info_int : (Try.prog.info? 3).map (fun i => (i.zero, i.size, i.bytes)) = some (some (.int .i64 0), 1, 8) := by kernel_rfl
theorem arena_int_new_bad (most : Int) (w : World) (h : most < 1 ∨ 1000 < most) :
    Calls Try.prog 15 #[.int .i64 most] w fun e w' => e = .returned (.tuple #[.pointer none, .int .i64 1]) ∧ w = w' := by
  go_enter Try.func15, Try.ntmps15
  go_wp2
  all_goals go_ret2
  all_goals exact ⟨rfl, rfl⟩
theorem arena_int_new_good (most : Nat) (w : World) (h1 : 1 ≤ most) (h2 : most ≤ 1000) :
    Calls Try.prog 15 #[.int .i64 (most : Int)] w fun e w' => ∃ b, e = .returned (.tuple #[.pointer (some ⟨b, 0, none⟩), .int .i64 0]) ∧ Fr Nob w w' ∧ ArenaAt 78 3 1 w' (fun k => w.heap.size ≤ k ∧ k < w'.heap.size) b most 0 [] := by
  have h3 : ¬ (most : Int) < 1 := by omega
  have h4 : ¬ (1000 : Int) < most := by omega
  go_enter Try.func15, Try.ntmps15
  go_wp2
  go_ret2
  exact ⟨w.heap.size, rfl, (Fr.refl Nob w).alloc _, .slice none 0 0, by simp, blk_alloc_eq _ rfl, Sl.nil _ _ _ _, by omega, h2⟩
theorem arena_int_len (w : World) (S : Nat → Prop) (b most n : Nat) (cs : List Value) (h : ArenaAt 78 3 1 w S b most n cs) :
    Calls Try.prog 18 #[.pointer (some ⟨b, 0, none⟩)] w fun e w' => e = .returned (.int .i64 (n : Int)) ∧ w = w' := by
  obtain ⟨v, hS, hb, hs, hn, hm⟩ := h
  obtain ⟨X, c, rfl⟩ := hs.slice
  have c0 := blk_cell hb 0 rfl
  clear hb hs
  go_enter Try.func18, Try.ntmps18
  go_wp2
  go_ret
  exact ⟨rfl, rfl⟩
theorem arena_int_left (w : World) (S : Nat → Prop) (b most n : Nat) (cs : List Value) (h : ArenaAt 78 3 1 w S b most n cs) :
    Calls Try.prog 19 #[.pointer (some ⟨b, 0, none⟩)] w fun e w' => e = .returned (.int .i64 ((most : Int) - n)) ∧ ∃ m, w' = w.drewN m := by
  obtain ⟨v, hS, hb, hs, hn, hm⟩ := h
  obtain ⟨X, c, rfl⟩ := hs.slice
  have c0 := blk_cell hb 0 rfl
  have c1 := blk_cell hb 1 rfl
  clear hb hs
  go_enter Try.func19, Try.ntmps19
  go_wp2
  go_quiet (fail)
  go_wp2
  go_ret
  exact ⟨rfl, _, rfl⟩
theorem arena_int_left_nil (w : World) :
    Calls Try.prog 19 #[.pointer none] w fun e w' => e = .returned (.int .i64 0) ∧ w = w' := by
  go_enter Try.func19, Try.ntmps19
  go_wp2
  go_ret
  exact ⟨rfl, rfl⟩

theorem arena_int_add_nil (w : World) (x : Int) :
    Calls Try.prog 16 #[.pointer none, .int .i64 x] w fun e w' => e = .returned (.tuple #[.int .i64 0, .int .i64 3]) ∧ Fr Nob w w' := by
  go_enter Try.func16, Try.ntmps16
  go_wp2_with fail
  refine (arena_int_left_nil _).mono ?_
  rintro e w' ⟨rfl, rfl⟩
  go_wp2_with fail
  go_ret2
  exact ⟨rfl, by repeat (first | exact Fr.refl _ _ | apply Fr.drew | apply Fr.alloc)⟩
theorem arena_int_add_full (w : World) (S : Nat → Prop) (b most : Nat) (cs : List Value) (x : Int) (h : ArenaAt 78 3 1 w S b most most cs) :
    Calls Try.prog 16 #[.pointer (some ⟨b, 0, none⟩), .int .i64 x] w fun e w' => e = .returned (.tuple #[.int .i64 0, .int .i64 3]) ∧ Fr Nob w w' := by
  have hl := fun w' (hf : Fr Nob w w') => arena_int_left w' S b most most cs (h.fr hf fun _ _ q => q)
  have hz : ((most : Int) - most) = 0 := by omega
  rw [hz] at hl
  have Hl := Lib.hid hl
  clear hl hz h
  go_enter Try.func16, Try.ntmps16
  go_wp2_with fail
  refine (Hl.out _ (by repeat (first | exact Fr.refl _ _ | apply Fr.drew | apply Fr.alloc))).mono ?_
  rintro e w' ⟨rfl, m, rfl⟩
  go_wp2_with fail
  go_ret2
  exact ⟨rfl, by repeat (first | exact Fr.refl _ _ | apply Fr.drewN | apply Fr.drew | apply Fr.alloc)⟩

theorem arena_int_add (w : World) (S : Nat → Prop) (b most n : Nat) (cs : List Value) (x : Int) (h : ArenaAt 78 3 1 w S b most n cs) (hlt : n < most) :
    Calls Try.prog 16 #[.pointer (some ⟨b, 0, none⟩), .int .i64 x] w fun e w' => e = .returned (.tuple #[.int .i64 (n : Int), .int .i64 0]) ∧ Fr S w w' ∧ ArenaAt 78 3 1 w' (And' S w w') b most (n + 1) (cs ++ [.int .i64 x]) := by
  have hl := fun w' (hf : Fr Nob w w') => arena_int_left w' S b most n cs (h.fr hf fun _ _ q => q)
  obtain ⟨v, hS, hb, hs, hn, hm⟩ := h
  obtain ⟨X, c, rfl⟩ := hs.slice
  have hz : (((most : Int) - n) == 0) = false := by simp; omega
  have Hl := Lib.hid hl
  have c0 := blk_cell hb 0 rfl
  have f0 := blk_froz hb 0
  have lb := lt_of_block hb
  have Hb := Lib.hid hb; have Hs := Lib.hid hs
  clear hl hb hs
  go_enter Try.func16, Try.ntmps16
  go_wp2_with fail
  refine (Hl.out _ (Fr.refl _ _)).mono ?_
  rintro e w' ⟨rfl, m, rfl⟩
  go_wp2_with (at_builtin; refine wpList_append1 _ rfl _ _ _ rfl (fun k => S k ∧ k ≠ b) 3 _ 1 8 Try.underlying28 Try.info_int rfl (by omega) (.slice X n c) n cs [.int .i64 x] rfl (Hs.out.drewN m) rfl rfl rfl (by omega) (by omega) ?_; intro v3 w3 hs3 hf3 hz3; obtain ⟨X3, c3, rfl⟩ := hs3.slice; have hb3 := hf3.blk (fun q => q.2 rfl) (show (w.drewN m).heap[b]? = _ from Hb.out); have d0 := blk_cell hb3 0 rfl; have g0 := blk_froz hb3 0; have d1 := blk_cell hb3 1 rfl; have hsz := hf3.size; have Hb3 := Lib.hid hb3; have Hs3 := Lib.hid hs3; have Hf3 := Lib.hid hf3; clear hb3 hs3 hf3)
  go_ret2
  have e1 : ((n : Int) + 1 - 1) = n := by omega
  refine ⟨by simp [e1], (((Fr.refl S w).drewN m).trans0 (Hf3.out.mono fun k _ q => q.1)).setCell (.inl hS) _, .slice X3 (n + 1) c3, .inl hS, ?_, ?_, by omega, hm⟩
  · exact blk_set Hb3.out 0 _
  · refine (Hs3.out.fr ((Fr.refl (fun k => k = b) w3).setCell (p := ⟨b, 0, none⟩) (.inl rfl) _) ?_).mono ?_
    · intro k q e
      rcases q with q | q
      · exact q.2 e
      · subst e
        have : (w.drewN m).heap.size = w.heap.size := rfl
        omega
    · intro k hk q
      have : (w.drewN m).heap.size = w.heap.size := rfl
      rcases q with q | q
      · exact ⟨.inl q.1, q.2⟩
      · exact ⟨.inr ⟨by omega, by simpa using hk⟩, by rintro rfl; omega⟩
theorem arena_int_get_no (w : World) (S : Nat → Prop) (b most n : Nat) (cs : List Value) (i : Int) (h : ArenaAt 78 3 1 w S b most n cs) (hi : i < 0 ∨ (n : Int) ≤ i) :
    Calls Try.prog 20 #[.pointer (some ⟨b, 0, none⟩), .int .i64 i] w fun e w' => e = .returned (.tuple #[.int .i64 0, .bool false]) ∧ Fr Nob w w' := by
  have hl := fun w' (hf : Fr Nob w w') => arena_int_len w' S b most n cs (h.fr hf fun _ _ q => q)
  have Hl := Lib.hid hl
  clear hl h
  by_cases h0 : i < 0
  · go_enter Try.func20, Try.ntmps20
    go_wp2
    go_ret2
    exact ⟨rfl, by repeat (first | exact Fr.refl _ _ | apply Fr.drewN | apply Fr.drew | apply Fr.alloc)⟩
  · have h1 : (n : Int) ≤ i := by omega
    clear hi
    go_enter Try.func20, Try.ntmps20
    go_wp2_with fail
    refine (Hl.out _ (Fr.refl _ _)).mono ?_
    rintro e w' ⟨rfl, rfl⟩
    go_wp2_with fail
    go_ret2
    exact ⟨rfl, by repeat (first | exact Fr.refl _ _ | apply Fr.drewN | apply Fr.drew | apply Fr.alloc)⟩
theorem arena_int_get (w : World) (S : Nat → Prop) (b most n : Nat) (cs : List Value) (i : Nat) (x : Int) (h : ArenaAt 78 3 1 w S b most n cs) (hi : i < n) (hx : cs[i]? = some (.int .i64 x)) :
    Calls Try.prog 20 #[.pointer (some ⟨b, 0, none⟩), .int .i64 (i : Int)] w fun e w' => e = .returned (.tuple #[.int .i64 x, .bool true]) ∧ Fr Nob w w' := by
  have hl := fun w' (hf : Fr Nob w w') => arena_int_len w' S b most n cs (h.fr hf fun _ _ q => q)
  have Hl := Lib.hid hl
  obtain ⟨v, hS, hb, hs, hn, hm⟩ := h
  obtain ⟨g, off, c, rfl, _, hg, hc1, hc2, hc, _⟩ := hs.form (by omega)
  have c0 := blk_cell hb 0 rfl
  have hk := hc i _ hx
  unfold maxLen at hc2
  clear hl hb hs hc hx
  have h0 : ¬ (i : Int) < 0 := by omega
  have h1 : ¬ (n : Int) ≤ i := by omega
  go_enter Try.func20, Try.ntmps20
  go_wp2_with fail
  refine (Hl.out _ (Fr.refl _ _)).mono ?_
  rintro e w' ⟨rfl, rfl⟩
  go_wp2
  go_ret2
  exact ⟨rfl, by repeat (first | exact Fr.refl _ _ | apply Fr.drewN | apply Fr.drew | apply Fr.alloc)⟩
theorem arena_int_set_no (w : World) (S : Nat → Prop) (b most n : Nat) (cs : List Value) (i : Int) (x : Int) (h : ArenaAt 78 3 1 w S b most n cs) (hi : i < 0 ∨ (n : Int) ≤ i) :
    Calls Try.prog 17 #[.pointer (some ⟨b, 0, none⟩), .int .i64 i, .int .i64 x] w fun e w' => e = .returned (.bool false) ∧ Fr Nob w w' := by
  have hl := fun w' (hf : Fr Nob w w') => arena_int_len w' S b most n cs (h.fr hf fun _ _ q => q)
  have Hl := Lib.hid hl
  clear hl h
  by_cases h0 : i < 0
  · go_enter Try.func17, Try.ntmps17
    go_wp2
    go_ret
    exact ⟨rfl, by repeat (first | exact Fr.refl _ _ | apply Fr.drewN | apply Fr.drew | apply Fr.alloc)⟩
  · have h1 : (n : Int) ≤ i := by omega
    clear hi
    go_enter Try.func17, Try.ntmps17
    go_wp2_with fail
    refine (Hl.out _ (Fr.refl _ _)).mono ?_
    rintro e w' ⟨rfl, rfl⟩
    go_wp2_with fail
    go_ret
    exact ⟨rfl, by repeat (first | exact Fr.refl _ _ | apply Fr.drewN | apply Fr.drew | apply Fr.alloc)⟩
theorem arena_int_set (w : World) (S : Nat → Prop) (b most n : Nat) (cs : List Value) (i : Nat) (x : Int) (h : ArenaAt 78 3 1 w S b most n cs) (hi : i < n) :
    Calls Try.prog 17 #[.pointer (some ⟨b, 0, none⟩), .int .i64 (i : Int), .int .i64 x] w fun e w' => e = .returned (.bool true) ∧ Fr S w w' ∧ ArenaAt 78 3 1 w' S b most n (cs.set i (.int .i64 x)) := by
  have hl := fun w' (hf : Fr Nob w w') => arena_int_len w' S b most n cs (h.fr hf fun _ _ q => q)
  have Hl := Lib.hid hl
  obtain ⟨v, hS, hb, hs, hn, hm⟩ := h
  have Hs := Lib.hid hs
  obtain ⟨g, off, c, rfl, hSg, hg, hc1, hc2, hc, hfz⟩ := hs.form (by omega)
  have c0 := blk_cell hb 0 rfl
  have hk := hc i _ (List.getElem?_eq_getElem (by rw [hs.1]; omega))
  have fk := hfz (off + i)
  generalize cs[i]'(by rw [hs.1]; omega) = old at hk
  unfold maxLen at hc2
  have Hb := Lib.hid hb
  clear hl hb hs hc hfz
  have h0 : ¬ (i : Int) < 0 := by omega
  have h1 : ¬ (n : Int) ≤ i := by omega
  go_enter Try.func17, Try.ntmps17
  go_wp2_with fail
  refine (Hl.out _ (Fr.refl _ _)).mono ?_
  rintro e w' ⟨rfl, rfl⟩
  go_wp2
  try go_region
  go_wp2
  go_ret
  refine ⟨rfl, by repeat (first | exact Fr.refl _ _ | apply Fr.drewN | apply Fr.drew | apply Fr.alloc | refine Fr.setCell ?_ (.inl hSg.1) _), .slice (some ⟨g, off, none⟩) n c, hS, ?_, ?_, hn, hm⟩
  · first | exact (blk_set_ne _ _ (Ne.symm hSg.2)).trans Hb.out | skip
  · first | exact Hs.out.set i (by omega) _ | skip

theorem Try.info_str : (Try.prog.info? 9).map (fun i => (i.zero, i.size, i.bytes)) = some (some (.string ByteArray.empty), 1, 16) := by kernel_rfl
theorem arena_str_new_bad (most : Int) (w : World) (h : most < 1 ∨ 1000 < most) :
    Calls Try.prog 21 #[.int .i64 most] w fun e w' => e = .returned (.tuple #[.pointer none, .int .i64 1]) ∧ w = w' := by
  go_enter Try.func21, Try.ntmps21
  go_wp2
  all_goals go_ret2
  all_goals exact ⟨rfl, rfl⟩
theorem arena_str_new_good (most : Nat) (w : World) (h1 : 1 ≤ most) (h2 : most ≤ 1000) :
    Calls Try.prog 21 #[.int .i64 (most : Int)] w fun e w' => ∃ b, e = .returned (.tuple #[.pointer (some ⟨b, 0, none⟩), .int .i64 0]) ∧ Fr Nob w w' ∧ ArenaAt 80 9 1 w' (fun k => w.heap.size ≤ k ∧ k < w'.heap.size) b most 0 [] := by
  have h3 : ¬ (most : Int) < 1 := by omega
  have h4 : ¬ (1000 : Int) < most := by omega
  go_enter Try.func21, Try.ntmps21
  go_wp2
  go_ret2
  exact ⟨w.heap.size, rfl, (Fr.refl Nob w).alloc _, .slice none 0 0, by simp, blk_alloc_eq _ rfl, Sl.nil _ _ _ _, by omega, h2⟩
theorem arena_str_len (w : World) (S : Nat → Prop) (b most n : Nat) (cs : List Value) (h : ArenaAt 80 9 1 w S b most n cs) :
    Calls Try.prog 47 #[.pointer (some ⟨b, 0, none⟩)] w fun e w' => e = .returned (.int .i64 (n : Int)) ∧ w = w' := by
  obtain ⟨v, hS, hb, hs, hn, hm⟩ := h
  obtain ⟨X, c, rfl⟩ := hs.slice
  have c0 := blk_cell hb 0 rfl
  clear hb hs
  go_enter Try.func47, Try.ntmps47
  go_wp2
  go_ret
  exact ⟨rfl, rfl⟩
theorem arena_str_left (w : World) (S : Nat → Prop) (b most n : Nat) (cs : List Value) (h : ArenaAt 80 9 1 w S b most n cs) :
    Calls Try.prog 25 #[.pointer (some ⟨b, 0, none⟩)] w fun e w' => e = .returned (.int .i64 ((most : Int) - n)) ∧ ∃ m, w' = w.drewN m := by
  obtain ⟨v, hS, hb, hs, hn, hm⟩ := h
  obtain ⟨X, c, rfl⟩ := hs.slice
  have c0 := blk_cell hb 0 rfl
  have c1 := blk_cell hb 1 rfl
  clear hb hs
  go_enter Try.func25, Try.ntmps25
  go_wp2
  go_quiet (fail)
  go_wp2
  go_ret
  exact ⟨rfl, _, rfl⟩
theorem arena_str_left_nil (w : World) :
    Calls Try.prog 25 #[.pointer none] w fun e w' => e = .returned (.int .i64 0) ∧ w = w' := by
  go_enter Try.func25, Try.ntmps25
  go_wp2
  go_ret
  exact ⟨rfl, rfl⟩

theorem arena_str_add_nil (w : World) (x : ByteArray) :
    Calls Try.prog 23 #[.pointer none, .string x] w fun e w' => e = .returned (.tuple #[.int .i64 0, .int .i64 3]) ∧ Fr Nob w w' := by
  go_enter Try.func23, Try.ntmps23
  go_wp2_with fail
  refine (arena_str_left_nil _).mono ?_
  rintro e w' ⟨rfl, rfl⟩
  go_wp2_with fail
  go_ret2
  exact ⟨rfl, by repeat (first | exact Fr.refl _ _ | apply Fr.drew | apply Fr.alloc)⟩
theorem arena_str_add_full (w : World) (S : Nat → Prop) (b most : Nat) (cs : List Value) (x : ByteArray) (h : ArenaAt 80 9 1 w S b most most cs) :
    Calls Try.prog 23 #[.pointer (some ⟨b, 0, none⟩), .string x] w fun e w' => e = .returned (.tuple #[.int .i64 0, .int .i64 3]) ∧ Fr Nob w w' := by
  have hl := fun w' (hf : Fr Nob w w') => arena_str_left w' S b most most cs (h.fr hf fun _ _ q => q)
  have hz : ((most : Int) - most) = 0 := by omega
  rw [hz] at hl
  have Hl := Lib.hid hl
  clear hl hz h
  go_enter Try.func23, Try.ntmps23
  go_wp2_with fail
  refine (Hl.out _ (by repeat (first | exact Fr.refl _ _ | apply Fr.drew | apply Fr.alloc))).mono ?_
  rintro e w' ⟨rfl, m, rfl⟩
  go_wp2_with fail
  go_ret2
  exact ⟨rfl, by repeat (first | exact Fr.refl _ _ | apply Fr.drewN | apply Fr.drew | apply Fr.alloc)⟩

theorem arena_str_add (w : World) (S : Nat → Prop) (b most n : Nat) (cs : List Value) (x : ByteArray) (h : ArenaAt 80 9 1 w S b most n cs) (hlt : n < most) :
    Calls Try.prog 23 #[.pointer (some ⟨b, 0, none⟩), .string x] w fun e w' => e = .returned (.tuple #[.int .i64 (n : Int), .int .i64 0]) ∧ Fr S w w' ∧ ArenaAt 80 9 1 w' (And' S w w') b most (n + 1) (cs ++ [.string x]) := by
  have hl := fun w' (hf : Fr Nob w w') => arena_str_left w' S b most n cs (h.fr hf fun _ _ q => q)
  obtain ⟨v, hS, hb, hs, hn, hm⟩ := h
  obtain ⟨X, c, rfl⟩ := hs.slice
  have hz : (((most : Int) - n) == 0) = false := by simp; omega
  have Hl := Lib.hid hl
  have c0 := blk_cell hb 0 rfl
  have f0 := blk_froz hb 0
  have lb := lt_of_block hb
  have Hb := Lib.hid hb; have Hs := Lib.hid hs
  clear hl hb hs
  go_enter Try.func23, Try.ntmps23
  go_wp2_with fail
  refine (Hl.out _ (Fr.refl _ _)).mono ?_
  rintro e w' ⟨rfl, m, rfl⟩
  go_wp2_with (at_builtin; refine wpList_append1 _ rfl _ _ _ rfl (fun k => S k ∧ k ≠ b) 9 _ 1 16 Try.underlying37 Try.info_str rfl (by omega) (.slice X n c) n cs [.string x] rfl (Hs.out.drewN m) rfl rfl rfl (by omega) (by omega) ?_; intro v3 w3 hs3 hf3 hz3; obtain ⟨X3, c3, rfl⟩ := hs3.slice; have hb3 := hf3.blk (fun q => q.2 rfl) (show (w.drewN m).heap[b]? = _ from Hb.out); have d0 := blk_cell hb3 0 rfl; have g0 := blk_froz hb3 0; have d1 := blk_cell hb3 1 rfl; have hsz := hf3.size; have Hb3 := Lib.hid hb3; have Hs3 := Lib.hid hs3; have Hf3 := Lib.hid hf3; clear hb3 hs3 hf3)
  go_ret2
  have e1 : ((n : Int) + 1 - 1) = n := by omega
  refine ⟨by simp [e1], (((Fr.refl S w).drewN m).trans0 (Hf3.out.mono fun k _ q => q.1)).setCell (.inl hS) _, .slice X3 (n + 1) c3, .inl hS, ?_, ?_, by omega, hm⟩
  · exact blk_set Hb3.out 0 _
  · refine (Hs3.out.fr ((Fr.refl (fun k => k = b) w3).setCell (p := ⟨b, 0, none⟩) (.inl rfl) _) ?_).mono ?_
    · intro k q e
      rcases q with q | q
      · exact q.2 e
      · subst e
        have : (w.drewN m).heap.size = w.heap.size := rfl
        omega
    · intro k hk q
      have : (w.drewN m).heap.size = w.heap.size := rfl
      rcases q with q | q
      · exact ⟨.inl q.1, q.2⟩
      · exact ⟨.inr ⟨by omega, by simpa using hk⟩, by rintro rfl; omega⟩
theorem arena_str_get_no (w : World) (S : Nat → Prop) (b most n : Nat) (cs : List Value) (i : Int) (h : ArenaAt 80 9 1 w S b most n cs) (hi : i < 0 ∨ (n : Int) ≤ i) :
    Calls Try.prog 27 #[.pointer (some ⟨b, 0, none⟩), .int .i64 i] w fun e w' => e = .returned (.tuple #[.string ByteArray.empty, .bool false]) ∧ Fr Nob w w' := by
  have hl := fun w' (hf : Fr Nob w w') => arena_str_len w' S b most n cs (h.fr hf fun _ _ q => q)
  have Hl := Lib.hid hl
  clear hl h
  by_cases h0 : i < 0
  · go_enter Try.func27, Try.ntmps27
    go_wp2
    go_ret2
    exact ⟨rfl, by repeat (first | exact Fr.refl _ _ | apply Fr.drewN | apply Fr.drew | apply Fr.alloc)⟩
  · have h1 : (n : Int) ≤ i := by omega
    clear hi
    go_enter Try.func27, Try.ntmps27
    go_wp2_with fail
    refine (Hl.out _ (Fr.refl _ _)).mono ?_
    rintro e w' ⟨rfl, rfl⟩
    go_wp2_with fail
    go_ret2
    exact ⟨rfl, by repeat (first | exact Fr.refl _ _ | apply Fr.drewN | apply Fr.drew | apply Fr.alloc)⟩
theorem arena_str_get (w : World) (S : Nat → Prop) (b most n : Nat) (cs : List Value) (i : Nat) (x : ByteArray) (h : ArenaAt 80 9 1 w S b most n cs) (hi : i < n) (hx : cs[i]? = some (.string x)) :
    Calls Try.prog 27 #[.pointer (some ⟨b, 0, none⟩), .int .i64 (i : Int)] w fun e w' => e = .returned (.tuple #[.string x, .bool true]) ∧ Fr Nob w w' := by
  have hl := fun w' (hf : Fr Nob w w') => arena_str_len w' S b most n cs (h.fr hf fun _ _ q => q)
  have Hl := Lib.hid hl
  obtain ⟨v, hS, hb, hs, hn, hm⟩ := h
  obtain ⟨g, off, c, rfl, _, hg, hc1, hc2, hc, _⟩ := hs.form (by omega)
  have c0 := blk_cell hb 0 rfl
  have hk := hc i _ hx
  unfold maxLen at hc2
  clear hl hb hs hc hx
  have h0 : ¬ (i : Int) < 0 := by omega
  have h1 : ¬ (n : Int) ≤ i := by omega
  go_enter Try.func27, Try.ntmps27
  go_wp2_with fail
  refine (Hl.out _ (Fr.refl _ _)).mono ?_
  rintro e w' ⟨rfl, rfl⟩
  go_wp2
  go_ret2
  exact ⟨rfl, by repeat (first | exact Fr.refl _ _ | apply Fr.drewN | apply Fr.drew | apply Fr.alloc)⟩
theorem arena_str_set_no (w : World) (S : Nat → Prop) (b most n : Nat) (cs : List Value) (i : Int) (x : ByteArray) (h : ArenaAt 80 9 1 w S b most n cs) (hi : i < 0 ∨ (n : Int) ≤ i) :
    Calls Try.prog 46 #[.pointer (some ⟨b, 0, none⟩), .int .i64 i, .string x] w fun e w' => e = .returned (.bool false) ∧ Fr Nob w w' := by
  have hl := fun w' (hf : Fr Nob w w') => arena_str_len w' S b most n cs (h.fr hf fun _ _ q => q)
  have Hl := Lib.hid hl
  clear hl h
  by_cases h0 : i < 0
  · go_enter Try.func46, Try.ntmps46
    go_wp2
    go_ret
    exact ⟨rfl, by repeat (first | exact Fr.refl _ _ | apply Fr.drewN | apply Fr.drew | apply Fr.alloc)⟩
  · have h1 : (n : Int) ≤ i := by omega
    clear hi
    go_enter Try.func46, Try.ntmps46
    go_wp2_with fail
    refine (Hl.out _ (Fr.refl _ _)).mono ?_
    rintro e w' ⟨rfl, rfl⟩
    go_wp2_with fail
    go_ret
    exact ⟨rfl, by repeat (first | exact Fr.refl _ _ | apply Fr.drewN | apply Fr.drew | apply Fr.alloc)⟩
theorem arena_str_set (w : World) (S : Nat → Prop) (b most n : Nat) (cs : List Value) (i : Nat) (x : ByteArray) (h : ArenaAt 80 9 1 w S b most n cs) (hi : i < n) :
    Calls Try.prog 46 #[.pointer (some ⟨b, 0, none⟩), .int .i64 (i : Int), .string x] w fun e w' => e = .returned (.bool true) ∧ Fr S w w' ∧ ArenaAt 80 9 1 w' S b most n (cs.set i (.string x)) := by
  have hl := fun w' (hf : Fr Nob w w') => arena_str_len w' S b most n cs (h.fr hf fun _ _ q => q)
  have Hl := Lib.hid hl
  obtain ⟨v, hS, hb, hs, hn, hm⟩ := h
  have Hs := Lib.hid hs
  obtain ⟨g, off, c, rfl, hSg, hg, hc1, hc2, hc, hfz⟩ := hs.form (by omega)
  have c0 := blk_cell hb 0 rfl
  have hk := hc i _ (List.getElem?_eq_getElem (by rw [hs.1]; omega))
  have fk := hfz (off + i)
  generalize cs[i]'(by rw [hs.1]; omega) = old at hk
  unfold maxLen at hc2
  have Hb := Lib.hid hb
  clear hl hb hs hc hfz
  have h0 : ¬ (i : Int) < 0 := by omega
  have h1 : ¬ (n : Int) ≤ i := by omega
  go_enter Try.func46, Try.ntmps46
  go_wp2_with fail
  refine (Hl.out _ (Fr.refl _ _)).mono ?_
  rintro e w' ⟨rfl, rfl⟩
  go_wp2
  try go_region
  go_wp2
  go_ret
  refine ⟨rfl, by repeat (first | exact Fr.refl _ _ | apply Fr.drewN | apply Fr.drew | apply Fr.alloc | refine Fr.setCell ?_ (.inl hSg.1) _), .slice (some ⟨g, off, none⟩) n c, hS, ?_, ?_, hn, hm⟩
  · first | exact (blk_set_ne _ _ (Ne.symm hSg.2)).trans Hb.out | skip
  · first | exact Hs.out.set i (by omega) _ | skip

theorem Try.info_pair : (Try.prog.info? 29).map (fun i => (i.zero, i.size, i.bytes)) = some (some (.agg #[.int .i64 0, .int .i64 0]), 2, 16) := by kernel_rfl
theorem arena_pair_new_bad (most : Int) (w : World) (h : most < 1 ∨ 1000 < most) :
    Calls Try.prog 22 #[.int .i64 most] w fun e w' => e = .returned (.tuple #[.pointer none, .int .i64 1]) ∧ w = w' := by
  go_enter Try.func22, Try.ntmps22
  go_wp2
  all_goals go_ret2
  all_goals exact ⟨rfl, rfl⟩
theorem arena_pair_new_good (most : Nat) (w : World) (h1 : 1 ≤ most) (h2 : most ≤ 1000) :
    Calls Try.prog 22 #[.int .i64 (most : Int)] w fun e w' => ∃ b, e = .returned (.tuple #[.pointer (some ⟨b, 0, none⟩), .int .i64 0]) ∧ Fr Nob w w' ∧ ArenaAt 82 29 2 w' (fun k => w.heap.size ≤ k ∧ k < w'.heap.size) b most 0 [] := by
  have h3 : ¬ (most : Int) < 1 := by omega
  have h4 : ¬ (1000 : Int) < most := by omega
  go_enter Try.func22, Try.ntmps22
  go_wp2
  go_ret2
  exact ⟨w.heap.size, rfl, (Fr.refl Nob w).alloc _, .slice none 0 0, by simp, blk_alloc_eq _ rfl, Sl.nil _ _ _ _, by omega, h2⟩
theorem arena_pair_len (w : World) (S : Nat → Prop) (b most n : Nat) (cs : List Value) (h : ArenaAt 82 29 2 w S b most n cs) :
    Calls Try.prog 49 #[.pointer (some ⟨b, 0, none⟩)] w fun e w' => e = .returned (.int .i64 (n : Int)) ∧ w = w' := by
  obtain ⟨v, hS, hb, hs, hn, hm⟩ := h
  obtain ⟨X, c, rfl⟩ := hs.slice
  have c0 := blk_cell hb 0 rfl
  clear hb hs
  go_enter Try.func49, Try.ntmps49
  go_wp2
  go_ret
  exact ⟨rfl, rfl⟩
theorem arena_pair_left (w : World) (S : Nat → Prop) (b most n : Nat) (cs : List Value) (h : ArenaAt 82 29 2 w S b most n cs) :
    Calls Try.prog 48 #[.pointer (some ⟨b, 0, none⟩)] w fun e w' => e = .returned (.int .i64 ((most : Int) - n)) ∧ ∃ m, w' = w.drewN m := by
  obtain ⟨v, hS, hb, hs, hn, hm⟩ := h
  obtain ⟨X, c, rfl⟩ := hs.slice
  have c0 := blk_cell hb 0 rfl
  have c1 := blk_cell hb 1 rfl
  clear hb hs
  go_enter Try.func48, Try.ntmps48
  go_wp2
  go_quiet (fail)
  go_wp2
  go_ret
  exact ⟨rfl, _, rfl⟩
theorem arena_pair_left_nil (w : World) :
    Calls Try.prog 48 #[.pointer none] w fun e w' => e = .returned (.int .i64 0) ∧ w = w' := by
  go_enter Try.func48, Try.ntmps48
  go_wp2
  go_ret
  exact ⟨rfl, rfl⟩

theorem arena_pair_add_nil (w : World) (x y : Int) :
    Calls Try.prog 24 #[.pointer none, .agg #[.int .i64 x, .int .i64 y]] w fun e w' => e = .returned (.tuple #[.int .i64 0, .int .i64 3]) ∧ Fr Nob w w' := by
  go_enter Try.func24, Try.ntmps24
  go_wp2_with fail
  refine (arena_pair_left_nil _).mono ?_
  rintro e w' ⟨rfl, rfl⟩
  go_wp2_with fail
  go_ret2
  exact ⟨rfl, by repeat (first | exact Fr.refl _ _ | apply Fr.drew | apply Fr.alloc)⟩
theorem arena_pair_add_full (w : World) (S : Nat → Prop) (b most : Nat) (cs : List Value) (x y : Int) (h : ArenaAt 82 29 2 w S b most most cs) :
    Calls Try.prog 24 #[.pointer (some ⟨b, 0, none⟩), .agg #[.int .i64 x, .int .i64 y]] w fun e w' => e = .returned (.tuple #[.int .i64 0, .int .i64 3]) ∧ Fr Nob w w' := by
  have hl := fun w' (hf : Fr Nob w w') => arena_pair_left w' S b most most cs (h.fr hf fun _ _ q => q)
  have hz : ((most : Int) - most) = 0 := by omega
  rw [hz] at hl
  have Hl := Lib.hid hl
  clear hl hz h
  go_enter Try.func24, Try.ntmps24
  go_wp2_with fail
  refine (Hl.out _ (by repeat (first | exact Fr.refl _ _ | apply Fr.drew | apply Fr.alloc))).mono ?_
  rintro e w' ⟨rfl, m, rfl⟩
  go_wp2_with fail
  go_ret2
  exact ⟨rfl, by repeat (first | exact Fr.refl _ _ | apply Fr.drewN | apply Fr.drew | apply Fr.alloc)⟩

theorem arena_pair_add (w : World) (S : Nat → Prop) (b most n : Nat) (cs : List Value) (x y : Int) (h : ArenaAt 82 29 2 w S b most n cs) (hlt : n < most) :
    Calls Try.prog 24 #[.pointer (some ⟨b, 0, none⟩), .agg #[.int .i64 x, .int .i64 y]] w fun e w' => e = .returned (.tuple #[.int .i64 (n : Int), .int .i64 0]) ∧ Fr S w w' ∧ ArenaAt 82 29 2 w' (And' S w w') b most (n + 1) (cs ++ [.int .i64 x, .int .i64 y]) := by
  have hl := fun w' (hf : Fr Nob w w') => arena_pair_left w' S b most n cs (h.fr hf fun _ _ q => q)
  obtain ⟨v, hS, hb, hs, hn, hm⟩ := h
  obtain ⟨X, c, rfl⟩ := hs.slice
  have hz : (((most : Int) - n) == 0) = false := by simp; omega
  have Hl := Lib.hid hl
  have c0 := blk_cell hb 0 rfl
  have f0 := blk_froz hb 0
  have lb := lt_of_block hb
  have Hb := Lib.hid hb; have Hs := Lib.hid hs
  clear hl hb hs
  go_enter Try.func24, Try.ntmps24
  go_wp2_with fail
  refine (Hl.out _ (by repeat (first | exact Fr.refl _ _ | apply Fr.drew | apply Fr.alloc))).mono ?_
  rintro e w' ⟨rfl, m, rfl⟩
  go_wp2
  obtain ⟨W, hW⟩ : ∃ W, W = (w.alloc (.cells #[.int .i64 x, .int .i64 y] 29)).drewN m := ⟨_, rfl⟩
  rw [← hW]
  have hfW : Fr Nob w W := by rw [hW]; exact ((Fr.refl Nob w).alloc _).drewN m
  have hxW : W.heap[w.heap.size]? = some (.cells #[.int .i64 x, .int .i64 y] 29 (0, 0)) := by rw [hW]; exact blk_alloc_eq (w := w) _ rfl
  have hzW : W.heap.size = w.heap.size + 1 := by rw [hW]; simp [size_drewN']
  clear hW
  have hbW := hfW.blk id Hb.out
  have hsW := Hs.out.fr hfW fun _ _ q => q
  have x0 := blk_cell hxW 0 rfl
  have x1 := blk_cell hxW 1 rfl
  have b0 := blk_cell hbW 0 rfl
  have b1 := blk_froz hbW 0
  have lbW := lt_of_block hbW
  have lxW := lt_of_block hxW
  generalize w.heap.size = p at *
  have HbW := Lib.hid hbW; have HsW := Lib.hid hsW; have HfW := Lib.hid hfW; have HzW := Lib.hid hzW
  clear hbW hsW hxW hfW hzW c0 f0
  go_region_law ((refine step_append_sl _ (by rfl) _ _ _ (by rfl) (fun k => S k ∧ k ≠ b) 29 _ 2 16 Try.underlying22 Try.info_pair rfl (by omega) (.slice X n c) n cs (by rfl) ((HsW.out.alloc _).drew) ⟨W.heap.size, 0, none⟩ 1 1 [.int .i64 x, .int .i64 y] (by rfl) (by rfl) (news_lit _ [.int .i64 x, .int .i64 y] 29 (0, 0) _ (heap_alloc_new W _)) (by rfl) (by omega) (by omega) ?_; intro v3 w3 hs3 hf3; obtain ⟨X3, c3, rfl⟩ := hs3.slice; have hb3 := hf3.blk (fun q => q.2 rfl) (show ((W.alloc (.cells #[.int .i64 x, .int .i64 y] 29)).drew).heap[b]? = _ from (blk_alloc_ne _ lbW).trans HbW.out); have d0 := blk_cell hb3 0 rfl; have g0 := blk_froz hb3 0; have hsz := hf3.size; have Hb3 := Lib.hid hb3; have Hs3 := Lib.hid hs3; have Hf3 := Lib.hid hf3; clear hb3 hs3 hf3))
  all_goals
    have d1 := blk_cell (blk_set Hb3.out 0 (.slice X3 (n + 1) c3)) 0 rfl
    go_wp2
    go_ret2
    have e1 : ((n : Int) + 1 - 1) = n := by omega
    have ez : ((W.alloc (.cells #[.int .i64 x, .int .i64 y] 29)).drew).heap.size = W.heap.size + 1 := by simp
    refine ⟨by simp [e1], ((HfW.out.none.alloc _).drew.trans0 (Hf3.out.mono fun k _ q => q.1)).setCell (.inl hS) _, .slice X3 (n + 1) c3, .inl hS, ?_, ?_, by omega, hm⟩
    · exact blk_set Hb3.out 0 _
    · refine (Hs3.out.fr ((Fr.refl (fun k => k = b) w3).setCell (p := ⟨b, 0, none⟩) (.inl rfl) _) ?_).mono ?_
      · intro k q e
        rcases q with q | q
        · exact q.2 e
        · subst e; omega
      · intro k hk q
        have hh := HfW.out.size
        rcases q with q | q
        · exact ⟨.inl q.1, q.2⟩
        · exact ⟨.inr ⟨by omega, by simpa using hk⟩, by rintro rfl; omega⟩
theorem arena_pair_get (w : World) (S : Nat → Prop) (b most n : Nat) (cs : List Value) (i : Nat) (x y : Int) (h : ArenaAt 82 29 2 w S b most n cs) (hi : i < n) (hx : cs[i * 2]? = some (.int .i64 x)) (hy : cs[i * 2 + 1]? = some (.int .i64 y)) :
    Calls Try.prog 28 #[.pointer (some ⟨b, 0, none⟩), .int .i64 (i : Int)] w fun e w' => e = .returned (.tuple #[.agg #[.int .i64 x, .int .i64 y], .bool true]) ∧ Fr Nob w w' := by
  have hl := fun w' (hf : Fr Nob w w') => arena_pair_len w' S b most n cs (h.fr hf fun _ _ q => q)
  have Hl := Lib.hid hl
  obtain ⟨v, hS, hb, hs, hn, hm⟩ := h
  obtain ⟨g, off, c, rfl, _, hg, hc1, hc2, hc, _⟩ := hs.form (by omega)
  have c0 := blk_cell hb 0 rfl
  have hk := hc _ _ hx
  have hk2 := hc _ _ hy
  rw [← Nat.add_assoc] at hk2
  have lb := lt_of_block hb
  unfold maxLen at hc2
  clear hl hb hs hc hx hy
  have h0 : ¬ (i : Int) < 0 := by omega
  have h1 : ¬ (n : Int) ≤ i := by omega
  go_enter Try.func28, Try.ntmps28
  go_wp2_with fail
  refine (Hl.out _ (by repeat (first | exact Fr.refl _ _ | apply Fr.drew | apply Fr.alloc))).mono ?_
  rintro e w' ⟨rfl, rfl⟩
  go_wp2
  exact bodyPost_ret (v := .tuple #[.agg #[.int .i64 x, .int .i64 y], .bool true]) (by simp [results, Try.results28, go_sem]) rfl ⟨rfl, (Fr.refl _ _).alloc _⟩
end Go.Proofs.Ytaghnlmfhfbhhaa
