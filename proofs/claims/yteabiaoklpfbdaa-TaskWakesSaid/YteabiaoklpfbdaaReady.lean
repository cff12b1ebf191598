/- What the methods of ready.List do: each as a contract on a list that lies in blocks of a set S and holds the numbers l. -/
import Derived.Test.YteabiaoklpfbdaaDelete
import Derived.Test.YteabiaoklpfbdaaAlike
set_option linter.unusedVariables false
set_option linter.unusedSimpArgs false
namespace Go.Proofs.Yteabiaoklpfbdaa
open Go.RowKit
set_option maxRecDepth 100000

/-- A list of those that can run. -/
def ReadyAt (w : World) (S : Nat → Prop) (b : Nat) (l : List Int) : Prop :=
  ∃ v, S b ∧ w.heap[b]? = some (.cells #[v] 78 (0, 0)) ∧ Sl w (fun k => S k ∧ k ≠ b) 3 1 v l.length (ints l) ∧ l.length ≤ 100000
theorem ReadyAt.fr {w w' : World} {S F : Nat → Prop} {b : Nat} {l : List Int} (h : ReadyAt w S b l) (hf : Fr F w w') (hd : ∀ k, S k → F k → False) : ReadyAt w' S b l := by
  obtain ⟨v, hS, hb, hs, r⟩ := h
  exact ⟨v, hS, hf.blk (hd _ hS) hb, hs.fr hf (fun k q => hd k q.1), r⟩
theorem ReadyAt.fr0 {w w' : World} {S : Nat → Prop} {b : Nat} {l : List Int} (h : ReadyAt w S b l) (hf : Fr Nob w w') : ReadyAt w' S b l := h.fr hf fun _ _ q => q
theorem ReadyAt.mono {w : World} {S S' : Nat → Prop} {b : Nat} {l : List Int} (h : ReadyAt w S b l) (hs : ∀ k, k < w.heap.size → S k → S' k) : ReadyAt w S' b l := by
  obtain ⟨v, hS, hb, hsl, r⟩ := h
  exact ⟨v, hs _ (lt_of_block hb) hS, hb, hsl.mono (fun k hk q => ⟨hs k hk q.1, q.2⟩), r⟩
theorem ReadyAt.small {w : World} {S : Nat → Prop} {b : Nat} {l : List Int} (h : ReadyAt w S b l) : l.length ≤ 100000 := by
  obtain ⟨v, hS, hb, hsl, r⟩ := h; exact r

theorem ready_new (w : World) : Calls Try.prog 23 #[] w fun e w' => ∃ b, e = .returned (.pointer (some ⟨b, 0, none⟩)) ∧ Fr Nob w w' ∧ ReadyAt w' (fun k => w.heap.size ≤ k ∧ k < w'.heap.size) b [] := by
  go_enter Try.func23, Try.ntmps23
  go_wp2
  go_ret
  exact ⟨w.heap.size, rfl, (Fr.refl Nob w).alloc _, .slice none 0 0, by simp, blk_alloc_eq _ rfl, Sl.nil _ _ _ _, by simp⟩
theorem ready_len (w : World) (S : Nat → Prop) (b : Nat) (l : List Int) (n : Nat) (hn : l.length = n) (h : ReadyAt w S b l) :
    Calls Try.prog 48 #[.pointer (some ⟨b, 0, none⟩)] w fun e w' => e = .returned (.int .i64 (n : Int)) ∧ w = w' := by
  obtain ⟨v, hS, hb, hs, hm⟩ := h
  rw [hn] at hs
  obtain ⟨X, c, rfl⟩ := hs.slice
  have c0 := blk_cell hb 0 rfl
  clear hb hs hn
  go_enter Try.func48, Try.ntmps48
  go_wp2
  go_ret
  exact ⟨rfl, rfl⟩
theorem ready_len_nil (w : World) :
    Calls Try.prog 48 #[.pointer none] w fun e w' => e = .returned (.int .i64 0) ∧ w = w' := by
  go_enter Try.func48, Try.ntmps48
  go_wp2
  go_ret
  exact ⟨rfl, rfl⟩
theorem ready_all (w : World) (S : Nat → Prop) (b : Nat) (l : List Int) (n : Nat) (hn : l.length = n) (h : ReadyAt w S b l) :
    Calls Try.prog 35 #[.pointer (some ⟨b, 0, none⟩)] w fun e w' => ∃ v, e = .returned v ∧ Fr Nob w w' ∧ Sl w' (From w.heap.size) 3 1 v n (ints l) := by
  obtain ⟨v, hS, hb, hs, hm⟩ := h
  rw [hn] at hs
  have hc := clone_ints w v l n hn (by omega) hs.rd
  have Hc := Lib.hid hc
  obtain ⟨X, c, rfl⟩ := hs.slice
  have c0 := blk_cell hb 0 rfl
  clear hb hs hn hc
  go_enter Try.func35, Try.ntmps35
  go_wp2_with fail
  refine Hc.out.mono ?_
  rintro e w' ⟨v', rfl, hf, hs⟩
  obtain ⟨X', c', rfl⟩ := hs.slice
  have Hf := Lib.hid hf; have Hs := Lib.hid hs; clear hf hs
  go_wp2_with fail
  go_ret
  exact ⟨_, rfl, Hf.out, Hs.out⟩
theorem ready_add_no (w : World) (S : Nat → Prop) (b : Nat) (l : List Int) (t : Int) (h : ReadyAt w S b l) (ht : t < 0 ∨ t ∈ l) :
    Calls Try.prog 25 #[.pointer (some ⟨b, 0, none⟩), .int .i64 t] w fun e w' => e = .returned (.int .i64 1) ∧ Fr Nob w w' := by
  obtain ⟨v, hS, hb, hs, hm⟩ := h
  have hc := contains_ints w v l t hs.rd
  by_cases h0 : t < 0
  · clear hc hs hb
    go_enter Try.func25, Try.ntmps25
    go_wp2_with fail
    go_ret
    exact ⟨rfl, Fr.refl _ _⟩
  · have hin : decide (t ∈ l) = true := by rcases ht with h | h; omega; simpa using h
    rw [hin] at hc
    have Hc := Lib.hid hc
    obtain ⟨X, c, rfl⟩ := hs.slice
    have c0 := blk_cell hb 0 rfl
    clear hb hs hc ht hin
    go_enter Try.func25, Try.ntmps25
    go_wp2_with fail
    refine Hc.out.mono ?_
    rintro e w' ⟨rfl, rfl⟩
    go_wp2_with fail
    go_ret
    exact ⟨rfl, Fr.refl _ _⟩
theorem ready_add_nil (w : World) (t : Int) :
    Calls Try.prog 25 #[.pointer none, .int .i64 t] w fun e w' => e = .returned (.int .i64 1) ∧ Fr Nob w w' := by
  go_enter Try.func25, Try.ntmps25
  go_wp2_with fail
  go_ret
  exact ⟨rfl, Fr.refl _ _⟩
set_option maxHeartbeats 800000 in
theorem ready_add (w : World) (S : Nat → Prop) (b : Nat) (l : List Int) (t : Int) (h : ReadyAt w S b l) (h0 : 0 ≤ t) (ht : t ∉ l) (hl : l.length < 100000) :
    Calls Try.prog 25 #[.pointer (some ⟨b, 0, none⟩), .int .i64 t] w fun e w' => e = .returned (.int .i64 0) ∧ Fr S w w' ∧ ReadyAt w' (And' S w w') b (l ++ [t]) := by
  obtain ⟨v, hS, hb, hs, hm⟩ := h
  have hc := contains_ints w v l t hs.rd
  have hin : decide (t ∈ l) = false := by simpa using ht
  rw [hin] at hc
  have Hc := Lib.hid hc
  generalize hnn : l.length = n at *
  have Hnn := Lib.hid hnn
  obtain ⟨X, c, rfl⟩ := hs.slice
  have c0 := blk_cell hb 0 rfl
  have f0 := blk_froz hb 0
  have lb := lt_of_block hb
  have Hb := Lib.hid hb; have Hs := Lib.hid hs
  have h0' : ¬ t < 0 := by omega
  clear hb hs hc ht hin hnn
  go_enter Try.func25, Try.ntmps25
  go_wp2_with fail
  refine Hc.out.mono ?_
  rintro e w' ⟨rfl, rfl⟩
  go_wp2_with (at_builtin; refine wpList_append1 _ rfl _ _ _ rfl (fun k => S k ∧ k ≠ b) 3 _ 1 8 Try.underlying22 Try.info_int' rfl (by omega) (.slice X n c) n (ints l) [.int .i64 t] rfl Hs.out rfl rfl rfl (by omega) (by omega) ?_; intro v3 w3 hs3 hf3 hz3; obtain ⟨X3, c3, rfl⟩ := hs3.slice; have hb3 := hf3.blk (fun q => q.2 rfl) Hb.out; have d0 := blk_cell hb3 0 rfl; have g0 := blk_froz hb3 0; have hsz := hf3.size; have Hb3 := Lib.hid hb3; have Hs3 := Lib.hid hs3; have Hf3 := Lib.hid hf3; clear hb3 hs3 hf3)
  go_ret
  have hl2 : (l ++ [t]).length = n + 1 := by simp [Hnn.out]
  refine ⟨rfl, (Hf3.out.mono fun k _ q => q.1).setCell (.inl hS) _, .slice X3 (n + 1) c3, .inl hS, ?_, ?_, by omega⟩
  · exact blk_set Hb3.out 0 _
  · rw [hl2]
    have hs4 : Sl (w3.setCell ⟨b, 0, none⟩ (.slice X3 (n + 1) c3)) (fun k => S k ∧ k ≠ b ∨ w.heap.size ≤ k) 3 1 (.slice X3 (n + 1) c3) (n + 1) (ints (l ++ [t])) := by
      have := Hs3.out.fr ((Fr.refl (fun k => k = b) w3).setCell (p := ⟨b, 0, none⟩) (.inl rfl) (.slice X3 (n + 1) c3)) ?_
      · simpa [ints] using this
      · intro k q e
        rcases q with q | q
        · exact q.2 e
        · subst e; omega
    refine hs4.mono ?_
    intro k hk q
    rcases q with q | q
    · exact ⟨.inl q.1, q.2⟩
    · exact ⟨.inr ⟨q, by simpa using hk⟩, by rintro rfl; omega⟩
theorem ready_remove_no (w : World) (S : Nat → Prop) (b : Nat) (l : List Int) (t : Int) (h : ReadyAt w S b l) (ht : t ∉ l) :
    Calls Try.prog 31 #[.pointer (some ⟨b, 0, none⟩), .int .i64 t] w fun e w' => e = .returned (.bool false) ∧ Fr Nob w w' := by
  have ha := ready_all w S b l _ rfl h
  have hi := fun w' v (hs : Rd w' 1 v l.length (ints l)) => index_ints w' v l t hs
  rw [ixOf_no l t ht] at hi
  have Ha := Lib.hid ha; have Hi := Lib.hid hi
  clear ha hi
  go_enter Try.func31, Try.ntmps31
  go_wp2_with fail
  refine Ha.out.mono ?_
  rintro e w1 ⟨v1, rfl, hf1, hs1⟩
  obtain ⟨X1, c1, rfl⟩ := hs1.slice
  have Hf1 := Lib.hid hf1; have Hs1 := Lib.hid hs1; clear hf1 hs1
  go_wp2_with fail
  refine (Hi.out _ _ Hs1.out.rd).mono ?_
  rintro e w2 ⟨rfl, rfl⟩
  go_wp2_with fail
  go_ret
  exact ⟨rfl, Hf1.out⟩
set_option maxHeartbeats 800000 in
theorem ready_remove (w : World) (S : Nat → Prop) (b : Nat) (l : List Int) (t : Int) (h : ReadyAt w S b l) (ht : t ∈ l) :
    Calls Try.prog 31 #[.pointer (some ⟨b, 0, none⟩), .int .i64 t] w fun e w' => e = .returned (.bool true) ∧ Fr S w w' ∧ ReadyAt w' S b (l.erase t) := by
  have ha := ready_all w S b l _ rfl h
  have hi := fun w' v (hs : Rd w' 1 v l.length (ints l)) => index_ints w' v l t hs
  have hlt := List.idxOf_lt_length_of_mem ht
  have hix : ixOf l t = ((l.idxOf t : Nat) : Int) := if_pos ht
  rw [hix] at hi
  have her : l.erase t = l.eraseIdx (l.idxOf t) := by rw [List.erase_eq_eraseIdx_of_idxOf (i := l.idxOf t) rfl]
  rw [her]
  have hlen : (l.eraseIdx (l.idxOf t)).length = l.length - 1 := by rw [List.length_eraseIdx, if_pos hlt]
  obtain ⟨v, hS, hb, hs, hm⟩ := h
  have hd := fun w' (hf : Fr Nob w w') => delete_ints w' (fun k => S k ∧ k ≠ b) v l _ _ rfl hlt (hs.fr hf fun _ _ q => q)
  have Ha := Lib.hid ha; have Hi := Lib.hid hi; have Hd := Lib.hid hd; have Hlen := Lib.hid hlen
  obtain ⟨X, c, rfl⟩ := hs.slice
  have c0 := blk_cell hb 0 rfl
  have f0 := blk_froz hb 0
  have lb := lt_of_block hb
  have Hb := Lib.hid hb
  clear ha hi hd hlen hix her hb hs
  generalize l.eraseIdx (l.idxOf t) = l' at *
  generalize l.idxOf t = i at *
  generalize l.length = n at *
  go_enter Try.func31, Try.ntmps31
  go_wp2_with fail
  refine Ha.out.mono ?_
  rintro e w1 ⟨v1, rfl, hf1, hs1⟩
  obtain ⟨X1, c1, rfl⟩ := hs1.slice
  have Hf1 := Lib.hid hf1; have Hs1 := Lib.hid hs1
  have d0 := hf1.cell id c0
  clear hf1 hs1
  go_wp2_with fail
  refine (Hi.out _ _ Hs1.out.rd).mono ?_
  rintro e w2 ⟨rfl, rfl⟩
  go_wp2_with fail
  refine (Hd.out _ Hf1.out).mono ?_
  rintro e w3 ⟨v3, rfl, hf3, hs3⟩
  obtain ⟨X3, c3, rfl⟩ := hs3.slice
  have hb3 := hf3.blk (fun q => q.2 rfl) (Hf1.out.blk id Hb.out)
  have e0 := blk_cell hb3 0 rfl
  have e1 := blk_froz hb3 0
  have Hf3 := Lib.hid hf3; have Hs3 := Lib.hid hs3; have Hb3 := Lib.hid hb3
  clear hf3 hs3 hb3
  go_wp2_with fail
  go_ret
  refine ⟨rfl, ((Hf1.out.none.trans0 (Hf3.out.mono fun k _ q => q.1))).setCell (.inl hS) _, .slice X3 (n - 1) c3, hS, blk_set Hb3.out 0 _, ?_, by rw [Hlen.out]; omega⟩
  rw [Hlen.out]
  exact Hs3.out.fr ((Fr.refl (fun k => k = b) w3).setCell (p := ⟨b, 0, none⟩) (.inl rfl) _) fun k q e => q.2 e
theorem ready_pick_none (w : World) (S : Nat → Prop) (b : Nat) (k : Int) (h : ReadyAt w S b []) :
    Calls Try.prog 38 #[.pointer (some ⟨b, 0, none⟩), .int .i64 k] w fun e w' => e = .returned (.tuple #[.int .i64 0, .bool false]) ∧ Fr Nob w w' := by
  have hl := ready_len w S b [] 0 rfl h
  have Hl := Lib.hid hl; clear hl h
  go_enter Try.func38, Try.ntmps38
  go_wp2_with fail
  refine Hl.out.mono ?_
  rintro e w1 ⟨rfl, rfl⟩
  go_wp2_with fail
  go_ret2
  exact ⟨rfl, Fr.refl _ _⟩
theorem ready_pick_nil (w : World) (k : Int) :
    Calls Try.prog 38 #[.pointer none, .int .i64 k] w fun e w' => e = .returned (.tuple #[.int .i64 0, .bool false]) ∧ Fr Nob w w' := by
  go_enter Try.func38, Try.ntmps38
  go_wp2_with fail
  refine (ready_len_nil w).mono ?_
  rintro e w1 ⟨rfl, rfl⟩
  go_wp2_with fail
  go_ret2
  exact ⟨rfl, Fr.refl _ _⟩
set_option maxHeartbeats 800000 in
theorem ready_pick (w : World) (S : Nat → Prop) (b : Nat) (l : List Int) (k : Int) (n : Nat) (hn : l.length = n) (h : ReadyAt w S b l) (h0 : 0 < n) :
    Calls Try.prog 38 #[.pointer (some ⟨b, 0, none⟩), .int .i64 k] w fun e w' => e = .returned (.tuple #[.int .i64 (l.getD (k % n).toNat 0), .bool true]) ∧ Fr Nob w w' := by
  have hl := ready_len w S b l n hn h
  obtain ⟨v, hS, hb, hs, hm⟩ := h
  rw [hn] at hs hm
  have hk1 := Int.emod_nonneg k (show (n : Int) ≠ 0 by omega)
  have hk2 := Int.emod_lt_of_pos k (show 0 < (n : Int) by omega)
  have hp := fun w' => script_pick w' k n (by omega) (by omega)
  obtain ⟨p, hpp⟩ := Int.eq_ofNat_of_zero_le hk1
  rw [hpp] at hp hk2
  rw [hpp, Int.toNat_natCast]
  have hpn : p < n := by omega
  obtain ⟨g, off, c, rfl, _, hg, hc1, hc2, hc, _⟩ := hs.form h0
  have c0 := blk_cell hb 0 rfl
  have hx := hc p _ (ints_get (by rw [hn]; exact hpn))
  have hp := fun w' => (hp w').mono fun e w2 h => (⟨h.1, h.2.symm⟩ : e = _ ∧ w2 = w')
  have Hl := Lib.hid hl; have Hp := Lib.hid hp
  generalize l.getD p 0 = x at *
  unfold maxLen at hc2
  clear hl hp hb hs hc hn hpp hk1
  have hn0 : ((n : Int) == 0) = false := by simp; omega
  go_enter Try.func38, Try.ntmps38
  go_wp2_with fail
  refine Hl.out.mono ?_
  rintro e w1 ⟨rfl, rfl⟩
  go_wp2_with fail
  go_quiet ((go_at_call 49; exact Calls.quiet_of_same (Hp.out _)))
  go_wp2
  go_ret2
  exact ⟨rfl, (Fr.refl _ _).drewN _⟩
end Go.Proofs.Yteabiaoklpfbdaa
