/- What the functions of package ring do, each as a contract on a ring that lies in blocks of a set S and holds the values q. -/
import Derived.Test.YtdemeghhjnehbaaProg
import Derived.Test.YtdemeghhjnehbaaBase
import Derived.BigRegion
set_option linter.unusedVariables false
set_option linter.unusedSimpArgs false
namespace Go.Proofs.Ytdemeghhjnehbaa
open Go.RowKit
set_option maxRecDepth 100000

/-- A ring of so many places that holds q. -/
def RingAt (w : World) (S : Nat → Prop) (b size : Nat) (q : List Int) : Prop :=
  ∃ (g : Nat) (blk : Array Value) (f n : Nat), S b ∧ S g ∧ b ≠ g ∧ size ≤ 64 ∧
    w.heap[b]? = some (.cells #[.slice (some ⟨g, 0, none⟩) size size, .int .i64 (f : Int), .int .i64 (n : Int)] 116 (0, 0)) ∧
    w.heap[g]? = some (.cells blk 3 (0, 0)) ∧ blk.size = size ∧ n ≤ size ∧ (f < size ∨ f = 0) ∧ q.length = n ∧
    ∀ i u, q[i]? = some u → blk[(f + i) % size]? = some (.int .i64 u)

theorem RingAt.len {w : World} {S : Nat → Prop} {b size : Nat} {q : List Int} (h : RingAt w S b size q) : q.length ≤ size ∧ size ≤ 64 := by
  obtain ⟨g, blk, f, n, hSb, hSg, hbg, hs, hb, hg, hsz, hq, hf, hn, hc⟩ := h; exact ⟨by omega, hs⟩
theorem RingAt.mem {w : World} {S : Nat → Prop} {b size : Nat} {q : List Int} (h : RingAt w S b size q) : S b ∧ b < w.heap.size := by
  obtain ⟨g, blk, f, n, hSb, hSg, hbg, hs, hb, hg, hsz, hq, hf, hc⟩ := h; exact ⟨hSb, lt_of_block hb⟩
theorem RingAt.fr {w w' : World} {S F : Nat → Prop} {b size : Nat} {q : List Int} (h : RingAt w S b size q) (hf : Fr F w w') (hd : ∀ k, k < w.heap.size → S k → F k → False) : RingAt w' S b size q := by
  obtain ⟨g, blk, f, n, hSb, hSg, hbg, hs, hb, hg, r⟩ := h
  exact ⟨g, blk, f, n, hSb, hSg, hbg, hs, hf.blk (hd _ (lt_of_block hb) hSb) hb, hf.blk (hd _ (lt_of_block hg) hSg) hg, r⟩
theorem RingAt.mono {w : World} {S S' : Nat → Prop} {b size : Nat} {q : List Int} (h : RingAt w S b size q) (hs : ∀ k, k < w.heap.size → S k → S' k) : RingAt w S' b size q := by
  obtain ⟨g, blk, f, n, hSb, hSg, hbg, hs', hb, hg, r⟩ := h
  exact ⟨g, blk, f, n, hs _ (lt_of_block hb) hSb, hs _ (lt_of_block hg) hSg, hbg, hs', hb, hg, r⟩
theorem modc (f n s : Nat) : ((f : Int) + n) % s = (((f + n) % s : Nat) : Int) := by simp

theorem ring_ne (f n i size : Nat) (hn : n < size) (hi : i < size) (hf : f < size ∨ f = 0) (e : i < n) : (f + n) % size ≠ (f + i) % size := by
  intro e2
  rcases hf with hf | hf
  · have h1 : (f + n) / size = 0 ∨ (f + n) / size = 1 := by
      have h := (Nat.div_lt_iff_lt_mul (show 0 < size by omega)).2 (show f + n < 2 * size by omega); revert h; generalize (f + n) / size = z; omega
    have h2 : (f + i) / size = 0 ∨ (f + i) / size = 1 := by
      have h := (Nat.div_lt_iff_lt_mul (show 0 < size by omega)).2 (show f + i < 2 * size by omega); revert h; generalize (f + i) / size = z; omega
    have h3 := Nat.div_add_mod (f + n) size
    have h4 := Nat.div_add_mod (f + i) size
    have h5 := Nat.mod_lt (f + n) (show 0 < size by omega)
    have h6 := Nat.mod_lt (f + i) (show 0 < size by omega)
    rcases h1 with h1 | h1 <;> rcases h2 with h2 | h2 <;> rw [h1] at h3 <;> rw [h2] at h4 <;> simp at h3 h4 <;> omega
  · subst hf
    rw [Nat.zero_add, Nat.zero_add, Nat.mod_eq_of_lt (by omega), Nat.mod_eq_of_lt (by omega)] at e2
    omega

theorem ring_push_yes (w : World) (S : Nat → Prop) (b size : Nat) (q : List Int) (v : Int) (h : RingAt w S b size q) (hq : q.length < size) :
    Calls Try.prog 39 #[.pointer (some ⟨b, 0, none⟩), .int .i64 v] w fun e w' => e = .returned (.bool true) ∧ Fr S w w' ∧ RingAt w' S b size (q ++ [v]) := by
  obtain ⟨g, blk, f, n, hSb, hSg, hbg, hs, hb, hg, hsz, hq', hf, hn, hc⟩ := h
  rw [hn] at hq
  have Hc := Lib.hid hc; clear hc
  have Hsz := Lib.hid hsz; clear hsz
  have Hn := Lib.hid hn; clear hn
  have Hb := Lib.hid hb; have Hg := Lib.hid hg
  have c0 := blk_cell hb 0 rfl
  have c1 := blk_cell hb 1 rfl
  have c2 := blk_cell hb 2 rfl
  have f2 := blk_froz hb 2
  have hp1 : (f + n) % size < size := Nat.mod_lt _ (by omega)
  generalize hpp : (f + n) % size = p at *
  have hp : ((f : Int) + n) % size = (p : Int) := by rw [modc, hpp]
  have Hp := Lib.hid hpp; clear hpp
  have hpb : p < blk.size := by rw [Hsz.out]; exact hp1
  have ck := blk_cell hg p (Array.getElem?_eq_getElem hpb)
  have fk := blk_froz hg p
  generalize blk[p] = x at ck
  clear hb hg hpb
  have h1 : decide (n = size) = false := by simp; omega
  have h2 : ((n : Int) == size) = false := by simp; omega
  go_enter Try.func39, Try.ntmps39
  go_wp2
  go_quiet (fail)
  go_wp2
  go_region
  go_wp2
  go_ret
  have hb := Hb.out
  have hg := Hg.out
  refine ⟨rfl, (((Fr.refl S w).drewN _).setCell (.inl hSg) _).setCell (.inl hSb) _, g, blk.setIfInBounds p (.int .i64 v), f, n + 1, hSb, hSg, hbg, hs, ?_, ?_, ?_, ?_, hf, ?_, ?_⟩
  · rw [blk_set (by rw [blk_set_ne _ _ hbg]; exact hb) 2 _]; rfl
  · rw [blk_set_ne _ _ (Ne.symm hbg)]; exact blk_set hg _ _
  · simpa using Hsz.out
  · omega
  · rw [List.length_append, Hn.out]; rfl
  · intro i u hu
    have hsz := Hsz.out
    have hpp := Hp.out
    have hn := Hn.out
    rw [Array.getElem?_setIfInBounds]
    rw [List.getElem?_append] at hu
    split at hu
    · have e : i < n := by omega
      rw [if_neg (by rw [← hpp]; exact ring_ne f n i size (by omega) (by omega) hf e)]
      exact Hc.out i u hu
    · have : i = n := by
        have := (List.getElem?_eq_some_iff.1 hu).1; simp at this; omega
      subst this
      rw [if_pos hpp.symm, if_pos (by rw [hsz]; exact hp1)]
      simp [hn] at hu; rw [hu]

theorem ring_push_no (w : World) (S : Nat → Prop) (b size : Nat) (q : List Int) (v : Int) (h : RingAt w S b size q) (hq : q.length = size) :
    Calls Try.prog 39 #[.pointer (some ⟨b, 0, none⟩), .int .i64 v] w fun e w' => e = .returned (.bool false) ∧ ∃ m, w' = w.drewN m := by
  obtain ⟨g, blk, f, n, hSb, hSg, hbg, hs, hb, hg, hsz, hq', hf, hn, hc⟩ := h
  obtain rfl : n = size := by omega
  clear hq hn hc hsz hg
  have c0 := blk_cell hb 0 rfl
  have c2 := blk_cell hb 2 rfl
  clear hb
  have h2 : ((n : Int) == n) = true := by simp
  go_enter Try.func39, Try.ntmps39
  go_wp2
  go_quiet (fail)
  go_wp2
  go_ret
  exact ⟨rfl, _, rfl⟩

theorem ring_push_nil (w : World) (v : Int) :
    Calls Try.prog 39 #[.pointer none, .int .i64 v] w fun e w' => e = .returned (.bool false) ∧ ∃ m, w' = w.drewN m := by
  go_enter Try.func39, Try.ntmps39
  go_wp2
  go_quiet (fail)
  go_wp2
  go_ret
  exact ⟨rfl, _, rfl⟩

theorem ring_len (w : World) (S : Nat → Prop) (b size : Nat) (q : List Int) (h : RingAt w S b size q) :
    Calls Try.prog 43 #[.pointer (some ⟨b, 0, none⟩)] w fun e w' => e = .returned (.int .i64 ((q.length : Nat) : Int)) ∧ w = w' := by
  obtain ⟨g, blk, f, n, hSb, hSg, hbg, hs, hb, hg, hsz, hq', hf, hn, hc⟩ := h
  rw [hn]
  clear hn hc hsz hg
  have c2 := blk_cell hb 2 rfl
  clear hb
  go_enter Try.func43, Try.ntmps43
  go_wp2
  go_ret
  exact ⟨rfl, rfl⟩
theorem ring_size (w : World) (S : Nat → Prop) (b size : Nat) (q : List Int) (h : RingAt w S b size q) :
    Calls Try.prog 81 #[.pointer (some ⟨b, 0, none⟩)] w fun e w' => e = .returned (.int .i64 (size : Int)) ∧ w = w' := by
  obtain ⟨g, blk, f, n, hSb, hSg, hbg, hs, hb, hg, hsz, hq', hf, hn, hc⟩ := h
  clear hn hc hsz hg
  have c0 := blk_cell hb 0 rfl
  clear hb
  go_enter Try.func81, Try.ntmps81
  go_wp2
  go_ret
  exact ⟨rfl, rfl⟩

theorem ring_pop_none (w : World) (S : Nat → Prop) (b size : Nat) (h : RingAt w S b size []) :
    Calls Try.prog 76 #[.pointer (some ⟨b, 0, none⟩)] w fun e w' => e = .returned (.tuple #[.int .i64 0, .bool false]) ∧ ∃ m, w' = w.drewN m := by
  obtain ⟨g, blk, f, n, hSb, hSg, hbg, hs, hb, hg, hsz, hq', hf, hn, hc⟩ := h
  obtain rfl : n = 0 := hn.symm
  clear hn hc hsz hg
  have c2 := blk_cell hb 2 rfl
  clear hb
  go_enter Try.func76, Try.ntmps76
  go_wp2
  go_ret2
  exact ⟨rfl, 0, rfl⟩
theorem ring_pop_nil (w : World) :
    Calls Try.prog 76 #[.pointer none] w fun e w' => e = .returned (.tuple #[.int .i64 0, .bool false]) ∧ ∃ m, w' = w.drewN m := by
  go_enter Try.func76, Try.ntmps76
  go_wp2
  go_ret2
  exact ⟨rfl, 0, rfl⟩

theorem ring_pop_some (w : World) (S : Nat → Prop) (b size : Nat) (v : Int) (q : List Int) (h : RingAt w S b size (v :: q)) :
    Calls Try.prog 76 #[.pointer (some ⟨b, 0, none⟩)] w fun e w' => e = .returned (.tuple #[.int .i64 v, .bool true]) ∧ Fr S w w' ∧ RingAt w' S b size q := by
  obtain ⟨g, blk, f, n, hSb, hSg, hbg, hs, hb, hg, hsz, hq', hf, hn, hc⟩ := h
  simp only [List.length_cons] at hn
  have h0 := hc 0 v rfl
  have hpos : 0 < size := by omega
  rw [Nat.add_zero, Nat.mod_eq_of_lt (by omega)] at h0
  have Hc := Lib.hid hc; clear hc
  have Hsz := Lib.hid hsz; clear hsz
  have Hn := Lib.hid hn; clear hn
  have Hb := Lib.hid hb; have Hg := Lib.hid hg
  have c0 := blk_cell hb 0 rfl
  have c1 := blk_cell hb 1 rfl
  have c2 := blk_cell hb 2 rfl
  have f1 := blk_froz hb 1
  have f2 := blk_froz hb 2
  have hf' : f < size := by omega
  have hp1 : (f + 1) % size < size := Nat.mod_lt _ hpos
  generalize hpp : (f + 1) % size = p at *
  have hp : ((f : Int) + 1) % size = (p : Int) := by rw [← hpp]; simp
  have Hp := Lib.hid hpp; clear hpp
  have ck := blk_cell hg f h0
  clear hb hg h0
  have hn0 : 0 < n := by have := Hn.out; omega
  have h2 : ((n : Int) == 0) = false := by simp; omega
  go_enter Try.func76, Try.ntmps76
  go_wp2
  go_quiet (fail)
  go_wp2
  go_region
  go_wp2
  go_ret2
  have hb := Hb.out
  have hg := Hg.out
  have hn := Hn.out
  refine ⟨rfl, (((Fr.refl S w).drewN _).setCell (.inl hSb) _).setCell (.inl hSb) _, g, blk, p, n - 1, hSb, hSg, hbg, hs, ?_, ?_, Hsz.out, by omega, .inl hp1, by omega, ?_⟩
  · rw [show ((n - 1 : Nat) : Int) = (n : Int) - 1 by omega]
    exact blk_set (blk_set (w := w.drewN _) hb 1 _) 2 _
  · rw [blk_set_ne _ _ (Ne.symm hbg), blk_set_ne _ _ (Ne.symm hbg)]; exact hg
  · intro i u hu
    have := Hc.out (i + 1) u (by simpa using hu)
    rw [← Hp.out, Nat.mod_add_mod, show f + 1 + i = f + (i + 1) by omega]
    exact this

theorem ring_clear (w : World) (S : Nat → Prop) (b size : Nat) (q : List Int) (h : RingAt w S b size q) :
    Calls Try.prog 80 #[.pointer (some ⟨b, 0, none⟩)] w fun e w' => e = .returned (.int .i64 ((q.length : Nat) : Int)) ∧ Fr S w w' ∧ RingAt w' S b size [] := by
  have hl := ring_len w S b size q h
  obtain ⟨g, blk, f, n, hSb, hSg, hbg, hs, hb, hg, hsz, hq', hf, hn, hc⟩ := h
  rw [hn] at hl ⊢
  have Hc := Lib.hid hc; clear hc
  have Hsz := Lib.hid hsz; clear hsz
  have Hn := Lib.hid hn; clear hn
  have Hb := Lib.hid hb; have Hg := Lib.hid hg
  have c2 := blk_cell hb 2 rfl
  have f2 := blk_froz hb 2
  have Hl := Lib.hid hl; clear hl
  clear hb hg
  by_cases h0 : 0 < n
  · go_enter Try.func80, Try.ntmps80
    go_wp2_with (go_at_call 43; refine Hl.out.mono ?_; rintro e w' ⟨rfl, rfl⟩)
    go_ret
    refine ⟨rfl, (Fr.refl S w).setCell (.inl hSb) _, g, blk, f, 0, hSb, hSg, hbg, hs, ?_, ?_, Hsz.out, by omega, hf, rfl, fun i u hu => by simp at hu⟩
    · rw [blk_set Hb.out 2 _]; rfl
    · rw [blk_set_ne _ _ (Ne.symm hbg)]; exact Hg.out
  · obtain rfl : n = 0 := by omega
    go_enter Try.func80, Try.ntmps80
    go_wp2_with (go_at_call 43; refine Hl.out.mono ?_; rintro e w' ⟨rfl, rfl⟩)
    go_ret
    exact ⟨rfl, Fr.refl S w, g, blk, f, 0, hSb, hSg, hbg, hs, Hb.out, Hg.out, Hsz.out, by omega, hf, rfl, fun i u hu => by simp at hu⟩
theorem Try.info_int : (Try.prog.info? 3).map (fun i => (i.zero, i.size, i.bytes)) = some (some (.int .i64 0), 1, 8) := by kernel_rfl
theorem ring_new_bad (size : Int) (w : World) (h : size < 0 ∨ 64 < size) :
    Calls Try.prog 29 #[.int .i64 size] w fun e w' => e = .returned (.tuple #[.pointer none, .int .i64 1]) ∧ w = w' := by
  rcases h with h | h
  · go_enter Try.func29, Try.ntmps29
    go_wp2
    go_ret2
    exact ⟨rfl, rfl⟩
  · have h' : ¬ size < 0 := by omega
    go_enter Try.func29, Try.ntmps29
    go_wp2
    go_ret2
    exact ⟨rfl, rfl⟩
theorem ring_new_good (size : Nat) (w : World) (h : size ≤ 64) :
    Calls Try.prog 29 #[.int .i64 (size : Int)] w fun e w' => ∃ b, e = .returned (.tuple #[.pointer (some ⟨b, 0, none⟩), .int .i64 0]) ∧ Fr Nob w w' ∧ RingAt w' (From w.heap.size) b size [] := by
  have h1 : ¬ (size : Int) < 0 := by omega
  have hm := run_make_row' (P := Try.prog) 42 3 (.int .i64 0) 8 Try.underlying42 Try.info_int rfl .i64 .i64 size (by omega) (by omega)
  go_enter Try.func29, Try.ntmps29
  go_wp2
  go_ret2
  refine ⟨w.heap.size + 1, rfl, ((Fr.refl Nob w).alloc _).alloc _, w.heap.size, madeCells #[.int .i64 0] size, 0, 0, by simp [From], by simp [From], by omega, h, ?_, ?_, size_madeCells _ _, by omega, .inr rfl, rfl, fun i u hu => by simp at hu⟩
  · exact blk_alloc_eq _ (by simp)
  · rw [blk_alloc_ne _ (by simp)]; exact blk_alloc_eq _ rfl

theorem ring_len_n (w : World) (S : Nat → Prop) (b size : Nat) (q : List Int) (h : RingAt w S b size q) (n : Nat) (hn : q.length = n) :
    Calls Try.prog 43 #[.pointer (some ⟨b, 0, none⟩)] w fun e w' => e = .returned (.int .i64 (n : Int)) ∧ w = w' := by
  subst hn; exact ring_len w S b size q h
end Go.Proofs.Ytdemeghhjnehbaa
