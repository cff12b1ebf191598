/- Whatever waits, is taken, and left out, in whatever order, all others stand in order, for all acts that the statement draws. -/

import Derived.Test.YtpjkjnejlmmapaaOpenActs6
import Derived.Test.YtpjkjnejlmmapaaAlikeWaits
import Derived.Test.YtpjkjnejlmmapaaWaitAwake
import Derived.Test.YtpjkjnejlmmapaaMore
set_option linter.unusedVariables false
set_option linter.unusedSimpArgs false
namespace Go.Proofs.Ytpjkjnejlmmapaa
open Go.RowKit
set_option maxRecDepth 100000

theorem waits_one (l : List Wt) : ∀ u ∈ waits l, u.oneCell' = true := by
  intro u hu
  simp [waits, wtCells] at hu
  obtain ⟨x, y, z, _, h | h | h⟩ := hu <;> (subst h; rfl)
theorem waits_len (l : List Wt) : (waits l).length = l.length * 3 := by
  induction l with
  | nil => rfl
  | cons x l ih => simp only [waits, List.flatMap_cons, List.length_append] at ih ⊢; rw [ih]; simp; omega
theorem waits_take (l : List Wt) (k : Nat) : (waits l).take (k * 3) = waits (l.take k) := by
  induction l generalizing k with
  | nil => simp [waits]
  | cons x l ih =>
    cases k with
    | zero => simp
    | succ k =>
      have h := ih k
      simp only [waits, List.flatMap_cons, List.take_succ_cons] at h ⊢
      rw [List.take_append, ← h]
      have e : (k + 1) * 3 - (wtCells x).length = k * 3 := by simp [wtCells]; omega
      rw [e, List.take_of_length_le (by simp [wtCells]; omega)]
theorem waits_drop (l : List Wt) (k : Nat) : (waits l).drop (k * 3) = waits (l.drop k) := by
  induction l generalizing k with
  | nil => simp [waits]
  | cons x l ih =>
    cases k with
    | zero => simp
    | succ k =>
      have h := ih k
      simp only [waits, List.flatMap_cons, List.drop_succ_cons] at h ⊢
      rw [List.drop_append, ← h]
      have e : (k + 1) * 3 - (wtCells x).length = k * 3 := by simp [wtCells]; omega
      rw [e, List.drop_of_length_le (by simp [wtCells]; omega)]; rfl
theorem waits_app (l r : List Wt) : waits l ++ waits r = waits (l ++ r) := by simp [waits]
theorem take_snocW (q : List Wt) (k : Nat) (x : Wt) (h : q[k]? = some x) : q.take (k + 1) = q.take k ++ [x] := by rw [List.take_add_one]; simp [h]
theorem notT_snoc6 (ws : List Wt) (x : Wt) (t : Int) : notT (ws ++ [x]) t = if (x.1 == t) = true then notT ws t else notT ws t ++ [x] := by
  unfold notT; rw [List.filter_append]; by_cases h : x.1 = t <;> simp [h]
theorem hasT_snoc6 (ws : List Wt) (x : Wt) (t : Int) : hasT (ws ++ [x]) t = (hasT ws t || x.1 == t) := by simp [hasT]
/-- at: the first place from k on of task t and case c; -1: none. -/
def AtP (q : List Wt) (t c : Int) (k : Nat) (i : Int) : Prop :=
  (i = -1 ∧ ∀ j y, k ≤ j → q[j]? = some y → (y.1 == t && y.2.1 == c) = false) ∨ ∃ p x, i = (p : Nat) ∧ k ≤ p ∧ q[p]? = some x ∧ (x.1 == t && x.2.1 == c) = true ∧ ∀ j y, k ≤ j → j < p → q[j]? = some y → (y.1 == t && y.2.1 == c) = false
theorem AtP.keep {q : List Wt} {t c : Int} {k : Nat} {i : Int} {x : Wt} (h : AtP q t c (k + 1) i) (hx : q[k]? = some x) (hn : (x.1 == t && x.2.1 == c) = false) : AtP q t c k i := by
  have key : ∀ j y, q[j]? = some y → k = j → (y.1 == t && y.2.1 == c) = false := fun j y hy e => by subst e; rw [hx] at hy; cases hy; exact hn
  rcases h with ⟨h1, h2⟩ | ⟨p, y, h1, h2, h3, h4, h5⟩
  · exact .inl ⟨h1, fun j y hj hy => if e : k = j then key j y hy e else h2 j y (by omega) hy⟩
  · exact .inr ⟨p, y, h1, by omega, h3, h4, fun j z hj hp hz => if e : k = j then key j z hz e else h5 j z (by omega) hp hz⟩
theorem AtP.hit {q : List Wt} {t c : Int} {k : Nat} {x : Wt} (hx : q[k]? = some x) (hn : (x.1 == t && x.2.1 == c) = true) : AtP q t c k k :=
  .inr ⟨k, x, rfl, Nat.le_refl _, hx, hn, fun j y h1 h2 _ => by omega⟩
/-- What stands between two acts: who waits in the queue (q), who waits in the law's own list (r). -/
structure St6 (w : World) (b : Nat) (q r : List Wt) (m : Nat) (A : Option Addr) (c : Nat) (S T : Nat → Prop) (W : World) : Prop where
  fr : Fr (From w.heap.size) w W
  two : Two w.heap.size W S T
  wt : WaitAt W S b q
  sl : Sl W T 46 3 (.slice A m c) m (waits r)
theorem St6.fr0 {w W W' : World} {b : Nat} {q r : List Wt} {m : Nat} {A : Option Addr} {c : Nat} {S T : Nat → Prop} (h : St6 w b q r m A c S T W) (hf : Fr Nob W W') : St6 w b q r m A c S T W' :=
  ⟨h.fr.trans0 hf.none, h.two.fr hf, h.wt.fr0 hf, h.sl.fr hf fun _ _ q => q⟩
theorem St6.same {w W W' : World} {b : Nat} {q q' r : List Wt} {m : Nat} {A : Option Addr} {c : Nat} {S T : Nat → Prop} (h : St6 w b q r m A c S T W) (hf : Fr S W W') (hq : WaitAt W' S b q') : St6 w b q' r m A c S T W' :=
  ⟨h.fr.trans0 (hf.fromL h.two), h.two.fr hf, hq, h.sl.fr hf h.two.disR⟩
theorem St6.grow {w W W' : World} {b : Nat} {q q' r : List Wt} {m : Nat} {A : Option Addr} {c : Nat} {S T : Nat → Prop} (h : St6 w b q r m A c S T W) (hf : Fr S W W') (hq : WaitAt W' (And' S W W') b q') : St6 w b q' r m A c (And' S W W') T W' :=
  ⟨h.fr.trans0 (hf.fromL h.two), h.two.growL hf.size h.fr.size, hq, h.sl.fr hf h.two.disR⟩
theorem St6.newSl {w W W' : World} {b : Nat} {q r r' : List Wt} {m m' : Nat} {A A' : Option Addr} {c c' : Nat} {S T : Nat → Prop} (h : St6 w b q r m A c S T W) (hf : Fr (From W.heap.size) W W') (hs : Sl W' (From W.heap.size) 46 3 (.slice A' m' c') m' (waits r')) :
    St6 w b q r' m' A' c' S (fun k => W.heap.size ≤ k ∧ k < W'.heap.size) W' := by
  have hfn : Fr Nob W W' := hf.mono fun k hk q => by unfold From at q; omega
  have hz := hf.size
  have hz0 := h.fr.size
  exact ⟨h.fr.trans0 hfn.none, ⟨fun k q => by have := h.two.l k q; omega, fun k q => by omega, fun k a b => by have := h.two.l k a; omega⟩, h.wt.fr0 hfn, hs.mono fun k hk q => ⟨q, hk⟩⟩
theorem St6.toSl {w W : World} {b : Nat} {q r r' : List Wt} {m m' : Nat} {A A' : Option Addr} {c c' : Nat} {S T : Nat → Prop} (h : St6 w b q r m A c S T W) (hs : Sl W T 46 3 (.slice A' m' c') m' (waits r')) : St6 w b q r' m' A' c' S T W := ⟨h.fr, h.two, h.wt, hs⟩
/-- The act in block p. -/
structure Ac6 (S : Nat → Prop) (p : Nat) (x y0 y1 y2 n mm : Int) (W : World) : Prop where
  blk : W.heap[p]? = some (.cells #[.int .i64 x, .int .i64 y0, .int .i64 y1, .int .i64 y2, .int .i64 n, .int .i64 mm] 48 (0, 0))
  ps : ¬ S p
theorem Ac6.fr0 {S : Nat → Prop} {p : Nat} {x y0 y1 y2 n mm : Int} {W W' : World} (h : Ac6 S p x y0 y1 y2 n mm W) (hf : Fr Nob W W') : Ac6 S p x y0 y1 y2 n mm W' := ⟨hf.blk id h.blk, h.ps⟩
theorem Fr.old {W W' : World} (hf : Fr (From W.heap.size) W W') : Fr Nob W W' := hf.mono fun k hk q => by unfold From at q; omega

theorem old_of {wa W : World} {k0 : Nat} (hF : Fr (From wa.heap.size) wa W) (h0 : wa.heap.size ≤ k0) {n : Nat} : ∀ k, k < n → (k = k0 ∨ W.heap.size ≤ k) → From wa.heap.size k := fun k _ q => by
  have := hF.size; unfold From; omega
theorem new_of {wa W : World} (hF : Fr (From wa.heap.size) wa W) {n : Nat} : ∀ k, k < n → (From wa.heap.size k ∨ W.heap.size ≤ k) → From wa.heap.size k := fun k _ q => by
  have := hF.size; unfold From at q ⊢; omega
theorem at_of {wa : World} {k0 : Nat} (h0 : wa.heap.size ≤ k0) {n : Nat} : ∀ k, k < n → k = k0 → From wa.heap.size k := fun k _ q => by unfold From; omega
theorem lit_cells {W : World} {b : Nat} {x y z : Int} {T : TypeId} (h : W.heap[b]? = some (.cells #[.int .i64 x, .int .i64 y, .int .i64 z] T (0, 0))) : ∀ j u, ([.int .i64 x, .int .i64 y, .int .i64 z] : List Value)[j]? = some u → W.cell? ((⟨b, 0, none⟩ : Addr).add j) = some u := fun j u hj => by
  rw [Addr.add_lit]; exact blk_cell h _ (by rw [Nat.zero_add]; simpa using hj)

set_option maxHeartbeats 1000000 in
theorem waitActs_bad (v : Value) (l : List Act6) (w : World) (h : IsActs6 w v l) (hb : 80 < l.length) :
    Calls Try.prog 7 #[v] w fun e w' => e = .returned (.bool true) ∧ Below w.heap.size w w' := by
  obtain ⟨⟨_, hl, A, c, rfl, hc1, hc2, hA⟩, hwf⟩ := h
  unfold maxLen at hl
  clear hA hwf
  generalize l.length = m at *
  go_enter Try.func7, Try.ntmps7
  go_wp2_with fail
  refine (wait_awake w).mono ?_
  rintro e w' ⟨rfl, hf⟩
  go_wp2_with fail
  go_ret
  exact ⟨rfl, hf.below (Nat.le_refl _) fun _ q => q.elim⟩

set_option maxHeartbeats 8000000 in
theorem waitActs_good (v : Value) (l : List Act6) (w : World) (h : IsActs6 w v l) (hn : l.length ≤ 80) :
    Calls Try.prog 7 #[v] w fun e w' => e = .returned (.bool true) ∧ Below w.heap.size w w' := by
  obtain ⟨⟨_, hl, A0, c0, rfl, hc1, hc2, hA⟩, hwf⟩ := h
  have HA := Lib.hid hA
  have hd : ∀ i, i < l.length → ∃ x y0 y1 y2 n mm : Int, (l.flatMap act6En)[i * 6]? = some (.int .i64 x) ∧ (l.flatMap act6En)[i * 6 + 1]? = some (.int .i64 y0) ∧ (l.flatMap act6En)[i * 6 + 2]? = some (.int .i64 y1) ∧ (l.flatMap act6En)[i * 6 + 3]? = some (.int .i64 y2) ∧ (l.flatMap act6En)[i * 6 + 4]? = some (.int .i64 n) ∧ (l.flatMap act6En)[i * 6 + 5]? = some (.int .i64 mm) := fun i hi => by
    have h0 : l[i]? = some l[i] := by simp [hi]
    exact ⟨_, _, _, _, _, _, flat_get (sz := 6) _ l (fun _ _ => rfl) i 0 _ h0 (by omega), flat_get (sz := 6) _ l (fun _ _ => rfl) i 1 _ h0 (by omega), flat_get (sz := 6) _ l (fun _ _ => rfl) i 2 _ h0 (by omega), flat_get (sz := 6) _ l (fun _ _ => rfl) i 3 _ h0 (by omega), flat_get (sz := 6) _ l (fun _ _ => rfl) i 4 _ h0 (by omega), flat_get (sz := 6) _ l (fun _ _ => rfl) i 5 _ h0 (by omega)⟩
  have HD := Lib.hid hd
  generalize hnn : l.length = N at *
  clear hA hwf hl hd hnn
  have g3 : ¬ (80 : Int) < N := by omega
  go_enter Try.func7, Try.ntmps7
  go_wp2_with fail
  refine (wait_new w).mono ?_
  rintro e w1 ⟨b, rfl, hf1, hr1⟩
  have Hst : Hid (St6 w b [] [] 0 none 0 (fun k => w.heap.size ≤ k ∧ k < w1.heap.size) Nob w1) := ⟨hf1.none, ⟨fun k q => q, fun k q => q.elim, fun k a b => b⟩, hr1, Sl.nil _ _ _ _⟩
  clear hf1 hr1
  go_wp2_with fail
  go_loopw [4, 5] (fun wt i wr => ∃ (q : List Wt) (m j : Nat) (A : Option Addr) (c : Nat) (S T : Nat → Prop), Hid (q.length = m) ∧ m ≤ j ∧ j ≤ N ∧ i = .int .i64 j ∧ wt = .slice A m c ∧ Hid (St6 w b q q m A c S T wr)) (fun _ i _ => N - (intOf i).toNat)
  case atStart => exact ⟨[], 0, 0, none, 0, _, _, rfl, Nat.le_refl _, Nat.zero_le _, rfl, rfl, Hst⟩
  case round =>
    obtain ⟨wo, rfl⟩ : ∃ wo : World, wo = wr := ⟨_, rfl⟩
    obtain ⟨q, m, i, A, c, S, T, Hm, hmi, hi, rfl, rfl, Ho⟩ := hrel
    by_cases hlt : i < N
    · obtain ⟨g, o, rfl, hg, hc⟩ := HA.out (by omega)
      obtain ⟨x, y0, y1, y2, n, mm, d0, d1, d2, d3, d4, d5⟩ := HD.out i hlt
      have hng : ¬ From w.heap.size g := by unfold From; omega
      have e0 := Ho.out.fr.cell (p := ⟨g, o + i * 6, none⟩) hng (hc _ _ d0)
      have e1 := Ho.out.fr.cell (p := ⟨g, o + i * 6 + 1, none⟩) hng (by rw [Nat.add_assoc]; exact hc _ _ d1)
      have e2 := Ho.out.fr.cell (p := ⟨g, o + i * 6 + 2, none⟩) hng (by rw [Nat.add_assoc]; exact hc _ _ d2)
      have e3 := Ho.out.fr.cell (p := ⟨g, o + i * 6 + 3, none⟩) hng (by rw [Nat.add_assoc]; exact hc _ _ d3)
      have e4 := Ho.out.fr.cell (p := ⟨g, o + i * 6 + 4, none⟩) hng (by rw [Nat.add_assoc]; exact hc _ _ d4)
      have e5 := Ho.out.fr.cell (p := ⟨g, o + i * 6 + 5, none⟩) hng (by rw [Nat.add_assoc]; exact hc _ _ d5)
      clear hc d0 d1 d2 d3 d4 d5 hng
      have hk : x = 1 ∨ x = 2 ∨ x = 3 ∨ x = 4 ∨ x = 5 ∨ ((x == 1) = false ∧ (x == 2) = false ∧ (x == 3) = false ∧ (x == 4) = false ∧ (x == 5) = false) := by simp; omega
      have hmb : m ≤ 80 := by omega
      rcases hk with rfl | rfl | rfl | rfl | rfl | hk
      · as_aux_lemma =>
        go_wp2_with fail
        obtain ⟨wa, hwa⟩ : ∃ wa, wa = wo.alloc (.cells #[.int .i64 1, .int .i64 y0, .int .i64 y1, .int .i64 y2, .int .i64 n, .int .i64 mm] 48) := ⟨_, rfl⟩
        rw [← hwa]
        have hfa : Fr Nob wo wa := by rw [hwa]; exact (Fr.refl Nob wo).alloc _
        have Ha := Lib.hid (Ho.out.fr0 hfa)
        have Hc : Hid (Ac6 S wo.heap.size 1 y0 y1 y2 n mm wa) := ⟨by rw [hwa]; exact heap_alloc_new _ _, fun q => by have := (Ho.out.two.l _ q).2; omega⟩
        have hpz : wo.heap.size < wa.heap.size := by rw [hwa]; simp
        have Hpz := Lib.hid hpz
        clear hwa hfa e0 e1 e2 e3 e4 e5 hpz
        clear Ho
        generalize wo.heap.size = pa at *
        have a1 := blk_cell Hc.out.blk 1 rfl
        have a2 := blk_cell Hc.out.blk 2 rfl
        have a3 := blk_cell Hc.out.blk 3 rfl
        have hkey : ∀ W, Fr (From wa.heap.size) wa W → W.cell? ⟨pa, 1, none⟩ = some (.int .i64 y0) ∧ W.cell? ⟨pa, 2, none⟩ = some (.int .i64 y1) ∧ W.cell? ⟨pa, 3, none⟩ = some (.int .i64 y2) := fun W hf => by
          have hb := hf.blk (by unfold From; have := Hpz.out; omega) Hc.out.blk
          exact ⟨blk_cell hb 1 rfl, blk_cell hb 2 rfl, blk_cell hb 3 rfl⟩
        have Key := Lib.hid hkey
        clear hkey
        have hm24 : (0 + m) * 24 ≤ 140737488355328 ∧ (0 + m + 1) * 24 ≤ 140737488355328 := ⟨by omega, by omega⟩
        have Hm24 := Lib.hid hm24
        have hz1 : (wa.alloc (.cells #[.int .i64 y0, .int .i64 y1, .int .i64 y2] 46)).heap.size = wa.heap.size + 1 := by simp
        have hz1' : (wa.alloc (.cells #[] 46)).heap.size = wa.heap.size + 1 := by simp
        have h01 : Sl (wa.alloc (.cells #[] 46)) (fun k => k = wa.heap.size) 46 3 (.slice (some ⟨wa.heap.size, 0, none⟩) 0 0) 0 [] := Sl.lit wa 46 3 #[] 0 (fun k => k = wa.heap.size) rfl (by simp [maxLen]) rfl
        have h03 := Sl.lit (wa.alloc (.cells #[.int .i64 y0, .int .i64 y1, .int .i64 y2] 46)) 46 3 #[] 0 (fun k => k = wa.heap.size + 1) hz1 (by simp [maxLen]) rfl
        rw [hz1] at h03
        have H01 := Lib.hid h01.drew; have H02 := Lib.hid (h01.alloc (.cells #[.int .i64 y0, .int .i64 y1, .int .i64 y2] 46)).drew; have H03 := Lib.hid h03.drew
        have F1 := (((Fr.refl Nob wa).alloc (.cells #[] 46)).drew)
        have F2 := ((((Fr.refl Nob wa).alloc (.cells #[] 46))).alloc (.cells #[.int .i64 y0, .int .i64 y1, .int .i64 y2] 46)).drew
        have F3 := ((((Fr.refl Nob wa).alloc (.cells #[.int .i64 y0, .int .i64 y1, .int .i64 y2] 46))).alloc (.cells #[] 46)).drew
        have HR1 := Lib.hid (Ha.out.sl.rd.fr F1); have HR2 := Lib.hid (Ha.out.sl.rd.fr F2); have HR3 := Lib.hid (Ha.out.sl.rd.fr F3)
        have hb2 : ((wa.alloc (.cells #[] 46)).alloc (.cells #[.int .i64 y0, .int .i64 y1, .int .i64 y2] 46)).drew.heap[wa.heap.size + 1]? = some (.cells #[.int .i64 y0, .int .i64 y1, .int .i64 y2] 46 (0, 0)) := blk_alloc_eq _ hz1'.symm
        have hb3 : ((wa.alloc (.cells #[.int .i64 y0, .int .i64 y1, .int .i64 y2] 46)).alloc (.cells #[] 46)).drew.heap[wa.heap.size]? = some (.cells #[.int .i64 y0, .int .i64 y1, .int .i64 y2] 46 (0, 0)) := ((Fr.refl Nob (wa.alloc (.cells #[.int .i64 y0, .int .i64 y1, .int .i64 y2] 46))).alloc _).drew.blk id (heap_alloc_new wa _)
        have HF1 := Lib.hid (F1.none (S := From wa.heap.size)); have HF2 := Lib.hid (F2.none (S := From wa.heap.size)); have HF3 := Lib.hid (F3.none (S := From wa.heap.size)); have HB2 := Lib.hid hb2; have HB3 := Lib.hid hb3
        have Hk1 := Lib.hid (Nat.le_refl wa.heap.size); have Hk2 := Hk1; have Hk3 := Lib.hid (Nat.le_succ wa.heap.size)
        have Hne2 := Lib.hid (Nat.succ_ne_self wa.heap.size); have Hne3 := Lib.hid (Nat.succ_ne_self wa.heap.size).symm
        clear hz1 hz1' h01 h03 F1 F2 F3 hb2 hb3 hm24
        go_region_held3 (fun W => W.cell? ⟨pa, 1, none⟩ = some (.int .i64 y0) ∧ W.cell? ⟨pa, 2, none⟩ = some (.int .i64 y1) ∧ W.cell? ⟨pa, 3, none⟩ = some (.int .i64 y2))
          ((refine Key.out _ ?_; repeat (first | with_reducible exact hf4 | with_reducible exact hf5 | with_reducible exact Fr.refl _ _ | with_reducible refine Fr.drew ?_ | with_reducible refine Fr.alloc ?_ _)))
          ((first
            | (refine step_append_rd _ rfl _ _ _ rfl (fun k => k = wa.heap.size) 46 _ 3 24 Try.underlying44 info_wait rfl (by decide) (.slice (some ⟨wa.heap.size, 0, none⟩) 0 0) 0 [] rfl (by with_reducible exact H01.out) (.slice A m c) m (waits q) rfl (by with_reducible exact HR1.out) (waits_one q) (by decide) Hm24.out.1 ?_; intro v4 w4 hs40 hf40; have hf4 := HF1.out.trans0 (hf40.mono (at_of Hk1.out)); have hs4 := hs40.mono (old_of HF1.out Hk1.out); have hx4 := Lib.hid (show True from trivial))
            | (refine step_append_rd _ rfl _ _ _ rfl (fun k => k = wa.heap.size) 46 _ 3 24 Try.underlying44 info_wait rfl (by decide) (.slice (some ⟨wa.heap.size, 0, none⟩) 0 0) 0 [] rfl (by with_reducible exact H02.out) (.slice A m c) m (waits q) rfl (by with_reducible exact HR2.out) (waits_one q) (by decide) Hm24.out.1 ?_; intro v4 w4 hs40 hf40; have hf4 := HF2.out.trans0 (hf40.mono (at_of Hk2.out)); have hs4 := hs40.mono (old_of HF2.out Hk2.out); have hx4 := Lib.hid (hf40.blk Hne2.out HB2.out))
            | (refine step_append_rd _ rfl _ _ _ rfl (fun k => k = wa.heap.size + 1) 46 _ 3 24 Try.underlying44 info_wait rfl (by decide) (.slice (some ⟨wa.heap.size + 1, 0, none⟩) 0 0) 0 [] rfl (by with_reducible exact H03.out) (.slice A m c) m (waits q) rfl (by with_reducible exact HR3.out) (waits_one q) (by decide) Hm24.out.1 ?_; intro v4 w4 hs40 hf40; have hf4 := HF3.out.trans0 (hf40.mono (at_of Hk3.out)); have hs4 := hs40.mono (old_of HF3.out Hk3.out); have hx4 := Lib.hid (hf40.blk Hne3.out HB3.out))
            | (refine step_append_sl _ rfl _ _ _ rfl (From wa.heap.size) 46 _ 3 24 Try.underlying44 info_wait rfl (by decide) v4 (0 + m) ([] ++ waits q) rfl (by with_reducible exact hs4.alloc _) ⟨w4.heap.size, 0, none⟩ 1 1 [.int .i64 y0, .int .i64 y1, .int .i64 y2] rfl rfl (lit_cells (heap_alloc_new w4 _)) rfl Hm24.out.2 (by decide) ?_; intro v5 w5 hs50 hf50; have hf5 := (hf4.alloc (.cells #[.int .i64 y0, .int .i64 y1, .int .i64 y2] 46)).trans0 hf50; have hs5 := hs50.mono (new_of (hf4.alloc (.cells #[.int .i64 y0, .int .i64 y1, .int .i64 y2] 46))))
            | (refine step_append_sl _ rfl _ _ _ rfl (From wa.heap.size) 46 _ 3 24 Try.underlying44 info_wait rfl (by decide) v4 (0 + m) ([] ++ waits q) rfl (by with_reducible exact hs4) ⟨wa.heap.size + 1, 0, none⟩ 1 1 [.int .i64 y0, .int .i64 y1, .int .i64 y2] rfl rfl (lit_cells hx4.out) rfl Hm24.out.2 (by decide) ?_; intro v5 w5 hs50 hf50; have hf5 := (hf4).trans0 hf50; have hs5 := hs50.mono (new_of (hf4)))
            | (refine step_append_sl _ rfl _ _ _ rfl (From wa.heap.size) 46 _ 3 24 Try.underlying44 info_wait rfl (by decide) v4 (0 + m) ([] ++ waits q) rfl (by with_reducible exact hs4) ⟨wa.heap.size, 0, none⟩ 1 1 [.int .i64 y0, .int .i64 y1, .int .i64 y2] rfl rfl (lit_cells hx4.out) rfl Hm24.out.2 (by decide) ?_; intro v5 w5 hs50 hf50; have hf5 := (hf4).trans0 hf50; have hs5 := hs50.mono (new_of (hf4)))))
        all_goals (as_aux_lemma =>
          obtain ⟨A5, c5, rfl⟩ := hs5.slice
          have e5 : 0 + m + 1 = m + 1 := by omega
          rw [e5] at hs5 ⊢
          have Hz5 : Hid (St6 w b q (q ++ [(y0, y1, y2)]) (m + 1) A5 c5 S _ w5) := Ha.out.newSl hf5 (by simpa [waits] using hs5)
          have f5 := hf5.old
          have Hc5 := Lib.hid (Hc.out.fr0 f5)
          have b1 := blk_cell Hc5.out.blk 1 rfl
          have b2 := blk_cell Hc5.out.blk 2 rfl
          have b3 := blk_cell Hc5.out.blk 3 rfl
          clear hs5 hf5 e5 f5 a1 a2 a3
          go_wp2_with fail
          refine (wait_push w5 _ b q (y0, y1, y2) m Hm.out Hz5.out.wt (by omega)).mono ?_
          rintro e w6 ⟨rfl, hf6, hq6⟩
          have Hz := Lib.hid (Hz5.out.grow hf6 hq6)
          have HM : Hid ((q ++ [(y0, y1, y2)]).length = m + 1) := by rw [List.length_append, Hm.out]; exact rfl
          clear hf6 hq6 b1 b2 b3
          go_wp2_with fail
          refine (wait_all w6 _ b (q ++ [(y0, y1, y2)]) (m + 1) HM.out Hz.out.wt).mono ?_
          rintro e w7 ⟨v7, rfl, hf7, hs7⟩
          obtain ⟨A7, c7, rfl⟩ := hs7.slice
          have Hz7 := Lib.hid (Hz.out.fr0 hf7)
          have Hs7 := Lib.hid hs7
          clear hf7 hs7
          go_wp2_with fail
          refine (alike_waits w7 _ _ (q ++ [(y0, y1, y2)]) (m + 1) HM.out Hs7.out.rd Hz7.out.sl.rd).mono ?_
          rintro e w8 ⟨rfl, hq8⟩
          have Hz8 := Lib.hid (Hz7.out.fr0 (Fr.ofDrew hq8)); clear hq8
          go_wp2_with fail
          refine (wait_len w8 _ b (q ++ [(y0, y1, y2)]) (m + 1) HM.out Hz8.out.wt).mono ?_
          rintro e w9 ⟨rfl, rfl⟩
          go_wp2_with fail
          go_roundw
          case rel => exact ⟨(q ++ [(y0, y1, y2)]), (m + 1), i + 1, _, _, _, _, HM, by omega, by omega, by go_num, rfl, Hz8⟩
          case measure => simp [intOf]; omega)
      · as_aux_lemma =>
        go_wp2_with fail
        obtain ⟨wa, hwa⟩ : ∃ wa, wa = wo.alloc (.cells #[.int .i64 2, .int .i64 y0, .int .i64 y1, .int .i64 y2, .int .i64 n, .int .i64 mm] 48) := ⟨_, rfl⟩
        rw [← hwa]
        have hfa : Fr Nob wo wa := by rw [hwa]; exact (Fr.refl Nob wo).alloc _
        have Ha := Lib.hid (Ho.out.fr0 hfa)
        have Hc : Hid (Ac6 S wo.heap.size 2 y0 y1 y2 n mm wa) := ⟨by rw [hwa]; exact heap_alloc_new _ _, fun q => by have := (Ho.out.two.l _ q).2; omega⟩
        have hpz : wo.heap.size < wa.heap.size := by rw [hwa]; simp
        have Hpz := Lib.hid hpz
        clear hwa hfa e0 e1 e2 e3 e4 e5 hpz
        clear Ho
        generalize wo.heap.size = pa at *
        cases q with
        | nil => as_aux_lemma =>
          have hm0 := Hm.out
          simp at hm0
          subst hm0
          refine (wait_pop_none wa S b Ha.out.wt).mono ?_
          rintro e w2 ⟨rfl, hf2⟩
          have Hz2 := Lib.hid (Ha.out.fr0 hf2)
          clear hf2
          go_wp2_with fail
          obtain ⟨w3, hw3⟩ : ∃ w3, w3 = w2.alloc (.cells #[.int .i64 0, .int .i64 0, .int .i64 0] 46) := ⟨_, rfl⟩
          rw [← hw3]
          have hf3 : Fr Nob w2 w3 := by rw [hw3]; exact (Fr.refl Nob w2).alloc _
          have hr3 : w3.heap[w2.heap.size]? = some (.cells #[.int .i64 0, .int .i64 0, .int .i64 0] 46 (0, 0)) := by rw [hw3]; exact heap_alloc_new _ _
          have t0 := blk_cell hr3 0 rfl
          have t1 := blk_cell hr3 1 rfl
          have t2 := blk_cell hr3 2 rfl
          have Hz3 := Lib.hid (Hz2.out.fr0 hf3)
          clear hw3 hf3 hr3
          go_quiet (fail)
          obtain ⟨w4, hw4⟩ : ∃ w4, w4 = w3.drewN nq := ⟨_, rfl⟩
          rw [← hw4]
          have Hz := Lib.hid (Hz3.out.fr0 (Fr.ofDrew ⟨nq, hw4⟩))
          have HM : Hid (([] : List Wt).length = 0) := rfl
          clear hw4 t0 t1 t2
          go_wp2_with fail
          refine (wait_all w4 _ b [] 0 HM.out Hz.out.wt).mono ?_
          rintro e w7 ⟨v7, rfl, hf7, hs7⟩
          obtain ⟨A7, c7, rfl⟩ := hs7.slice
          have Hz7 := Lib.hid (Hz.out.fr0 hf7)
          have Hs7 := Lib.hid hs7
          clear hf7 hs7
          go_wp2_with fail
          refine (alike_waits w7 _ _ [] 0 HM.out Hs7.out.rd Hz7.out.sl.rd).mono ?_
          rintro e w8 ⟨rfl, hq8⟩
          have Hz8 := Lib.hid (Hz7.out.fr0 (Fr.ofDrew hq8)); clear hq8
          go_wp2_with fail
          refine (wait_len w8 _ b [] 0 HM.out Hz8.out.wt).mono ?_
          rintro e w9 ⟨rfl, rfl⟩
          go_wp2_with fail
          go_roundw
          case rel => exact ⟨[], 0, i + 1, _, _, _, _, HM, by omega, by omega, by go_num, rfl, Hz8⟩
          case measure => simp [intOf]; omega
        | cons z q => as_aux_lemma =>
          obtain ⟨m, rfl⟩ : ∃ k, m = k + 1 := ⟨q.length, by have := Hm.out; simp at this; omega⟩
          have HM : Hid (q.length = m) := by have := Hm.out; simp at this; exact this
          refine (wait_pop_some wa S b z q Ha.out.wt).mono ?_
          rintro e w2 ⟨rfl, hf2, hq2⟩
          have Hz2 := Lib.hid (Ha.out.same hf2 hq2)
          clear hf2 hq2
          go_wp2_with fail
          obtain ⟨w3, hw3⟩ : ∃ w3, w3 = w2.alloc (.cells #[.int .i64 z.1, .int .i64 z.2.1, .int .i64 z.2.2] 46) := ⟨_, rfl⟩
          rw [← hw3]
          have hf3 : Fr Nob w2 w3 := by rw [hw3]; exact (Fr.refl Nob w2).alloc _
          have hr3 : w3.heap[w2.heap.size]? = some (.cells #[.int .i64 z.1, .int .i64 z.2.1, .int .i64 z.2.2] 46 (0, 0)) := by rw [hw3]; exact heap_alloc_new _ _
          have t0 := blk_cell hr3 0 rfl
          have t1 := blk_cell hr3 1 rfl
          have t2 := blk_cell hr3 2 rfl
          have Hz3 := Lib.hid (Hz2.out.fr0 hf3)
          obtain ⟨gw, ow, cw, hv, hTg, hgw, hcw, hcm, hcell, _⟩ := Hz3.out.sl.form (by omega)
          cases hv
          have u0 := hcell 0 _ rfl
          have u1 := hcell 1 _ rfl
          have u2 := hcell 2 _ rfl
          rw [Nat.add_zero] at u0
          have hm0 : decide ((0 : Int) < ((m + 1 : Nat) : Int)) = true := decide_eq_true (by omega)
          obtain ⟨A2, hrun2, hS2, hR2⟩ := cut_l (P := Try.prog) 44 46 3 Try.underlying44 (by kernel_rfl) (some ⟨gw, ow, none⟩) (m + 1) c 1 (by omega)
          have hrun2' : ∀ W : World, (Instr.slice 44 (.slice (some ⟨gw, ow, none⟩) (m + 1) c) (some (.int .i64 1)) none none).run Try.prog W = .ok (.slice A2 m (c - 1)) W := hrun2
          have hsc := hS2 w3 _ _ _ Hz3.out.sl
          rw [Nat.add_sub_cancel, waits_drop] at hsc
          have Hz4 : Hid (St6 w b q q m A2 (c - 1) S T w3) := Hz3.out.toSl hsc
          clear hw3 hf3 hr3 hcell hS2 hR2 hrun2 hsc
          go_quiet (fail)
          obtain ⟨w4, hw4⟩ : ∃ w4, w4 = w3.drewN nq := ⟨_, rfl⟩
          rw [← hw4]
          have Hz := Lib.hid (Hz4.out.fr0 (Fr.ofDrew ⟨nq, hw4⟩))
          clear hw4 t0 t1 t2 u0 u1 u2
          go_wp2_with fail
          refine (wait_all w4 _ b q m HM.out Hz.out.wt).mono ?_
          rintro e w7 ⟨v7, rfl, hf7, hs7⟩
          obtain ⟨A7, c7, rfl⟩ := hs7.slice
          have Hz7 := Lib.hid (Hz.out.fr0 hf7)
          have Hs7 := Lib.hid hs7
          clear hf7 hs7
          go_wp2_with fail
          refine (alike_waits w7 _ _ q m HM.out Hs7.out.rd Hz7.out.sl.rd).mono ?_
          rintro e w8 ⟨rfl, hq8⟩
          have Hz8 := Lib.hid (Hz7.out.fr0 (Fr.ofDrew hq8)); clear hq8
          go_wp2_with fail
          refine (wait_len w8 _ b q m HM.out Hz8.out.wt).mono ?_
          rintro e w9 ⟨rfl, rfl⟩
          go_wp2_with fail
          go_roundw
          case rel => exact ⟨q, m, i + 1, _, _, _, _, HM, by omega, by omega, by go_num, rfl, Hz8⟩
          case measure => simp [intOf]; omega
      · as_aux_lemma =>
        go_wp2_with fail
        obtain ⟨wa, hwa⟩ : ∃ wa, wa = wo.alloc (.cells #[.int .i64 3, .int .i64 y0, .int .i64 y1, .int .i64 y2, .int .i64 n, .int .i64 mm] 48) := ⟨_, rfl⟩
        rw [← hwa]
        have hfa : Fr Nob wo wa := by rw [hwa]; exact (Fr.refl Nob wo).alloc _
        have Ha := Lib.hid (Ho.out.fr0 hfa)
        have Hc : Hid (Ac6 S wo.heap.size 3 y0 y1 y2 n mm wa) := ⟨by rw [hwa]; exact heap_alloc_new _ _, fun q => by have := (Ho.out.two.l _ q).2; omega⟩
        have hpz : wo.heap.size < wa.heap.size := by rw [hwa]; simp
        have Hpz := Lib.hid hpz
        clear hwa hfa e0 e1 e2 e3 e4 e5 hpz
        clear Ho
        generalize wo.heap.size = pa at *
        go_loopw [9, 10] (fun v9 v10 wz => ∃ (k r : Nat) (A' : Option Addr) (c' : Nat), v10 = .int .i64 k ∧ k ≤ m ∧ v9 = .slice A' r c' ∧ Hid ((notT (q.take k) n).length = r) ∧ r ≤ k ∧ Hid (Fr (From wa.heap.size) wa wz) ∧ Hid (Sl wz (From wa.heap.size) 46 3 (.slice A' r c') r (waits (notT (q.take k) n)))) (fun _ k _ => m - (intOf k).toNat)
        case atStart => exact ⟨0, 0, none, 0, rfl, Nat.zero_le _, rfl, rfl, Nat.zero_le _, Fr.refl _ _, Sl.nil _ _ _ _⟩
        case round =>
          obtain ⟨k, r, A', c', rfl, hk, rfl, Hr, hrk, Hfz, Hsz⟩ := hrel
          have Hb := Lib.hid (Ha.out.fr0 Hfz.out.old)
          have Hc2 := Lib.hid (Hc.out.fr0 Hfz.out.old)
          have a4 := blk_cell Hc2.out.blk 4 rfl
          by_cases hlt3 : k < m
          · obtain ⟨gw, ow, cw, hv, hTg, hgw, hcw, hcm, hcell, _⟩ := Hb.out.sl.form (by omega)
            cases hv
            obtain ⟨z0, z1, z2, d0, d1, d2, hz⟩ := waits_at q k (by rw [Hm.out]; exact hlt3)
            have u0 := hcell _ _ d0
            have u1 := hcell _ _ d1
            have u2 := hcell _ _ d2
            rw [← Nat.add_assoc] at u1 u2
            have hsn := notT_snoc6 (q.take k) (z0, z1, z2) n
            rw [← take_snocW q k _ hz] at hsn
            have Hsn := Lib.hid hsn
            have hki : (k : Int) < m := by omega
            clear hcell d0 d1 d2 hz hsn
            by_cases hzn : z0 = n
            · subst hzn
              have hne : (z0 != z0) = false := by simp
              go_wp2_with fail
              go_quiet (fail)
              obtain ⟨w4, hw4⟩ : ∃ w4, w4 = wr.drewN nq := ⟨_, rfl⟩
              rw [← hw4]
              have hf4 := Fr.ofDrew ⟨nq, hw4⟩
              have hsn2 : notT (q.take (k + 1)) z0 = notT (q.take k) z0 := by rw [Hsn.out, if_pos (by simp)]
              have Hr2 : Hid ((notT (q.take (k + 1)) z0).length = r) := by rw [hsn2]; exact Hr.out
              have Hs2 : Hid (Sl w4 (From wa.heap.size) 46 3 (.slice A' r c') r (waits (notT (q.take (k + 1)) z0))) := by rw [hsn2]; exact Hsz.out.fr hf4 fun _ _ q => q
              have Hf2 := Lib.hid (Hfz.out.trans0 hf4.none)
              clear hw4 hf4 hsn2
              go_wp2_with fail
              go_roundw
              case rel => exact ⟨k + 1, r, A', c', by go_num, by omega, rfl, Hr2, by omega, Hf2, Hs2⟩
              case measure => simp [intOf]; omega
            · have hne : (z0 != n) = true := by simpa using hzn
              go_wp2_with fail
              go_quiet (fail)
              obtain ⟨w4, hw4⟩ : ∃ w4, w4 = wr.drewN nq := ⟨_, rfl⟩
              rw [← hw4]
              have hf4 := Fr.ofDrew ⟨nq, hw4⟩
              have v0 := hf4.cell id u0
              have v1 := hf4.cell id u1
              have v2 := hf4.cell id u2
              have Hs2 := Lib.hid (Hsz.out.fr hf4 fun _ _ q => q)
              have Hf2 := Lib.hid (Hfz.out.trans0 hf4.none)
              have hsn2 : notT (q.take (k + 1)) n = notT (q.take k) n ++ [(z0, z1, z2)] := by rw [Hsn.out, if_neg (by simpa using hzn)]
              have Hsn2 := Lib.hid hsn2
              have hr80 : r ≤ 80 := by omega
              clear hw4 hf4 hsn2 u0 u1 u2 a4
              go_wp2_with (at_builtin; (refine wpList_append1 _ rfl _ _ _ rfl (From wa.heap.size) 46 _ 3 24 Try.underlying44 info_wait rfl (by omega) (.slice A' r c') r (waits (notT (q.take k) n)) [.int .i64 z0, .int .i64 z1, .int .i64 z2] rfl Hs2.out rfl rfl rfl (by omega) (by omega) ?_; intro v5 w5 hs5 hf5 hz5))
              obtain ⟨A5, c5, rfl⟩ := hs5.slice
              have Hs5 : Hid (Sl w5 (From wa.heap.size) 46 3 (.slice A5 (r + 1) c5) (r + 1) (waits (notT (q.take (k + 1)) n))) := by
                rw [Hsn2.out, ← waits_app]
                have hq : waits [(z0, z1, z2)] = [.int .i64 z0, .int .i64 z1, .int .i64 z2] := rfl
                rw [hq]
                refine hs5.mono fun k hk q => ?_
                first | exact q | (rcases q with q | q; exact q; (have := Hf2.out.size; unfold From; omega))
              have Hf5 := Lib.hid (Hf2.out.trans0 hf5)
              have Hr5 : Hid ((notT (q.take (k + 1)) n).length = r + 1) := by rw [Hsn2.out, List.length_append, Hr.out]; exact rfl
              clear hs5 hf5 hz5
              go_wp2_with fail
              go_roundw
              case rel => exact ⟨k + 1, r + 1, A5, c5, by go_num, by omega, rfl, Hr5, by omega, Hf5, Hs5⟩
              case measure => simp [intOf]; omega
          · obtain rfl : k = m := by omega
            have htk : q.take k = q := by rw [← Hm.out, List.take_length]
            rw [htk] at Hr Hsz
            have hrm := wait_remove wr S b q n Hb.out.wt
            rw [Hm.out, Hr.out] at hrm
            have hsub : ((k - r : Nat) : Int) = (k : Int) - r := by omega
            rw [hsub] at hrm
            have hwr : IntKind.i64.wrap ((k : Int) - r) = (k : Int) - r := IntWalk.i64_in _ (by omega)
            have Hrm := Lib.hid hrm
            clear hrm hsub htk
            go_wp2_with fail
            refine Hrm.out.mono ?_
            rintro e w2 ⟨rfl, hf2, hq2⟩
            have Hz3 := Lib.hid ((Hb.out.same hf2 hq2))
            have Hz : Hid (St6 w b (notT q n) (notT q n) r A' c' S (fun k => wa.heap.size ≤ k ∧ k < wr.heap.size) w2) := (Ha.out.newSl Hfz.out Hsz.out).same hf2 hq2
            have HM := Hr
            clear hf2 hq2
            go_wp2_with fail
            refine (wait_all w2 _ b (notT q n) r HM.out Hz.out.wt).mono ?_
            rintro e w7 ⟨v7, rfl, hf7, hs7⟩
            obtain ⟨A7, c7, rfl⟩ := hs7.slice
            have Hz7 := Lib.hid (Hz.out.fr0 hf7)
            have Hs7 := Lib.hid hs7
            clear hf7 hs7
            go_wp2_with fail
            refine (alike_waits w7 _ _ (notT q n) r HM.out Hs7.out.rd Hz7.out.sl.rd).mono ?_
            rintro e w8 ⟨rfl, hq8⟩
            have Hz8 := Lib.hid (Hz7.out.fr0 (Fr.ofDrew hq8)); clear hq8
            go_wp2_with fail
            refine (wait_len w8 _ b (notT q n) r HM.out Hz8.out.wt).mono ?_
            rintro e w9 ⟨rfl, rfl⟩
            go_wp2_with fail
            go_roundw
            case rel => exact ⟨(notT q n), r, i + 1, _, _, _, _, HM, by omega, by omega, by go_num, rfl, Hz8⟩
            case measure => simp [intOf]; omega
      · as_aux_lemma =>
        have hws : IntKind.i64.wrap ((m : Int) - 1) = (m : Int) - 1 := IntWalk.i64_in _ (by omega)
        go_wp2_with fail
        obtain ⟨wa, hwa⟩ : ∃ wa, wa = wo.alloc (.cells #[.int .i64 4, .int .i64 y0, .int .i64 y1, .int .i64 y2, .int .i64 n, .int .i64 mm] 48) := ⟨_, rfl⟩
        rw [← hwa]
        have hfa : Fr Nob wo wa := by rw [hwa]; exact (Fr.refl Nob wo).alloc _
        have Ha := Lib.hid (Ho.out.fr0 hfa)
        have Hc : Hid (Ac6 S wo.heap.size 4 y0 y1 y2 n mm wa) := ⟨by rw [hwa]; exact heap_alloc_new _ _, fun q => by have := (Ho.out.two.l _ q).2; omega⟩
        have hpz : wo.heap.size < wa.heap.size := by rw [hwa]; simp
        have Hpz := Lib.hid hpz
        clear hwa hfa e0 e1 e2 e3 e4 e5 hpz
        clear Ho
        generalize wo.heap.size = pa at *
        go_loopw [11, 12] (fun v11 v12 wz => ∃ (y a : Int), v12 = .int .i64 y ∧ -1 ≤ y ∧ y < m ∧ v11 = .int .i64 a ∧ Hid (AtP q n mm (y + 1).toNat a) ∧ Hid (Fr Nob wa wz)) (fun _ v12 _ => (intOf v12 + 1).toNat)
        case atStart => exact ⟨(m : Int) - 1, -1, by go_num, by omega, by omega, rfl, .inl ⟨rfl, fun j y hj hy => by have := (List.getElem?_eq_some_iff.1 hy).1; have := Hm.out; omega⟩, Fr.refl _ _⟩
        case round =>
          obtain ⟨y, a, rfl, hy1, hy2, rfl, Hat, Hfz⟩ := hrel
          have Hb := Lib.hid (Ha.out.fr0 Hfz.out)
          have Hc2 := Lib.hid (Hc.out.fr0 Hfz.out)
          have a4 := blk_cell Hc2.out.blk 4 rfl
          have a5 := blk_cell Hc2.out.blk 5 rfl
          by_cases hlt4 : 0 ≤ y
          · obtain ⟨k, rfl⟩ := Int.eq_ofNat_of_zero_le hlt4
            have hkm : k < m := by omega
            have hk1 : ((k : Int) + 1).toNat = k + 1 := by omega
            rw [hk1] at Hat
            obtain ⟨gw, ow, cw, hv, hTg, hgw, hcw, hcm, hcell, _⟩ := Hb.out.sl.form (by omega)
            cases hv
            obtain ⟨z0, z1, z2, d0, d1, d2, hz⟩ := waits_at q k (by rw [Hm.out]; exact hkm)
            have u0 := hcell _ _ d0
            have u1 := hcell _ _ d1
            rw [← Nat.add_assoc] at u1
            have Hzz := Lib.hid hz
            have hge : decide ((0 : Int) ≤ (k : Int)) = true := by simp
            have hkw : IntKind.i64.wrap ((k : Int) - 1) = (k : Int) - 1 := IntWalk.i64_in _ (by omega)
            have hk2 : ((k : Int) - 1 + 1).toNat = k := by omega
            have Hk2 := Lib.hid hk2
            clear hcell d0 d1 d2 hz hk1 hk2 hy1
            by_cases hz0 : z0 = n
            · have hz0b : (z0 == n) = true := by simp [hz0]
              by_cases hz1 : z1 = mm
              · have hz1b : (z1 == mm) = true := by simp [hz1]
                go_wp2_with fail
                go_quiet (fail)
                obtain ⟨w4, hw4⟩ : ∃ w4, w4 = wr.drewN nq := ⟨_, rfl⟩
                rw [← hw4]
                have Hf4 := Lib.hid (Hfz.out.trans0 (Fr.ofDrew ⟨nq, hw4⟩))
                clear hw4
                go_wp2_with fail
                go_roundw
                case rel => exact ⟨(k : Int) - 1, k, by go_num, by omega, by omega, rfl, by rw [Hk2.out]; exact AtP.hit Hzz.out (by simp [hz0b, hz1b]), Hf4⟩
                case measure => (simp [intOf] <;> omega)
              · have hz1b : (z1 == mm) = false := by simpa using hz1
                go_wp2_with fail
                go_quiet (fail)
                obtain ⟨w4, hw4⟩ : ∃ w4, w4 = wr.drewN nq := ⟨_, rfl⟩
                rw [← hw4]
                have Hf4 := Lib.hid (Hfz.out.trans0 (Fr.ofDrew ⟨nq, hw4⟩))
                clear hw4
                go_wp2_with fail
                go_roundw
                case rel => exact ⟨(k : Int) - 1, a, by go_num, by omega, by omega, rfl, by rw [Hk2.out]; exact Hat.out.keep Hzz.out (by simp [hz1b]), Hf4⟩
                case measure => (simp [intOf] <;> omega)
            · have hz0b : (z0 == n) = false := by simpa using hz0
              go_wp2_with fail
              go_quiet (fail)
              obtain ⟨w4, hw4⟩ : ∃ w4, w4 = wr.drewN nq := ⟨_, rfl⟩
              rw [← hw4]
              have Hf4 := Lib.hid (Hfz.out.trans0 (Fr.ofDrew ⟨nq, hw4⟩))
              clear hw4
              go_wp2_with fail
              go_roundw
              case rel => exact ⟨(k : Int) - 1, a, by go_num, by omega, by omega, rfl, by rw [Hk2.out]; exact Hat.out.keep Hzz.out (by simp [hz0b]), Hf4⟩
              case measure => (simp [intOf] <;> omega)
          · have hye : y = -1 := by omega
            subst hye
            have Hat2 : Hid (AtP q n mm 0 a) := Hat
            clear Hat hy1 hy2
            rcases Hat2.out with ⟨ha, hno⟩ | ⟨p, z, ha, _, hz, hyes, hmin⟩
            · subst ha
              have Htk := Lib.hid (wait_take_no wr S b q n mm Hb.out.wt fun y hy => by obtain ⟨j, hj⟩ := List.getElem?_of_mem hy; exact hno j y (Nat.zero_le _) hj)
              clear hno
              go_wp2_with fail
              refine Htk.out.mono ?_
              rintro e w2 ⟨rfl, hf2⟩
              have Hz2 := Lib.hid (Hb.out.fr0 hf2)
              clear hf2
              go_wp2_with fail
              obtain ⟨w3, hw3⟩ : ∃ w3, w3 = w2.alloc (.cells #[.int .i64 0, .int .i64 0, .int .i64 0] 46) := ⟨_, rfl⟩
              rw [← hw3]
              have hf3 : Fr Nob w2 w3 := by rw [hw3]; exact (Fr.refl Nob w2).alloc _
              have Hz3 := Lib.hid (Hz2.out.fr0 hf3)
              clear hw3 hf3
              go_quiet (fail)
              obtain ⟨w4, hw4⟩ : ∃ w4, w4 = w3.drewN nq := ⟨_, rfl⟩
              rw [← hw4]
              have Hz := Lib.hid (Hz3.out.fr0 (Fr.ofDrew ⟨nq, hw4⟩))
              have HM := Hm
              clear hw4
              go_wp2_with fail
              refine (wait_all w4 _ b q m HM.out Hz.out.wt).mono ?_
              rintro e w7 ⟨v7, rfl, hf7, hs7⟩
              obtain ⟨A7, c7, rfl⟩ := hs7.slice
              have Hz7 := Lib.hid (Hz.out.fr0 hf7)
              have Hs7 := Lib.hid hs7
              clear hf7 hs7
              go_wp2_with fail
              refine (alike_waits w7 _ _ q m HM.out Hs7.out.rd Hz7.out.sl.rd).mono ?_
              rintro e w8 ⟨rfl, hq8⟩
              have Hz8 := Lib.hid (Hz7.out.fr0 (Fr.ofDrew hq8)); clear hq8
              go_wp2_with fail
              refine (wait_len w8 _ b q m HM.out Hz8.out.wt).mono ?_
              rintro e w9 ⟨rfl, rfl⟩
              go_wp2_with fail
              go_roundw
              case rel => exact ⟨q, m, i + 1, _, _, _, _, HM, by omega, by omega, by go_num, rfl, Hz8⟩
              case measure => simp [intOf]; omega
            · subst ha
              have hpm : p < m := by have := (List.getElem?_eq_some_iff.1 hz).1; have := Hm.out; omega
              have Htk := Lib.hid (wait_take_at wr S b q n mm p z Hb.out.wt hz hyes fun j hj y hy => hmin j y (Nat.zero_le _) hj hy)
              have Hzz := Lib.hid hz
              clear hmin hyes hz
              go_wp2_with fail
              refine Htk.out.mono ?_
              rintro e w2 ⟨rfl, hf2, hq2⟩
              have Hz2 := Lib.hid (Hb.out.same hf2 hq2)
              clear hf2 hq2
              go_wp2_with fail
              obtain ⟨w3, hw3⟩ : ∃ w3, w3 = w2.alloc (.cells #[.int .i64 z.1, .int .i64 z.2.1, .int .i64 z.2.2] 46) := ⟨_, rfl⟩
              rw [← hw3]
              have hf3 : Fr Nob w2 w3 := by rw [hw3]; exact (Fr.refl Nob w2).alloc _
              have hr3 : w3.heap[w2.heap.size]? = some (.cells #[.int .i64 z.1, .int .i64 z.2.1, .int .i64 z.2.2] 46 (0, 0)) := by rw [hw3]; exact heap_alloc_new _ _
              have t0 := blk_cell hr3 0 rfl
              have t1 := blk_cell hr3 1 rfl
              have t2 := blk_cell hr3 2 rfl
              have Hz3 := Lib.hid (Hz2.out.fr0 hf3)
              obtain ⟨gw, ow, cw, hv, hTg, hgw, hcw, hcm, hcell, _⟩ := Hz3.out.sl.form (by omega)
              cases hv
              have u0 := hcell (p * 3) _ ((flat_get3 q p 0 z Hzz.out (by omega)))
              have u1 := hcell (p * 3 + 1) _ ((flat_get3 q p 1 z Hzz.out (by omega)))
              have u2 := hcell (p * 3 + 2) _ ((flat_get3 q p 2 z Hzz.out (by omega)))
              rw [← Nat.add_assoc] at u1 u2
              have hge : decide ((0 : Int) ≤ (p : Int)) = true := by simp
              have hpi : (p : Int) < m := by omega
              clear hw3 hf3 hr3 hcell
              go_quiet (fail)
              obtain ⟨w4, hw4⟩ : ∃ w4, w4 = w3.drewN nq := ⟨_, rfl⟩
              rw [← hw4]
              have Hz4 := Lib.hid (Hz3.out.fr0 (Fr.ofDrew ⟨nq, hw4⟩))
              clear hw4 t0 t1 t2 u0 u1 u2 a4 a5
              obtain ⟨A2, hrun2, hS2, hR2⟩ := cut_h (P := Try.prog) 44 46 3 Try.underlying44 (by kernel_rfl) (some ⟨gw, ow, none⟩) m c p (by omega) (by omega)
              obtain ⟨A3, hrun3, hS3, hR3⟩ := cut_l (P := Try.prog) 44 46 3 Try.underlying44 (by kernel_rfl) (some ⟨gw, ow, none⟩) m c (p + 1) (by omega)
              have hR2' := hR2 w4 _ Hz4.out.sl.rd
              have hR3' := hR3 w4 _ Hz4.out.sl.rd
              rw [waits_take] at hR2'
              rw [waits_drop] at hR3'
              have HR2 := Lib.hid hR2'; have HR3 := Lib.hid hR3'
              have hrun3' : ∀ W : World, (Instr.slice 44 (.slice (some ⟨gw, ow, none⟩) m c) (some (.int .i64 ((p : Int) + 1))) none none).run Try.prog W = .ok (.slice A3 (m - (p + 1)) (c - (p + 1))) W := hrun3
              have e1 : IntKind.i64.wrap ((p : Int) + 1) = (p : Int) + 1 := IntWalk.i64_in _ (by omega)
              have H0 : Hid (Sl ((w4.alloc (.cells #[] 46)).drew) (From w4.heap.size) 46 3 (.slice (some ⟨w4.heap.size, 0, none⟩) 0 0) 0 []) := (Sl.lit w4 46 3 #[] 0 (From w4.heap.size) (by simp [From]) (by simp [maxLen]) rfl).drew
              clear hS2 hS3 hR2 hR3 hR2' hR3' hrun3
              unfold maxLen at hcm
              go_wp2_with fail
              go_region_held3 (fun _ => True) (exact trivial)
                ((first | (refine step_append_rd _ rfl _ _ _ rfl (From w4.heap.size) 46 _ 3 24 Try.underlying44 info_wait rfl (by omega) (.slice (some ⟨w4.heap.size, 0, none⟩) 0 0) 0 [] rfl H0.out (.slice A2 p c) p _ rfl (HR2.out.fr (((Fr.refl Nob w4).alloc _).drew)) (waits_one _) (by omega) (by omega) ?_; intro v4 w5 hs4 hf4) | (refine step_append_rd _ rfl _ _ _ rfl (From w4.heap.size) 46 _ 3 24 Try.underlying44 info_wait rfl (by omega) v4 (0 + p) _ rfl (hs4.mono (fun k hk q => by rcases q with q | q; exact q; simp at q; unfold From; omega)) (.slice A3 (m - (p + 1)) (c - (p + 1))) (m - (p + 1)) _ rfl (HR3.out.fr (((((Fr.refl (From w4.heap.size) w4).alloc _).drew).trans0 hf4).mono fun k hk q => by unfold From at q; omega)) (waits_one _) (by omega) (by omega) ?_; intro v5 w5 hs5 hf5)))
              obtain ⟨A5, c5, rfl⟩ := hs5.slice
              have hf6 : Fr (From w4.heap.size) w4 w5 := (((((Fr.refl (From w4.heap.size) w4).alloc _).drew).trans0 hf4).trans0 hf5)
              have hk5 : 0 + p + (m - (p + 1)) = m - 1 := by omega
              rw [hk5] at hs5 ⊢
              have hse : Sl w5 (From w4.heap.size) 46 3 (.slice A5 (m - 1) c5) (m - 1) (waits (q.eraseIdx p)) := by
                have h := hs5.mono (S' := From w4.heap.size) (fun k hk q => by rcases q with q | q; exact q; (have := hf4.size; simp at this q; unfold From; omega))
                rw [List.eraseIdx_eq_take_drop_succ, ← waits_app]
                simpa using h
              have Hz := Lib.hid (Hz4.out.newSl hf6 hse)
              have HM : Hid ((q.eraseIdx p).length = m - 1) := by rw [List.length_eraseIdx, if_pos (by rw [Hm.out]; exact hpm), Hm.out]; exact rfl
              clear hs4 hf4 hs5 hf5 hf6 hk5 hse hrun2 hrun3' e1
              go_wp2_with fail
              refine (wait_all w5 _ b (q.eraseIdx p) (m - 1) HM.out Hz.out.wt).mono ?_
              rintro e w7 ⟨v7, rfl, hf7, hs7⟩
              obtain ⟨A7, c7, rfl⟩ := hs7.slice
              have Hz7 := Lib.hid (Hz.out.fr0 hf7)
              have Hs7 := Lib.hid hs7
              clear hf7 hs7
              go_wp2_with fail
              refine (alike_waits w7 _ _ (q.eraseIdx p) (m - 1) HM.out Hs7.out.rd Hz7.out.sl.rd).mono ?_
              rintro e w8 ⟨rfl, hq8⟩
              have Hz8 := Lib.hid (Hz7.out.fr0 (Fr.ofDrew hq8)); clear hq8
              go_wp2_with fail
              refine (wait_len w8 _ b (q.eraseIdx p) (m - 1) HM.out Hz8.out.wt).mono ?_
              rintro e w9 ⟨rfl, rfl⟩
              go_wp2_with fail
              go_roundw
              case rel => exact ⟨(q.eraseIdx p), (m - 1), i + 1, _, _, _, _, HM, by omega, by omega, by go_num, rfl, Hz8⟩
              case measure => simp [intOf]; omega
      · as_aux_lemma =>
        go_wp2_with fail
        obtain ⟨wa, hwa⟩ : ∃ wa, wa = wo.alloc (.cells #[.int .i64 5, .int .i64 y0, .int .i64 y1, .int .i64 y2, .int .i64 n, .int .i64 mm] 48) := ⟨_, rfl⟩
        rw [← hwa]
        have hfa : Fr Nob wo wa := by rw [hwa]; exact (Fr.refl Nob wo).alloc _
        have Ha := Lib.hid (Ho.out.fr0 hfa)
        have Hc : Hid (Ac6 S wo.heap.size 5 y0 y1 y2 n mm wa) := ⟨by rw [hwa]; exact heap_alloc_new _ _, fun q => by have := (Ho.out.two.l _ q).2; omega⟩
        have hpz : wo.heap.size < wa.heap.size := by rw [hwa]; simp
        have Hpz := Lib.hid hpz
        clear hwa hfa e0 e1 e2 e3 e4 e5 hpz
        clear Ho
        generalize wo.heap.size = pa at *
        go_loopw [15, 16] (fun v15 v16 wz => ∃ (k : Nat) (hb : Bool), v16 = .int .i64 k ∧ k ≤ m ∧ v15 = .bool hb ∧ Hid (hasT (q.take k) n = hb) ∧ Hid (Fr Nob wa wz)) (fun _ k _ => m - (intOf k).toNat)
        case atStart => exact ⟨0, false, rfl, Nat.zero_le _, rfl, rfl, Fr.refl _ _⟩
        case round =>
          obtain ⟨k, hb, rfl, hk, rfl, Hh, Hfz⟩ := hrel
          have Hb := Lib.hid (Ha.out.fr0 Hfz.out)
          have Hc2 := Lib.hid (Hc.out.fr0 Hfz.out)
          have a4 := blk_cell Hc2.out.blk 4 rfl
          by_cases hlt5 : k < m
          · obtain ⟨gw, ow, cw, hv, hTg, hgw, hcw, hcm, hcell, _⟩ := Hb.out.sl.form (by omega)
            cases hv
            obtain ⟨z0, z1, z2, d0, d1, d2, hz⟩ := waits_at q k (by rw [Hm.out]; exact hlt5)
            have u0 := hcell _ _ d0
            have hsn := hasT_snoc6 (q.take k) (z0, z1, z2) n
            rw [← take_snocW q k _ hz, Hh.out] at hsn
            have Hsn := Lib.hid hsn
            have hki : (k : Int) < m := by omega
            clear hcell d0 d1 d2 hz hsn
            cases hb with
            | true =>
              go_wp2_with fail
              go_quiet (fail)
              obtain ⟨w4, hw4⟩ : ∃ w4, w4 = wr.drewN nq := ⟨_, rfl⟩
              rw [← hw4]
              have Hf4 := Lib.hid (Hfz.out.trans0 (Fr.ofDrew ⟨nq, hw4⟩))
              clear hw4
              go_wp2_with fail
              go_roundw
              case rel => exact ⟨k + 1, true, by go_num, by omega, rfl, by rw [Hsn.out]; exact rfl, Hf4⟩
              case measure => simp [intOf]; omega
            | false =>
              obtain ⟨zz, hzz⟩ : ∃ zz, (z0 == n) = zz := ⟨_, rfl⟩
              have Hs2 : Hid (hasT (q.take (k + 1)) n = zz) := by rw [Hsn.out, ← hzz]; exact rfl
              cases zz <;> (
                go_wp2_with fail
                go_quiet (fail)
                obtain ⟨w4, hw4⟩ : ∃ w4, w4 = wr.drewN nq := ⟨_, rfl⟩
                rw [← hw4]
                have Hf4 := Lib.hid (Hfz.out.trans0 (Fr.ofDrew ⟨nq, hw4⟩))
                clear hw4
                go_wp2_with fail
                go_roundw
                case rel => exact ⟨k + 1, _, by go_num, by omega, rfl, Hs2, Hf4⟩
                case measure => simp [intOf]; omega)
          · obtain rfl : k = m := by omega
            have htk : q.take k = q := by rw [← Hm.out, List.take_length]
            rw [htk] at Hh
            have hha := wait_has wr S b q n Hb.out.wt
            rw [Hh.out] at hha
            have Hha := Lib.hid hha
            clear hha htk
            cases hb <;> (
              go_wp2_with fail
              refine Hha.out.mono ?_
              rintro e w2 ⟨rfl, hf2⟩
              have Hz := Lib.hid (Hb.out.fr0 hf2)
              have HM := Hm
              clear hf2
              go_wp2_with fail
              refine (wait_all w2 _ b q k HM.out Hz.out.wt).mono ?_
              rintro e w7 ⟨v7, rfl, hf7, hs7⟩
              obtain ⟨A7, c7, rfl⟩ := hs7.slice
              have Hz7 := Lib.hid (Hz.out.fr0 hf7)
              have Hs7 := Lib.hid hs7
              clear hf7 hs7
              go_wp2_with fail
              refine (alike_waits w7 _ _ q k HM.out Hs7.out.rd Hz7.out.sl.rd).mono ?_
              rintro e w8 ⟨rfl, hq8⟩
              have Hz8 := Lib.hid (Hz7.out.fr0 (Fr.ofDrew hq8)); clear hq8
              go_wp2_with fail
              refine (wait_len w8 _ b q k HM.out Hz8.out.wt).mono ?_
              rintro e w9 ⟨rfl, rfl⟩
              go_wp2_with fail
              go_roundw
              case rel => exact ⟨q, k, i + 1, _, _, _, _, HM, by omega, by omega, by go_num, rfl, Hz8⟩
              case measure => simp [intOf]; omega)
      · as_aux_lemma =>
        obtain ⟨k1, k2, k3, k4, k5⟩ := hk
        go_wp2_with fail
        obtain ⟨wa, hwa⟩ : ∃ wa, wa = wo.alloc (.cells #[.int .i64 x, .int .i64 y0, .int .i64 y1, .int .i64 y2, .int .i64 n, .int .i64 mm] 48) := ⟨_, rfl⟩
        rw [← hwa]
        have hfa : Fr Nob wo wa := by rw [hwa]; exact (Fr.refl Nob wo).alloc _
        have Ha := Lib.hid (Ho.out.fr0 hfa)
        have Hc : Hid (Ac6 S wo.heap.size x y0 y1 y2 n mm wa) := ⟨by rw [hwa]; exact heap_alloc_new _ _, fun q => by have := (Ho.out.two.l _ q).2; omega⟩
        have hpz : wo.heap.size < wa.heap.size := by rw [hwa]; simp
        have Hpz := Lib.hid hpz
        clear hwa hfa e0 e1 e2 e3 e4 e5 hpz
        clear Ho
        generalize wo.heap.size = pa at *
        have Hz := Ha
        have HM := Hm
        go_wp2_with fail
        refine (wait_all wa _ b q m HM.out Hz.out.wt).mono ?_
        rintro e w7 ⟨v7, rfl, hf7, hs7⟩
        obtain ⟨A7, c7, rfl⟩ := hs7.slice
        have Hz7 := Lib.hid (Hz.out.fr0 hf7)
        have Hs7 := Lib.hid hs7
        clear hf7 hs7
        go_wp2_with fail
        refine (alike_waits w7 _ _ q m HM.out Hs7.out.rd Hz7.out.sl.rd).mono ?_
        rintro e w8 ⟨rfl, hq8⟩
        have Hz8 := Lib.hid (Hz7.out.fr0 (Fr.ofDrew hq8)); clear hq8
        go_wp2_with fail
        refine (wait_len w8 _ b q m HM.out Hz8.out.wt).mono ?_
        rintro e w9 ⟨rfl, rfl⟩
        go_wp2_with fail
        go_roundw
        case rel => exact ⟨q, m, i + 1, _, _, _, _, HM, by omega, by omega, by go_num, rfl, Hz8⟩
        case measure => simp [intOf]; omega

    · go_wp2_with fail
      refine (wait_awake wo).mono ?_
      rintro e w4 ⟨rfl, hf4⟩
      go_wp2_with fail
      go_ret
      exact ⟨rfl, (Ho.out.fr.trans0 hf4.none).below (Nat.le_refl _) fun _ q => q⟩

theorem waitActs_walk (v : Value) (l : List Act6) (w : World) (h : IsActs6 w v l) :
    Calls Try.prog 7 #[v] w fun e w' => e = .returned (.bool true) ∧ Below w.heap.size w w' := by
  by_cases hb : 80 < l.length
  · exact waitActs_bad v l w h hb
  · exact waitActs_good v l w h (by omega)


/-! The row: out of the walk above. -/
namespace waitActs
open Go.ChangeShapes Go.WideShapes Go.ChangeAt Go.RowKit
open Go.ChangeMaps (open_string shut_string)
theorem own : ownKnob Try.prog.godebug = none := by kernel_rfl
theorem laidOut : laidOutB Try.prog = true := by kernel_rfl
set_option maxRecDepth 100000 in
theorem lifted (os : Os) (started : os.Started) (H : Type) (enc : TypeId × Value → H) :
    ReturnsInHanded {} Try.checked os 7 .any (Rows.waitActsSpec.pre6 enc Try.prog Try.f7 Rows.waitActsRow.domain false) (Rows.waitActsSpec.post enc Try.prog Try.f7 false true false false) := by
  refine returnsInHanded_of_change (C := Try.checked) own started (by kernel_rfl) Try.func7
    (ChangeSpec.witness6 (enc := enc) (C := Try.checked) false ⟨#[], #[.slice none 0 0], []⟩ 8 (by kernel_rfl) (by kernel_rfl) (by kernel_rfl) (by kernel_rfl)) ?_
  intro W base args ds gs before hval0 hW hcnd _
  have hval : ∀ (j : Nat) t v, Try.f7.params[j]? = some t → args[j]? = some v → Value.okWide Try.prog W .any base t v := hval0
  have hW' := hW
  obtain ⟨p, q, hA0, hV, rfl, hfz, hnd⟩ := hW
  have hA : DataW.TrodAll enc Try.prog W 0 (fun _ => true) true Try.f7.params.toList args.toList ds p := hA0
  rw [Try.params7] at hA hval
  obtain ⟨v0, vs0, d0, ds0, p0, q0, hargs, rfl, rfl, h0, r0⟩ := trodAll_cons hA
  obtain ⟨rfl, rfl, rfl⟩ := trodAll_nil r0
  obtain rfl : args = #[v0] := by cases args; simp_all
  obtain ⟨rfl, rfl⟩ := trodVars_none hV
  have k0 := h0
  have lt0 : ∀ x ∈ p0, x.block < W.heap.size := by obtain ⟨m, hm⟩ := k0; exact DataW.trod_lt m _ _ _ hm
  obtain ⟨x0, g0⟩ := opn_acts6 (hval 0 41 v0 rfl rfl) h0
  clear hA0 hval0
  refine (waitActs_walk v0 x0 W g0).mono fun e W' ⟨he, bel⟩ => ?_
  subst he
  exact ⟨_, rfl, _, _, _, [], _, [], hW', trodAll_mk1 (shut_bool Try.underlying4 _), (trodAll_cons_mk (Below.trod laidOut (by kernel_rfl) (of_decide_eq_true (by kernel_rfl)) k0 bel lt0) trodAll_mk0), rfl, bel.frame _, fun h => by cases h⟩
theorem over : Rows.waitActsRow.holds Try.pinned (OpenSpec.ofChange Rows.waitActsSpec) :=
  OpenClaim.holds_of_wide 7 Try.f7 rfl rfl rfl rfl rfl rfl rfl ⟨rfl, rfl, rfl, rfl, rfl⟩ rfl rfl rfl rfl rfl (by kernel_rfl) Try.func7 (by kernel_rfl)
    (of_decide_eq_true (by kernel_rfl)) (by unfold Func.isWrapper; first | (rw [if_pos (by decide +kernel)]; kernel_rfl) | (rw [if_neg (by decide +kernel)]; exact ⟨rfl, rfl⟩))
    (fun os started H enc _ => lifted os started H enc)
end waitActs
/-- THE STATEMENT. -/
theorem waitActs_holds : Rows.WaitActsSaid := waitActs.over
#print axioms waitActs_holds
end Go.Proofs.Ytpjkjnejlmmapaa
