/- What take does with each of its three closures: the first one that is so is taken out, or none is. -/
import Derived.Test.YtdemeghhjnehbaaWaitDrop
set_option linter.unusedVariables false
set_option linter.unusedSimpArgs false
namespace Go.Proofs.Ytdemeghhjnehbaa
open Go.RowKit
set_option maxRecDepth 100000
def posOf (xs : List (Nat × Wt)) : Value → Nat
  | .pointer (some a) => (xs.map (·.1)).idxOf a.block
  | _ => xs.length
theorem posOf_at {w : World} {S : Nat → Prop} {b : Nat} {xs : List (Nat × Wt)} (h : QAt w S b xs) (k : Nat) (y : Nat × Wt) (hy : xs[k]? = some y) : posOf xs (.pointer (some ⟨y.1, 0, none⟩)) = k := by
  show (xs.map (·.1)).idxOf y.1 = k
  have hk := (List.getElem?_eq_some_iff.1 hy).1
  have hm : y.1 ∈ xs.map (·.1) := List.mem_map.2 ⟨y, List.mem_of_getElem? hy, rfl⟩
  have hl := List.idxOf_lt_length_of_mem hm
  rw [List.length_map] at hl
  have h1 : (xs.map (·.1))[(xs.map (·.1)).idxOf y.1]'(by rw [List.length_map]; exact hl) = y.1 := List.getElem_idxOf _
  rw [List.getElem_map] at h1
  exact h.nd _ _ _ y (List.getElem?_eq_getElem hl) hy h1

theorem map_erase (xs : List (Nat × Wt)) (k : Nat) : (xs.eraseIdx k).map (fun x => x.2) = (xs.map (fun x => x.2)).eraseIdx k := by
  apply List.ext_getElem?
  intro i
  rw [List.getElem?_map, List.getElem?_eraseIdx, List.getElem?_eraseIdx]
  split
  · rw [List.getElem?_map]
  · rw [List.getElem?_map]
theorem pos_lt {w : World} {S : Nat → Prop} {b : Nat} {xs : List (Nat × Wt)} (h : QAt w S b xs) (k : Nat) (y : Nat × Wt) (n : Nat) (hn : xs.length = n) (hy : xs[k]? = some y) : n - posOf xs (ptr (nextB xs k)) < n - posOf xs (.pointer (some ⟨y.1, 0, none⟩)) := by
  have hk := (List.getElem?_eq_some_iff.1 hy).1
  rw [posOf_at h k y hy]
  by_cases hlt : k + 1 < xs.length
  · have hz : xs[k + 1]? = some xs[k + 1] := List.getElem?_eq_getElem hlt
    unfold nextB
    rw [hz]
    show n - posOf xs (.pointer (some ⟨xs[k + 1].1, 0, none⟩)) < _
    rw [posOf_at h (k + 1) _ hz]; omega
  · have hz : xs[k + 1]? = none := List.getElem?_eq_none (by omega)
    unfold nextB
    rw [hz]
    show n - xs.length < _
    omega
/-- The first one that is so is taken out, or none is. -/
def TakeP (P : Wt → Bool) (w : World) (S : Nat → Prop) (b : Nat) (ws : List Wt) (e : Ending) (w' : World) : Prop :=
  (∃ i x, ws[i]? = some x ∧ P x = true ∧ (∀ j, j < i → ∀ y, ws[j]? = some y → P y = false) ∧ e = .returned (.tuple #[wtVal x, .bool true]) ∧ Fr S w w' ∧ WaitAt w' S b (ws.eraseIdx i)) ∨
  ((∀ y ∈ ws, P y = false) ∧ e = .returned (.tuple #[wtVal (0, 0, 0), .bool false]) ∧ Fr Nob w w')
theorem wait_so_pop (w : World) (y : Wt) :
    Calls Try.prog 85 #[wtVal y] w fun e w' => e = .returned (.bool true) ∧ Fr Nob w w' := by
  go_enter Try.func85, Try.ntmps85
  go_wp2
  go_ret
  exact ⟨rfl, by repeat (first | exact Fr.refl _ _ | apply Fr.alloc | apply Fr.drew)⟩
theorem wait_so_task (w : World) (y : Wt) (t : Int) (pa : Nat) (ha : w.cell? ⟨pa, 0, none⟩ = some (.int .i64 t)) :
    Calls Try.prog 84 #[wtVal y, .pointer (some ⟨pa, 0, none⟩)] w fun e w' => e = .returned (.bool (y.1 == t)) ∧ Fr Nob w w' := by
  obtain ⟨y1, y2, y3⟩ := y
  have hlt := block_lt_of_cell ha
  have hb := ((Fr.refl Nob w).alloc (.cells #[.int .i64 y1, .int .i64 y2, .int .i64 y3] 63)).cell id ha
  go_enter Try.func84, Try.ntmps84
  go_wp2
  go_ret
  exact ⟨rfl, by repeat (first | exact Fr.refl _ _ | apply Fr.alloc | apply Fr.drew)⟩
set_option maxHeartbeats 4000000 in
theorem wait_take_pop (w : World) (S : Nat → Prop) (b : Nat) (ws : List Wt) (h : WaitAt w S b ws) :
    Calls Try.prog 83 #[.pointer (some ⟨b, 0, none⟩), .func (.func 85) #[] #[]] w fun e w' =>
      TakeP (fun _ => true) w S b ws e w' := by
  obtain ⟨xs, h, rfl⟩ := h
  have h2 := h.mono (S' := fun k => S k ∧ k < w.heap.size) fun k hk q => ⟨q, hk⟩
  obtain ⟨n, hn⟩ : ∃ n, xs.length = n := ⟨_, rfl⟩
  have hfew := h.few
  rw [hn] at hfew
  have b0 : w.cell? ⟨b, 0, none⟩ = some (ptr (firstB xs)) := blk_cell h.blk 0 rfl
  have lb := lt_of_block h.blk
  have hws : ∀ i, (xs.map (fun x => x.2))[i]? = (xs[i]?).map (fun (x : Nat × Wt) => x.2) := fun i => by rw [List.getElem?_map]
  have Hws := Lib.hid hws
  have Hh := Lib.hid h2; have Hn := Lib.hid hn
  clear h h2 hn hws
  generalize hM : xs.map (·.2) = ws at *
  have HM := Lib.hid hM; clear hM
  go_enter Try.func83, Try.ntmps83
  go_wp2_with fail
  obtain ⟨w0, hw0⟩ : ∃ w0, w0 = w.alloc (.cells #[.int .i64 0, .int .i64 0, .int .i64 0] 63) := ⟨_, rfl⟩
  rw [← hw0]
  have hf0 : Fr Nob w w0 := by rw [hw0]; exact (Fr.refl _ _).alloc _
  have hr0 : w0.heap[w.heap.size]? = some (.cells #[.int .i64 0, .int .i64 0, .int .i64 0] 63 (0, 0)) := by rw [hw0]; exact heap_alloc_new _ _
  obtain ⟨rb, hrb⟩ : ∃ rb, rb = w.heap.size := ⟨_, rfl⟩
  rw [← hrb] at hr0 ⊢
  have Hf0 := Lib.hid hf0; have Hr0 := Lib.hid hr0; have Hrb := Lib.hid hrb
  clear hw0 hf0 hr0 hrb
  go_loopw [6] (fun x wr => ∃ k : Nat, k ≤ n ∧ x = ptr ((xs[k]?).map (·.1)) ∧ Fr Nob w0 wr ∧ ∀ j, j < k → ∀ y, ws[j]? = some y → ((fun _ => true) : Wt → Bool) y = false) (fun x _ => n - posOf xs x)
  case atStart => exact ⟨0, Nat.zero_le _, rfl, Fr.refl _ _, fun j hj => by omega⟩
  case round =>
    obtain ⟨k, hk, rfl, hfr, hall⟩ := hrel
    have Hfr := Lib.hid hfr; have Hall := Lib.hid hall
    have HhW := Lib.hid (Hh.out.fr (Hf0.out.trans0 hfr) fun _ _ q => q)
    clear hfr hall
    by_cases hlt : k < n
    · obtain ⟨⟨xb, xw⟩, hx⟩ : ∃ y, xs[k]? = some y := ⟨xs[k]'(by have := Hn.out; omega), List.getElem?_eq_getElem _⟩
      obtain ⟨hSx, hxb, hxo⟩ := HhW.out.node k _ hx
      dsimp only at hSx hxb hxo
      have hxl := hSx.2
      have hwk : ws[k]? = some xw := by rw [Hws.out, hx]; rfl
      have hpos := posOf_at HhW.out k (xb, xw) hx
      dsimp only at hpos
      rw [hx]
      simp only [Option.map_some, ptr_some]
      have Hpos := Lib.hid hpos
      have x0 : wr.cell? ⟨xb, 0, none⟩ = some (.int .i64 xw.1) := blk_cell hxo 0 rfl
      have x1 : wr.cell? ⟨xb, 1, none⟩ = some (.int .i64 xw.2.1) := blk_cell hxo 1 rfl
      have x2 : wr.cell? ⟨xb, 2, none⟩ = some (.int .i64 xw.2.2) := blk_cell hxo 2 rfl
      have x4 : wr.cell? ⟨xb, 4, none⟩ = some (ptr (nextB xs k)) := blk_cell hxo 4 rfl
      have hso := wait_so_pop wr xw
      have Hso := Lib.hid hso
      have Hx := Lib.hid hx; have Hxo := Lib.hid hxo; have Hwk := Lib.hid hwk
      clear hso hx hxo hpos hwk
      go_wp2_with fail
      refine Hso.out.mono ?_
      rintro e w1 ⟨rfl, hf1⟩
      have Hf1 := Lib.hid (Hfr.out.trans0 hf1)
      have x0 := hf1.cell id x0; have x1 := hf1.cell id x1; have x2 := hf1.cell id x2; have x4 := hf1.cell id x4
      have Hh1 := Lib.hid (HhW.out.fr hf1 fun _ _ q => q)
      have hxo1 := hf1.blk id Hxo.out
      have Hxo1 := Lib.hid hxo1
      clear hf1 hxo1
      have Hpv : Hid ((fun _ : Wt => true) xw = true) := rfl
      have hdrop := wait_drop w1 (fun k => S k ∧ k < w.heap.size) b xs k (xb, xw) Hh1.out Hx.out
      have Hdrop := Lib.hid hdrop
      clear hdrop
      have hrw := Hf1.out.blk id Hr0.out
      have Hrw := Lib.hid hrw
      clear hrw
      go_wp2_with fail
      refine Hdrop.out.mono ?_
      rintro e w2 ⟨rfl, hf2, hq2, hh2⟩
      have hxo2 := hh2.trans Hxo1.out
      have hrn : ¬ (S rb ∧ rb < w.heap.size) := fun q => by have := Hrb.out; omega
      have hr2 := hf2.blk hrn Hrw.out
      have x0 : w2.cell? ⟨xb, 0, none⟩ = some (.int .i64 xw.1) := blk_cell hxo2 0 rfl
      have x1 : w2.cell? ⟨xb, 1, none⟩ = some (.int .i64 xw.2.1) := blk_cell hxo2 1 rfl
      have x2 : w2.cell? ⟨xb, 2, none⟩ = some (.int .i64 xw.2.2) := blk_cell hxo2 2 rfl
      have r0 : w2.cell? ⟨rb, 0, none⟩ = some (.int .i64 0) := blk_cell hr2 0 rfl
      have r1 : w2.cell? ⟨rb, 1, none⟩ = some (.int .i64 0) := blk_cell hr2 1 rfl
      have r2 : w2.cell? ⟨rb, 2, none⟩ = some (.int .i64 0) := blk_cell hr2 2 rfl
      have s0 := blk_froz hr2 0
      have s1 := blk_froz hr2 1
      have s2 := blk_froz hr2 2
      have Hq2 := Lib.hid hq2; have Hf2 := Lib.hid hf2; have Hr2 := Lib.hid hr2
      clear hf2 hq2 hh2 hxo2 hr2
      go_wp2_with fail
      obtain ⟨w3, hw3⟩ : ∃ w3, w3 = ((w2.setCell ⟨rb, 0, none⟩ (.int .i64 xw.1)).setCell ⟨rb, 1, none⟩ (.int .i64 xw.2.1)).setCell ⟨rb, 2, none⟩ (.int .i64 xw.2.2) := ⟨_, rfl⟩
      rw [← hw3]
      have hr3 : w3.heap[rb]? = some (.cells #[.int .i64 xw.1, .int .i64 xw.2.1, .int .i64 xw.2.2] 63 (0, 0)) := by rw [hw3]; exact blk_set (blk_set (blk_set Hr2.out 0 _) 1 _) 2 _
      have t0 : w3.cell? ⟨rb, 0, none⟩ = some (.int .i64 xw.1) := blk_cell hr3 0 rfl
      have t1 : w3.cell? ⟨rb, 1, none⟩ = some (.int .i64 xw.2.1) := blk_cell hr3 1 rfl
      have t2 : w3.cell? ⟨rb, 2, none⟩ = some (.int .i64 xw.2.2) := blk_cell hr3 2 rfl
      have hf3 : Fr (fun k => k = rb) w2 w3 := by rw [hw3]; exact (((Fr.refl (fun k => k = rb) w2).setCell (p := ⟨rb, 0, none⟩) (.inl rfl) _).setCell (p := ⟨rb, 1, none⟩) (.inl rfl) _).setCell (p := ⟨rb, 2, none⟩) (.inl rfl) _
      refine bodyPost_ret (v := .tuple #[wtVal xw, .bool true]) (by simp [results, Try.results83, go_sem, t0, t1, t2]) rfl ?_
      have hfw : Fr Nob w w1 := Hf0.out.trans0 Hf1.out
      refine .inl ⟨k, xw, Hwk.out, (by first | exact Hpv.out | rfl), Hall.out, rfl, (hfw.none.trans0 (Hf2.out.mono fun k _ q => q.1)).trans hf3 (fun k hk e => by have := Hrb.out; omega), xs.eraseIdx k, (Hq2.out.fr hf3 (fun k a e => by have := Hrb.out; have := a.2; omega)).mono (fun k _ q => q.1), ?_⟩
      rw [← HM.out]
      exact map_erase xs k

    · obtain rfl : k = n := by omega
      have hx : xs[k]? = none := List.getElem?_eq_none (by rw [Hn.out]; exact Nat.le_refl _)
      rw [hx]
      simp only [Option.map_none, ptr_none]
      have hr := Hfr.out.blk id Hr0.out
      have r0 : wr.cell? ⟨rb, 0, none⟩ = some (.int .i64 0) := blk_cell hr 0 rfl
      have r1 : wr.cell? ⟨rb, 1, none⟩ = some (.int .i64 0) := blk_cell hr 1 rfl
      have r2 : wr.cell? ⟨rb, 2, none⟩ = some (.int .i64 0) := blk_cell hr 2 rfl
      have s0 := blk_froz hr 0
      have s1 := blk_froz hr 1
      have s2 := blk_froz hr 2
      have Hr := Lib.hid hr
      clear hr hx
      go_wp2_with fail
      obtain ⟨w3, hw3⟩ : ∃ w3, w3 = ((wr.setCell ⟨rb, 0, none⟩ (.int .i64 0)).setCell ⟨rb, 1, none⟩ (.int .i64 0)).setCell ⟨rb, 2, none⟩ (.int .i64 0) := ⟨_, rfl⟩
      rw [← hw3]
      have hr3 : w3.heap[rb]? = some (.cells #[.int .i64 0, .int .i64 0, .int .i64 0] 63 (0, 0)) := by rw [hw3]; exact blk_set (blk_set (blk_set Hr.out 0 _) 1 _) 2 _
      have t0 : w3.cell? ⟨rb, 0, none⟩ = some (.int .i64 0) := blk_cell hr3 0 rfl
      have t1 : w3.cell? ⟨rb, 1, none⟩ = some (.int .i64 0) := blk_cell hr3 1 rfl
      have t2 : w3.cell? ⟨rb, 2, none⟩ = some (.int .i64 0) := blk_cell hr3 2 rfl
      have hf3 : Fr (fun k => k = rb) wr w3 := by rw [hw3]; exact (((Fr.refl (fun k => k = rb) wr).setCell (p := ⟨rb, 0, none⟩) (.inl rfl) _).setCell (p := ⟨rb, 1, none⟩) (.inl rfl) _).setCell (p := ⟨rb, 2, none⟩) (.inl rfl) _
      refine bodyPost_ret (v := .tuple #[wtVal (0, 0, 0), .bool false]) (by simp [results, Try.results83, go_sem, t0, t1, t2]) rfl ?_
      refine .inr ⟨fun y hy => ?_, rfl, (Hf0.out.trans0 Hfr.out).trans hf3 (fun k hk e => by have := Hrb.out; omega)⟩
      obtain ⟨j, hj, rfl⟩ := List.mem_iff_getElem.1 hy
      have hjn : j < k := by have h1 := Hn.out; rw [← HM.out, List.length_map] at hj; omega
      exact Hall.out j hjn _ (List.getElem?_eq_getElem hj)

set_option maxHeartbeats 4000000 in
theorem wait_take_task (w : World) (S : Nat → Prop) (b : Nat) (ws : List Wt) (h : WaitAt w S b ws) (t : Int) (pa : Nat) (ha : w.cell? ⟨pa, 0, none⟩ = some (.int .i64 t)) :
    Calls Try.prog 83 #[.pointer (some ⟨b, 0, none⟩), .func (.func 84) #[] #[.pointer (some ⟨pa, 0, none⟩)]] w fun e w' =>
      TakeP (fun y => y.1 == t) w S b ws e w' := by
  obtain ⟨xs, h, rfl⟩ := h
  have h2 := h.mono (S' := fun k => S k ∧ k < w.heap.size) fun k hk q => ⟨q, hk⟩
  obtain ⟨n, hn⟩ : ∃ n, xs.length = n := ⟨_, rfl⟩
  have hfew := h.few
  rw [hn] at hfew
  have b0 : w.cell? ⟨b, 0, none⟩ = some (ptr (firstB xs)) := blk_cell h.blk 0 rfl
  have lb := lt_of_block h.blk
  have hws : ∀ i, (xs.map (fun x => x.2))[i]? = (xs[i]?).map (fun (x : Nat × Wt) => x.2) := fun i => by rw [List.getElem?_map]
  have Hws := Lib.hid hws
  have Hh := Lib.hid h2; have Hn := Lib.hid hn
  clear h h2 hn hws
  generalize hM : xs.map (·.2) = ws at *
  have HM := Lib.hid hM; clear hM
  have Ha := Lib.hid ha; clear ha
  go_enter Try.func83, Try.ntmps83
  go_wp2_with fail
  obtain ⟨w0, hw0⟩ : ∃ w0, w0 = w.alloc (.cells #[.int .i64 0, .int .i64 0, .int .i64 0] 63) := ⟨_, rfl⟩
  rw [← hw0]
  have hf0 : Fr Nob w w0 := by rw [hw0]; exact (Fr.refl _ _).alloc _
  have hr0 : w0.heap[w.heap.size]? = some (.cells #[.int .i64 0, .int .i64 0, .int .i64 0] 63 (0, 0)) := by rw [hw0]; exact heap_alloc_new _ _
  obtain ⟨rb, hrb⟩ : ∃ rb, rb = w.heap.size := ⟨_, rfl⟩
  rw [← hrb] at hr0 ⊢
  have Hf0 := Lib.hid hf0; have Hr0 := Lib.hid hr0; have Hrb := Lib.hid hrb
  clear hw0 hf0 hr0 hrb
  go_loopw [6] (fun x wr => ∃ k : Nat, k ≤ n ∧ x = ptr ((xs[k]?).map (·.1)) ∧ Fr Nob w0 wr ∧ ∀ j, j < k → ∀ y, ws[j]? = some y → ((fun y => y.1 == t) : Wt → Bool) y = false) (fun x _ => n - posOf xs x)
  case atStart => exact ⟨0, Nat.zero_le _, rfl, Fr.refl _ _, fun j hj => by omega⟩
  case round =>
    obtain ⟨k, hk, rfl, hfr, hall⟩ := hrel
    have Hfr := Lib.hid hfr; have Hall := Lib.hid hall
    have HhW := Lib.hid (Hh.out.fr (Hf0.out.trans0 hfr) fun _ _ q => q)
    clear hfr hall
    by_cases hlt : k < n
    · obtain ⟨⟨xb, xw⟩, hx⟩ : ∃ y, xs[k]? = some y := ⟨xs[k]'(by have := Hn.out; omega), List.getElem?_eq_getElem _⟩
      obtain ⟨hSx, hxb, hxo⟩ := HhW.out.node k _ hx
      dsimp only at hSx hxb hxo
      have hxl := hSx.2
      have hwk : ws[k]? = some xw := by rw [Hws.out, hx]; rfl
      have hpos := posOf_at HhW.out k (xb, xw) hx
      dsimp only at hpos
      rw [hx]
      simp only [Option.map_some, ptr_some]
      have Hpos := Lib.hid hpos
      have x0 : wr.cell? ⟨xb, 0, none⟩ = some (.int .i64 xw.1) := blk_cell hxo 0 rfl
      have x1 : wr.cell? ⟨xb, 1, none⟩ = some (.int .i64 xw.2.1) := blk_cell hxo 1 rfl
      have x2 : wr.cell? ⟨xb, 2, none⟩ = some (.int .i64 xw.2.2) := blk_cell hxo 2 rfl
      have x4 : wr.cell? ⟨xb, 4, none⟩ = some (ptr (nextB xs k)) := blk_cell hxo 4 rfl
      have hso := wait_so_task wr xw t pa ((Hf0.out.trans0 Hfr.out).cell id Ha.out)
      have Hso := Lib.hid hso
      have Hx := Lib.hid hx; have Hxo := Lib.hid hxo; have Hwk := Lib.hid hwk
      clear hso hx hxo hpos hwk
      go_wp2_with fail
      refine Hso.out.mono ?_
      rintro e w1 ⟨rfl, hf1⟩
      have Hf1 := Lib.hid (Hfr.out.trans0 hf1)
      have x0 := hf1.cell id x0; have x1 := hf1.cell id x1; have x2 := hf1.cell id x2; have x4 := hf1.cell id x4
      have Hh1 := Lib.hid (HhW.out.fr hf1 fun _ _ q => q)
      have hxo1 := hf1.blk id Hxo.out
      have Hxo1 := Lib.hid hxo1
      clear hf1 hxo1
      cases hpv : (xw.1 == t) with
      | true =>
        have Hpv := Lib.hid hpv; clear hpv
        have hdrop := wait_drop w1 (fun k => S k ∧ k < w.heap.size) b xs k (xb, xw) Hh1.out Hx.out
        have Hdrop := Lib.hid hdrop
        clear hdrop
        have hrw := Hf1.out.blk id Hr0.out
        have Hrw := Lib.hid hrw
        clear hrw
        go_wp2_with fail
        refine Hdrop.out.mono ?_
        rintro e w2 ⟨rfl, hf2, hq2, hh2⟩
        have hxo2 := hh2.trans Hxo1.out
        have hrn : ¬ (S rb ∧ rb < w.heap.size) := fun q => by have := Hrb.out; omega
        have hr2 := hf2.blk hrn Hrw.out
        have x0 : w2.cell? ⟨xb, 0, none⟩ = some (.int .i64 xw.1) := blk_cell hxo2 0 rfl
        have x1 : w2.cell? ⟨xb, 1, none⟩ = some (.int .i64 xw.2.1) := blk_cell hxo2 1 rfl
        have x2 : w2.cell? ⟨xb, 2, none⟩ = some (.int .i64 xw.2.2) := blk_cell hxo2 2 rfl
        have r0 : w2.cell? ⟨rb, 0, none⟩ = some (.int .i64 0) := blk_cell hr2 0 rfl
        have r1 : w2.cell? ⟨rb, 1, none⟩ = some (.int .i64 0) := blk_cell hr2 1 rfl
        have r2 : w2.cell? ⟨rb, 2, none⟩ = some (.int .i64 0) := blk_cell hr2 2 rfl
        have s0 := blk_froz hr2 0
        have s1 := blk_froz hr2 1
        have s2 := blk_froz hr2 2
        have Hq2 := Lib.hid hq2; have Hf2 := Lib.hid hf2; have Hr2 := Lib.hid hr2
        clear hf2 hq2 hh2 hxo2 hr2
        go_wp2_with fail
        obtain ⟨w3, hw3⟩ : ∃ w3, w3 = ((w2.setCell ⟨rb, 0, none⟩ (.int .i64 xw.1)).setCell ⟨rb, 1, none⟩ (.int .i64 xw.2.1)).setCell ⟨rb, 2, none⟩ (.int .i64 xw.2.2) := ⟨_, rfl⟩
        rw [← hw3]
        have hr3 : w3.heap[rb]? = some (.cells #[.int .i64 xw.1, .int .i64 xw.2.1, .int .i64 xw.2.2] 63 (0, 0)) := by rw [hw3]; exact blk_set (blk_set (blk_set Hr2.out 0 _) 1 _) 2 _
        have t0 : w3.cell? ⟨rb, 0, none⟩ = some (.int .i64 xw.1) := blk_cell hr3 0 rfl
        have t1 : w3.cell? ⟨rb, 1, none⟩ = some (.int .i64 xw.2.1) := blk_cell hr3 1 rfl
        have t2 : w3.cell? ⟨rb, 2, none⟩ = some (.int .i64 xw.2.2) := blk_cell hr3 2 rfl
        have hf3 : Fr (fun k => k = rb) w2 w3 := by rw [hw3]; exact (((Fr.refl (fun k => k = rb) w2).setCell (p := ⟨rb, 0, none⟩) (.inl rfl) _).setCell (p := ⟨rb, 1, none⟩) (.inl rfl) _).setCell (p := ⟨rb, 2, none⟩) (.inl rfl) _
        refine bodyPost_ret (v := .tuple #[wtVal xw, .bool true]) (by simp [results, Try.results83, go_sem, t0, t1, t2]) rfl ?_
        have hfw : Fr Nob w w1 := Hf0.out.trans0 Hf1.out
        refine .inl ⟨k, xw, Hwk.out, (by first | exact Hpv.out | rfl), Hall.out, rfl, (hfw.none.trans0 (Hf2.out.mono fun k _ q => q.1)).trans hf3 (fun k hk e => by have := Hrb.out; omega), xs.eraseIdx k, (Hq2.out.fr hf3 (fun k a e => by have := Hrb.out; have := a.2; omega)).mono (fun k _ q => q.1), ?_⟩
        rw [← HM.out]
        exact map_erase xs k
      | false =>
        have Hpv := Lib.hid hpv; clear hpv
        go_wp2_with fail
        go_roundw
        case rel =>
          refine ⟨k + 1, by omega, rfl, Hf1.out, fun j hj y hy => ?_⟩
          rcases Nat.lt_succ_iff_lt_or_eq.1 hj with h | h
          · exact Hall.out j h y hy
          · subst h; rw [Hwk.out] at hy; cases hy; exact Hpv.out
        case measure =>
          have hp := pos_lt Hh.out k (xb, xw) n Hn.out Hx.out
          exact hp

    · obtain rfl : k = n := by omega
      have hx : xs[k]? = none := List.getElem?_eq_none (by rw [Hn.out]; exact Nat.le_refl _)
      rw [hx]
      simp only [Option.map_none, ptr_none]
      have hr := Hfr.out.blk id Hr0.out
      have r0 : wr.cell? ⟨rb, 0, none⟩ = some (.int .i64 0) := blk_cell hr 0 rfl
      have r1 : wr.cell? ⟨rb, 1, none⟩ = some (.int .i64 0) := blk_cell hr 1 rfl
      have r2 : wr.cell? ⟨rb, 2, none⟩ = some (.int .i64 0) := blk_cell hr 2 rfl
      have s0 := blk_froz hr 0
      have s1 := blk_froz hr 1
      have s2 := blk_froz hr 2
      have Hr := Lib.hid hr
      clear hr hx
      go_wp2_with fail
      obtain ⟨w3, hw3⟩ : ∃ w3, w3 = ((wr.setCell ⟨rb, 0, none⟩ (.int .i64 0)).setCell ⟨rb, 1, none⟩ (.int .i64 0)).setCell ⟨rb, 2, none⟩ (.int .i64 0) := ⟨_, rfl⟩
      rw [← hw3]
      have hr3 : w3.heap[rb]? = some (.cells #[.int .i64 0, .int .i64 0, .int .i64 0] 63 (0, 0)) := by rw [hw3]; exact blk_set (blk_set (blk_set Hr.out 0 _) 1 _) 2 _
      have t0 : w3.cell? ⟨rb, 0, none⟩ = some (.int .i64 0) := blk_cell hr3 0 rfl
      have t1 : w3.cell? ⟨rb, 1, none⟩ = some (.int .i64 0) := blk_cell hr3 1 rfl
      have t2 : w3.cell? ⟨rb, 2, none⟩ = some (.int .i64 0) := blk_cell hr3 2 rfl
      have hf3 : Fr (fun k => k = rb) wr w3 := by rw [hw3]; exact (((Fr.refl (fun k => k = rb) wr).setCell (p := ⟨rb, 0, none⟩) (.inl rfl) _).setCell (p := ⟨rb, 1, none⟩) (.inl rfl) _).setCell (p := ⟨rb, 2, none⟩) (.inl rfl) _
      refine bodyPost_ret (v := .tuple #[wtVal (0, 0, 0), .bool false]) (by simp [results, Try.results83, go_sem, t0, t1, t2]) rfl ?_
      refine .inr ⟨fun y hy => ?_, rfl, (Hf0.out.trans0 Hfr.out).trans hf3 (fun k hk e => by have := Hrb.out; omega)⟩
      obtain ⟨j, hj, rfl⟩ := List.mem_iff_getElem.1 hy
      have hjn : j < k := by have h1 := Hn.out; rw [← HM.out, List.length_map] at hj; omega
      exact Hall.out j hjn _ (List.getElem?_eq_getElem hj)
end Go.Proofs.Ytdemeghhjnehbaa
