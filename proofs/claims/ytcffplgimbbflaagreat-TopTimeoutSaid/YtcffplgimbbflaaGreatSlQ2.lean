/- Who waits on a channel, from outside; what two laws need. -/
import Derived.Test.YtcffplgimbbflaaGreatSlQ1
set_option linter.unusedVariables false
set_option linter.unusedSimpArgs false
namespace Go.Proofs.YtcffplgimbbflaaGreat
open Go.RowKit
set_option maxRecDepth 100000
def posOf (xs : List (Nat × Wt)) : Value → Nat
  | .pointer (some a) => (xs.map (·.1)).idxOf a.block
  | _ => xs.length
theorem posOf_at {w : World} {S : Nat → Prop} {b : Nat} {xs : List (Nat × Wt)} (h : QAt w S b xs) (k : Nat) (y : Nat × Wt) (hy : xs[k]? = some y) : posOf xs (.pointer (some ⟨y.1, 0, none⟩)) = k := by
  show (xs.map (·.1)).idxOf y.1 = k
  have hk := (List.getElem?_eq_some_iff.1 hy).1
  have hm : y.1 ∈ xs.map (·.1) := List.mem_map.2 ⟨y, List.mem_of_getElem? hy, rfl⟩
  have hl := List.idxOf_lt_length_of_mem hm
  rw [List.length_map] at hl
  have h1 : (xs.map (·.1))[(xs.map (·.1)).idxOf y.1]'(by rw [List.length_map]; exact hl) = y.1 := List.getElem_idxOf _
  rw [List.getElem_map] at h1
  exact h.nd _ _ _ y (List.getElem?_eq_getElem hl) hy h1
theorem map_erase (xs : List (Nat × Wt)) (k : Nat) : (xs.eraseIdx k).map (fun x => x.2) = (xs.map (fun x => x.2)).eraseIdx k := by
  apply List.ext_getElem?
  intro i
  rw [List.getElem?_map, List.getElem?_eraseIdx, List.getElem?_eraseIdx]
  split
  · rw [List.getElem?_map]
  · rw [List.getElem?_map]
theorem pos_lt {w : World} {S : Nat → Prop} {b : Nat} {xs : List (Nat × Wt)} (h : QAt w S b xs) (k : Nat) (y : Nat × Wt) (n : Nat) (hn : xs.length = n) (hy : xs[k]? = some y) : n - posOf xs (ptr (nextB xs k)) < n - posOf xs (.pointer (some ⟨y.1, 0, none⟩)) := by
  have hk := (List.getElem?_eq_some_iff.1 hy).1
  rw [posOf_at h k y hy]
  by_cases hlt : k + 1 < xs.length
  · have hz : xs[k + 1]? = some xs[k + 1] := List.getElem?_eq_getElem hlt
    unfold nextB
    rw [hz]
    show n - posOf xs (.pointer (some ⟨xs[k + 1].1, 0, none⟩)) < _
    rw [posOf_at h (k + 1) _ hz]; omega
  · have hz : xs[k + 1]? = none := List.getElem?_eq_none (by omega)
    unfold nextB
    rw [hz]
    show n - xs.length < _
    omega
/-- The first one that is so is taken out, or none is. -/
def TakeP (P : Wt → Bool) (w : World) (S : Nat → Prop) (b : Nat) (ws : List Wt) (e : Ending) (w' : World) : Prop :=
  (∃ i x, ws[i]? = some x ∧ P x = true ∧ (∀ j, j < i → ∀ y, ws[j]? = some y → P y = false) ∧ e = .returned (.tuple #[wtVal x, .bool true]) ∧ Fr S w w' ∧ WaitAt w' S b (ws.eraseIdx i)) ∨
  ((∀ y ∈ ws, P y = false) ∧ e = .returned (.tuple #[wtVal (0, 0, 0), .bool false]) ∧ Fr Nob w w')
theorem wait_so_pop (w : World) (y : Wt) :
    Calls Tryz.prog 194 #[wtVal y] w fun e w' => e = .returned (.bool true) ∧ Fr Nob w w' := by
  go_enter Tryz.func194, Tryz.ntmps194
  go_wp2
  go_ret
  exact ⟨rfl, by repeat (first | exact Fr.refl _ _ | apply Fr.alloc | apply Fr.drew)⟩
theorem wait_so_task (w : World) (y : Wt) (t : Int) (pa : Nat) (ha : w.cell? ⟨pa, 0, none⟩ = some (.int .i64 t)) :
    Calls Tryz.prog 210 #[wtVal y, .pointer (some ⟨pa, 0, none⟩)] w fun e w' => e = .returned (.bool (y.1 == t)) ∧ Fr Nob w w' := by
  obtain ⟨y1, y2, y3⟩ := y
  have hlt := block_lt_of_cell ha
  have hb := ((Fr.refl Nob w).alloc (.cells #[.int .i64 y1, .int .i64 y2, .int .i64 y3] 154)).cell id ha
  go_enter Tryz.func210, Tryz.ntmps210
  go_wp2
  go_ret
  exact ⟨rfl, by repeat (first | exact Fr.refl _ _ | apply Fr.alloc | apply Fr.drew)⟩
set_option maxHeartbeats 4000000 in
theorem wait_take_pop (w : World) (S : Nat → Prop) (b : Nat) (ws : List Wt) (h : WaitAt w S b ws) :
    Calls Tryz.prog 193 #[.pointer (some ⟨b, 0, none⟩), .func (.func 194) #[] #[]] w fun e w' =>
      TakeP (fun _ => true) w S b ws e w' := by
  obtain ⟨xs, h, rfl⟩ := h
  have h2 := h.mono (S' := fun k => S k ∧ k < w.heap.size) fun k hk q => ⟨q, hk⟩
  obtain ⟨n, hn⟩ : ∃ n, xs.length = n := ⟨_, rfl⟩
  have hfew := h.few
  rw [hn] at hfew
  have b0 : w.cell? ⟨b, 0, none⟩ = some (ptr (firstB xs)) := blk_cell h.blk 0 rfl
  have lb := lt_of_block h.blk
  have hws : ∀ i, (xs.map (fun x => x.2))[i]? = (xs[i]?).map (fun (x : Nat × Wt) => x.2) := fun i => by rw [List.getElem?_map]
  have Hws := Lib.hid hws
  have Hh := Lib.hid h2; have Hn := Lib.hid hn
  clear h h2 hn hws
  generalize hM : xs.map (·.2) = ws at *
  have HM := Lib.hid hM; clear hM
  go_enter Tryz.func193, Tryz.ntmps193
  go_wp2_with fail
  obtain ⟨w0, hw0⟩ : ∃ w0, w0 = w.alloc (.cells #[.int .i64 0, .int .i64 0, .int .i64 0] 154) := ⟨_, rfl⟩
  rw [← hw0]
  have hf0 : Fr Nob w w0 := by rw [hw0]; exact (Fr.refl _ _).alloc _
  have hr0 : w0.heap[w.heap.size]? = some (.cells #[.int .i64 0, .int .i64 0, .int .i64 0] 154 (0, 0)) := by rw [hw0]; exact heap_alloc_new _ _
  obtain ⟨rb, hrb⟩ : ∃ rb, rb = w.heap.size := ⟨_, rfl⟩
  rw [← hrb] at hr0 ⊢
  have Hf0 := Lib.hid hf0; have Hr0 := Lib.hid hr0; have Hrb := Lib.hid hrb
  clear hw0 hf0 hr0 hrb
  go_loopw [6] (fun x wr => ∃ k : Nat, k ≤ n ∧ x = ptr ((xs[k]?).map (·.1)) ∧ Fr Nob w0 wr ∧ ∀ j, j < k → ∀ y, ws[j]? = some y → ((fun _ => true) : Wt → Bool) y = false) (fun x _ => n - posOf xs x)
  case atStart => exact ⟨0, Nat.zero_le _, rfl, Fr.refl _ _, fun j hj => by omega⟩
  case round =>
    obtain ⟨k, hk, rfl, hfr, hall⟩ := hrel
    have Hfr := Lib.hid hfr; have Hall := Lib.hid hall
    have HhW := Lib.hid (Hh.out.fr (Hf0.out.trans0 hfr) fun _ _ q => q)
    clear hfr hall
    by_cases hlt : k < n
    · obtain ⟨⟨xb, xw⟩, hx⟩ : ∃ y, xs[k]? = some y := ⟨xs[k]'(by have := Hn.out; omega), List.getElem?_eq_getElem _⟩
      obtain ⟨hSx, hxb, hxo⟩ := HhW.out.node k _ hx
      dsimp only at hSx hxb hxo
      have hxl := hSx.2
      have hwk : ws[k]? = some xw := by rw [Hws.out, hx]; rfl
      have hpos := posOf_at HhW.out k (xb, xw) hx
      dsimp only at hpos
      rw [hx]
      simp only [Option.map_some, ptr_some]
      have Hpos := Lib.hid hpos
      have x0 : wr.cell? ⟨xb, 0, none⟩ = some (.int .i64 xw.1) := blk_cell hxo 0 rfl
      have x1 : wr.cell? ⟨xb, 1, none⟩ = some (.int .i64 xw.2.1) := blk_cell hxo 1 rfl
      have x2 : wr.cell? ⟨xb, 2, none⟩ = some (.int .i64 xw.2.2) := blk_cell hxo 2 rfl
      have x4 : wr.cell? ⟨xb, 4, none⟩ = some (ptr (nextB xs k)) := blk_cell hxo 4 rfl
      have hso := wait_so_pop wr xw
      have Hso := Lib.hid hso
      have Hx := Lib.hid hx; have Hxo := Lib.hid hxo; have Hwk := Lib.hid hwk
      clear hso hx hxo hpos hwk
      go_wp2_with fail
      refine Hso.out.mono ?_
      rintro e w1 ⟨rfl, hf1⟩
      have Hf1 := Lib.hid (Hfr.out.trans0 hf1)
      have x0 := hf1.cell id x0; have x1 := hf1.cell id x1; have x2 := hf1.cell id x2; have x4 := hf1.cell id x4
      have Hh1 := Lib.hid (HhW.out.fr hf1 fun _ _ q => q)
      have hxo1 := hf1.blk id Hxo.out
      have Hxo1 := Lib.hid hxo1
      clear hf1 hxo1
      have Hpv : Hid ((fun _ : Wt => true) xw = true) := rfl
      have hdrop := wait_drop w1 (fun k => S k ∧ k < w.heap.size) b xs k (xb, xw) Hh1.out Hx.out
      have Hdrop := Lib.hid hdrop
      clear hdrop
      have hrw := Hf1.out.blk id Hr0.out
      have Hrw := Lib.hid hrw
      clear hrw
      go_wp2_with fail
      refine Hdrop.out.mono ?_
      rintro e w2 ⟨rfl, hf2, hq2, hh2⟩
      have hxo2 := hh2.trans Hxo1.out
      have hrn : ¬ (S rb ∧ rb < w.heap.size) := fun q => by have := Hrb.out; omega
      have hr2 := hf2.blk hrn Hrw.out
      have x0 : w2.cell? ⟨xb, 0, none⟩ = some (.int .i64 xw.1) := blk_cell hxo2 0 rfl
      have x1 : w2.cell? ⟨xb, 1, none⟩ = some (.int .i64 xw.2.1) := blk_cell hxo2 1 rfl
      have x2 : w2.cell? ⟨xb, 2, none⟩ = some (.int .i64 xw.2.2) := blk_cell hxo2 2 rfl
      have r0 : w2.cell? ⟨rb, 0, none⟩ = some (.int .i64 0) := blk_cell hr2 0 rfl
      have r1 : w2.cell? ⟨rb, 1, none⟩ = some (.int .i64 0) := blk_cell hr2 1 rfl
      have r2 : w2.cell? ⟨rb, 2, none⟩ = some (.int .i64 0) := blk_cell hr2 2 rfl
      have s0 := blk_froz hr2 0
      have s1 := blk_froz hr2 1
      have s2 := blk_froz hr2 2
      have Hq2 := Lib.hid hq2; have Hf2 := Lib.hid hf2; have Hr2 := Lib.hid hr2
      clear hf2 hq2 hh2 hxo2 hr2
      go_wp2_with fail
      obtain ⟨w3, hw3⟩ : ∃ w3, w3 = ((w2.setCell ⟨rb, 0, none⟩ (.int .i64 xw.1)).setCell ⟨rb, 1, none⟩ (.int .i64 xw.2.1)).setCell ⟨rb, 2, none⟩ (.int .i64 xw.2.2) := ⟨_, rfl⟩
      rw [← hw3]
      have hr3 : w3.heap[rb]? = some (.cells #[.int .i64 xw.1, .int .i64 xw.2.1, .int .i64 xw.2.2] 154 (0, 0)) := by rw [hw3]; exact blk_set (blk_set (blk_set Hr2.out 0 _) 1 _) 2 _
      have t0 : w3.cell? ⟨rb, 0, none⟩ = some (.int .i64 xw.1) := blk_cell hr3 0 rfl
      have t1 : w3.cell? ⟨rb, 1, none⟩ = some (.int .i64 xw.2.1) := blk_cell hr3 1 rfl
      have t2 : w3.cell? ⟨rb, 2, none⟩ = some (.int .i64 xw.2.2) := blk_cell hr3 2 rfl
      have hf3 : Fr (fun k => k = rb) w2 w3 := by rw [hw3]; exact (((Fr.refl (fun k => k = rb) w2).setCell (p := ⟨rb, 0, none⟩) (.inl rfl) _).setCell (p := ⟨rb, 1, none⟩) (.inl rfl) _).setCell (p := ⟨rb, 2, none⟩) (.inl rfl) _
      refine bodyPost_ret (v := .tuple #[wtVal xw, .bool true]) (by simp [results, Tryz.results193, go_sem, t0, t1, t2]) rfl ?_
      have hfw : Fr Nob w w1 := Hf0.out.trans0 Hf1.out
      refine .inl ⟨k, xw, Hwk.out, (by first | exact Hpv.out | rfl), Hall.out, rfl, (hfw.none.trans0 (Hf2.out.mono fun k _ q => q.1)).trans hf3 (fun k hk e => by have := Hrb.out; omega), xs.eraseIdx k, (Hq2.out.fr hf3 (fun k a e => by have := Hrb.out; have := a.2; omega)).mono (fun k _ q => q.1), ?_⟩
      rw [← HM.out]
      exact map_erase xs k

    · obtain rfl : k = n := by omega
      have hx : xs[k]? = none := List.getElem?_eq_none (by rw [Hn.out]; exact Nat.le_refl _)
      rw [hx]
      simp only [Option.map_none, ptr_none]
      have hr := Hfr.out.blk id Hr0.out
      have r0 : wr.cell? ⟨rb, 0, none⟩ = some (.int .i64 0) := blk_cell hr 0 rfl
      have r1 : wr.cell? ⟨rb, 1, none⟩ = some (.int .i64 0) := blk_cell hr 1 rfl
      have r2 : wr.cell? ⟨rb, 2, none⟩ = some (.int .i64 0) := blk_cell hr 2 rfl
      have s0 := blk_froz hr 0
      have s1 := blk_froz hr 1
      have s2 := blk_froz hr 2
      have Hr := Lib.hid hr
      clear hr hx
      go_wp2_with fail
      obtain ⟨w3, hw3⟩ : ∃ w3, w3 = ((wr.setCell ⟨rb, 0, none⟩ (.int .i64 0)).setCell ⟨rb, 1, none⟩ (.int .i64 0)).setCell ⟨rb, 2, none⟩ (.int .i64 0) := ⟨_, rfl⟩
      rw [← hw3]
      have hr3 : w3.heap[rb]? = some (.cells #[.int .i64 0, .int .i64 0, .int .i64 0] 154 (0, 0)) := by rw [hw3]; exact blk_set (blk_set (blk_set Hr.out 0 _) 1 _) 2 _
      have t0 : w3.cell? ⟨rb, 0, none⟩ = some (.int .i64 0) := blk_cell hr3 0 rfl
      have t1 : w3.cell? ⟨rb, 1, none⟩ = some (.int .i64 0) := blk_cell hr3 1 rfl
      have t2 : w3.cell? ⟨rb, 2, none⟩ = some (.int .i64 0) := blk_cell hr3 2 rfl
      have hf3 : Fr (fun k => k = rb) wr w3 := by rw [hw3]; exact (((Fr.refl (fun k => k = rb) wr).setCell (p := ⟨rb, 0, none⟩) (.inl rfl) _).setCell (p := ⟨rb, 1, none⟩) (.inl rfl) _).setCell (p := ⟨rb, 2, none⟩) (.inl rfl) _
      refine bodyPost_ret (v := .tuple #[wtVal (0, 0, 0), .bool false]) (by simp [results, Tryz.results193, go_sem, t0, t1, t2]) rfl ?_
      refine .inr ⟨fun y hy => ?_, rfl, (Hf0.out.trans0 Hfr.out).trans hf3 (fun k hk e => by have := Hrb.out; omega)⟩
      obtain ⟨j, hj, rfl⟩ := List.mem_iff_getElem.1 hy
      have hjn : j < k := by have h1 := Hn.out; rw [← HM.out, List.length_map] at hj; omega
      exact Hall.out j hjn _ (List.getElem?_eq_getElem hj)
set_option maxHeartbeats 4000000 in
theorem wait_take_task (w : World) (S : Nat → Prop) (b : Nat) (ws : List Wt) (h : WaitAt w S b ws) (t : Int) (pa : Nat) (ha : w.cell? ⟨pa, 0, none⟩ = some (.int .i64 t)) :
    Calls Tryz.prog 193 #[.pointer (some ⟨b, 0, none⟩), .func (.func 210) #[] #[.pointer (some ⟨pa, 0, none⟩)]] w fun e w' =>
      TakeP (fun y => y.1 == t) w S b ws e w' := by
  obtain ⟨xs, h, rfl⟩ := h
  have h2 := h.mono (S' := fun k => S k ∧ k < w.heap.size) fun k hk q => ⟨q, hk⟩
  obtain ⟨n, hn⟩ : ∃ n, xs.length = n := ⟨_, rfl⟩
  have hfew := h.few
  rw [hn] at hfew
  have b0 : w.cell? ⟨b, 0, none⟩ = some (ptr (firstB xs)) := blk_cell h.blk 0 rfl
  have lb := lt_of_block h.blk
  have hws : ∀ i, (xs.map (fun x => x.2))[i]? = (xs[i]?).map (fun (x : Nat × Wt) => x.2) := fun i => by rw [List.getElem?_map]
  have Hws := Lib.hid hws
  have Hh := Lib.hid h2; have Hn := Lib.hid hn
  clear h h2 hn hws
  generalize hM : xs.map (·.2) = ws at *
  have HM := Lib.hid hM; clear hM
  have Ha := Lib.hid ha; clear ha
  go_enter Tryz.func193, Tryz.ntmps193
  go_wp2_with fail
  obtain ⟨w0, hw0⟩ : ∃ w0, w0 = w.alloc (.cells #[.int .i64 0, .int .i64 0, .int .i64 0] 154) := ⟨_, rfl⟩
  rw [← hw0]
  have hf0 : Fr Nob w w0 := by rw [hw0]; exact (Fr.refl _ _).alloc _
  have hr0 : w0.heap[w.heap.size]? = some (.cells #[.int .i64 0, .int .i64 0, .int .i64 0] 154 (0, 0)) := by rw [hw0]; exact heap_alloc_new _ _
  obtain ⟨rb, hrb⟩ : ∃ rb, rb = w.heap.size := ⟨_, rfl⟩
  rw [← hrb] at hr0 ⊢
  have Hf0 := Lib.hid hf0; have Hr0 := Lib.hid hr0; have Hrb := Lib.hid hrb
  clear hw0 hf0 hr0 hrb
  go_loopw [6] (fun x wr => ∃ k : Nat, k ≤ n ∧ x = ptr ((xs[k]?).map (·.1)) ∧ Fr Nob w0 wr ∧ ∀ j, j < k → ∀ y, ws[j]? = some y → ((fun y => y.1 == t) : Wt → Bool) y = false) (fun x _ => n - posOf xs x)
  case atStart => exact ⟨0, Nat.zero_le _, rfl, Fr.refl _ _, fun j hj => by omega⟩
  case round =>
    obtain ⟨k, hk, rfl, hfr, hall⟩ := hrel
    have Hfr := Lib.hid hfr; have Hall := Lib.hid hall
    have HhW := Lib.hid (Hh.out.fr (Hf0.out.trans0 hfr) fun _ _ q => q)
    clear hfr hall
    by_cases hlt : k < n
    · obtain ⟨⟨xb, xw⟩, hx⟩ : ∃ y, xs[k]? = some y := ⟨xs[k]'(by have := Hn.out; omega), List.getElem?_eq_getElem _⟩
      obtain ⟨hSx, hxb, hxo⟩ := HhW.out.node k _ hx
      dsimp only at hSx hxb hxo
      have hxl := hSx.2
      have hwk : ws[k]? = some xw := by rw [Hws.out, hx]; rfl
      have hpos := posOf_at HhW.out k (xb, xw) hx
      dsimp only at hpos
      rw [hx]
      simp only [Option.map_some, ptr_some]
      have Hpos := Lib.hid hpos
      have x0 : wr.cell? ⟨xb, 0, none⟩ = some (.int .i64 xw.1) := blk_cell hxo 0 rfl
      have x1 : wr.cell? ⟨xb, 1, none⟩ = some (.int .i64 xw.2.1) := blk_cell hxo 1 rfl
      have x2 : wr.cell? ⟨xb, 2, none⟩ = some (.int .i64 xw.2.2) := blk_cell hxo 2 rfl
      have x4 : wr.cell? ⟨xb, 4, none⟩ = some (ptr (nextB xs k)) := blk_cell hxo 4 rfl
      have hso := wait_so_task wr xw t pa ((Hf0.out.trans0 Hfr.out).cell id Ha.out)
      have Hso := Lib.hid hso
      have Hx := Lib.hid hx; have Hxo := Lib.hid hxo; have Hwk := Lib.hid hwk
      clear hso hx hxo hpos hwk
      go_wp2_with fail
      refine Hso.out.mono ?_
      rintro e w1 ⟨rfl, hf1⟩
      have Hf1 := Lib.hid (Hfr.out.trans0 hf1)
      have x0 := hf1.cell id x0; have x1 := hf1.cell id x1; have x2 := hf1.cell id x2; have x4 := hf1.cell id x4
      have Hh1 := Lib.hid (HhW.out.fr hf1 fun _ _ q => q)
      have hxo1 := hf1.blk id Hxo.out
      have Hxo1 := Lib.hid hxo1
      clear hf1 hxo1
      cases hpv : (xw.1 == t) with
      | true =>
        have Hpv := Lib.hid hpv; clear hpv
        have hdrop := wait_drop w1 (fun k => S k ∧ k < w.heap.size) b xs k (xb, xw) Hh1.out Hx.out
        have Hdrop := Lib.hid hdrop
        clear hdrop
        have hrw := Hf1.out.blk id Hr0.out
        have Hrw := Lib.hid hrw
        clear hrw
        go_wp2_with fail
        refine Hdrop.out.mono ?_
        rintro e w2 ⟨rfl, hf2, hq2, hh2⟩
        have hxo2 := hh2.trans Hxo1.out
        have hrn : ¬ (S rb ∧ rb < w.heap.size) := fun q => by have := Hrb.out; omega
        have hr2 := hf2.blk hrn Hrw.out
        have x0 : w2.cell? ⟨xb, 0, none⟩ = some (.int .i64 xw.1) := blk_cell hxo2 0 rfl
        have x1 : w2.cell? ⟨xb, 1, none⟩ = some (.int .i64 xw.2.1) := blk_cell hxo2 1 rfl
        have x2 : w2.cell? ⟨xb, 2, none⟩ = some (.int .i64 xw.2.2) := blk_cell hxo2 2 rfl
        have r0 : w2.cell? ⟨rb, 0, none⟩ = some (.int .i64 0) := blk_cell hr2 0 rfl
        have r1 : w2.cell? ⟨rb, 1, none⟩ = some (.int .i64 0) := blk_cell hr2 1 rfl
        have r2 : w2.cell? ⟨rb, 2, none⟩ = some (.int .i64 0) := blk_cell hr2 2 rfl
        have s0 := blk_froz hr2 0
        have s1 := blk_froz hr2 1
        have s2 := blk_froz hr2 2
        have Hq2 := Lib.hid hq2; have Hf2 := Lib.hid hf2; have Hr2 := Lib.hid hr2
        clear hf2 hq2 hh2 hxo2 hr2
        go_wp2_with fail
        obtain ⟨w3, hw3⟩ : ∃ w3, w3 = ((w2.setCell ⟨rb, 0, none⟩ (.int .i64 xw.1)).setCell ⟨rb, 1, none⟩ (.int .i64 xw.2.1)).setCell ⟨rb, 2, none⟩ (.int .i64 xw.2.2) := ⟨_, rfl⟩
        rw [← hw3]
        have hr3 : w3.heap[rb]? = some (.cells #[.int .i64 xw.1, .int .i64 xw.2.1, .int .i64 xw.2.2] 154 (0, 0)) := by rw [hw3]; exact blk_set (blk_set (blk_set Hr2.out 0 _) 1 _) 2 _
        have t0 : w3.cell? ⟨rb, 0, none⟩ = some (.int .i64 xw.1) := blk_cell hr3 0 rfl
        have t1 : w3.cell? ⟨rb, 1, none⟩ = some (.int .i64 xw.2.1) := blk_cell hr3 1 rfl
        have t2 : w3.cell? ⟨rb, 2, none⟩ = some (.int .i64 xw.2.2) := blk_cell hr3 2 rfl
        have hf3 : Fr (fun k => k = rb) w2 w3 := by rw [hw3]; exact (((Fr.refl (fun k => k = rb) w2).setCell (p := ⟨rb, 0, none⟩) (.inl rfl) _).setCell (p := ⟨rb, 1, none⟩) (.inl rfl) _).setCell (p := ⟨rb, 2, none⟩) (.inl rfl) _
        refine bodyPost_ret (v := .tuple #[wtVal xw, .bool true]) (by simp [results, Tryz.results193, go_sem, t0, t1, t2]) rfl ?_
        have hfw : Fr Nob w w1 := Hf0.out.trans0 Hf1.out
        refine .inl ⟨k, xw, Hwk.out, (by first | exact Hpv.out | rfl), Hall.out, rfl, (hfw.none.trans0 (Hf2.out.mono fun k _ q => q.1)).trans hf3 (fun k hk e => by have := Hrb.out; omega), xs.eraseIdx k, (Hq2.out.fr hf3 (fun k a e => by have := Hrb.out; have := a.2; omega)).mono (fun k _ q => q.1), ?_⟩
        rw [← HM.out]
        exact map_erase xs k
      | false =>
        have Hpv := Lib.hid hpv; clear hpv
        go_wp2_with fail
        go_roundw
        case rel =>
          refine ⟨k + 1, by omega, rfl, Hf1.out, fun j hj y hy => ?_⟩
          rcases Nat.lt_succ_iff_lt_or_eq.1 hj with h | h
          · exact Hall.out j h y hy
          · subst h; rw [Hwk.out] at hy; cases hy; exact Hpv.out
        case measure =>
          have hp := pos_lt Hh.out k (xb, xw) n Hn.out Hx.out
          exact hp

    · obtain rfl : k = n := by omega
      have hx : xs[k]? = none := List.getElem?_eq_none (by rw [Hn.out]; exact Nat.le_refl _)
      rw [hx]
      simp only [Option.map_none, ptr_none]
      have hr := Hfr.out.blk id Hr0.out
      have r0 : wr.cell? ⟨rb, 0, none⟩ = some (.int .i64 0) := blk_cell hr 0 rfl
      have r1 : wr.cell? ⟨rb, 1, none⟩ = some (.int .i64 0) := blk_cell hr 1 rfl
      have r2 : wr.cell? ⟨rb, 2, none⟩ = some (.int .i64 0) := blk_cell hr 2 rfl
      have s0 := blk_froz hr 0
      have s1 := blk_froz hr 1
      have s2 := blk_froz hr 2
      have Hr := Lib.hid hr
      clear hr hx
      go_wp2_with fail
      obtain ⟨w3, hw3⟩ : ∃ w3, w3 = ((wr.setCell ⟨rb, 0, none⟩ (.int .i64 0)).setCell ⟨rb, 1, none⟩ (.int .i64 0)).setCell ⟨rb, 2, none⟩ (.int .i64 0) := ⟨_, rfl⟩
      rw [← hw3]
      have hr3 : w3.heap[rb]? = some (.cells #[.int .i64 0, .int .i64 0, .int .i64 0] 154 (0, 0)) := by rw [hw3]; exact blk_set (blk_set (blk_set Hr.out 0 _) 1 _) 2 _
      have t0 : w3.cell? ⟨rb, 0, none⟩ = some (.int .i64 0) := blk_cell hr3 0 rfl
      have t1 : w3.cell? ⟨rb, 1, none⟩ = some (.int .i64 0) := blk_cell hr3 1 rfl
      have t2 : w3.cell? ⟨rb, 2, none⟩ = some (.int .i64 0) := blk_cell hr3 2 rfl
      have hf3 : Fr (fun k => k = rb) wr w3 := by rw [hw3]; exact (((Fr.refl (fun k => k = rb) wr).setCell (p := ⟨rb, 0, none⟩) (.inl rfl) _).setCell (p := ⟨rb, 1, none⟩) (.inl rfl) _).setCell (p := ⟨rb, 2, none⟩) (.inl rfl) _
      refine bodyPost_ret (v := .tuple #[wtVal (0, 0, 0), .bool false]) (by simp [results, Tryz.results193, go_sem, t0, t1, t2]) rfl ?_
      refine .inr ⟨fun y hy => ?_, rfl, (Hf0.out.trans0 Hfr.out).trans hf3 (fun k hk e => by have := Hrb.out; omega)⟩
      obtain ⟨j, hj, rfl⟩ := List.mem_iff_getElem.1 hy
      have hjn : j < k := by have h1 := Hn.out; rw [← HM.out, List.length_map] at hj; omega
      exact Hall.out j hjn _ (List.getElem?_eq_getElem hj)
set_option maxHeartbeats 2000000 in
theorem wait_push (w : World) (S : Nat → Prop) (b : Nat) (ws : List Wt) (x : Wt) (n : Nat) (hn : ws.length = n) (h : WaitAt w S b ws) (hlt : n < 100000) :
    Calls Tryz.prog 201 #[.pointer (some ⟨b, 0, none⟩), wtVal x] w fun e w' => e = .returned (.int .i64 ((n : Int) + 1)) ∧ Fr S w w' ∧ WaitAt w' (And' S w w') b (ws ++ [x]) := by
  obtain ⟨xs, h, rfl⟩ := h
  rw [List.length_map] at hn
  obtain ⟨t, c, v⟩ := x
  have c1 := blk_cell h.blk 1 rfl
  have lb := lt_of_block h.blk
  have hS := h.own
  have Hh := Lib.hid h; have Hn := Lib.hid hn
  clear h hn
  rcases Nat.eq_zero_or_pos n with h0 | h0
  · subst h0
    have hx : xs = [] := List.eq_nil_of_length_eq_zero Hn.out
    subst hx
    rw [lastB_nil, ptr_none] at c1
    go_enter Tryz.func201, Tryz.ntmps201
    go_wp2_with fail
    obtain ⟨wa, hwa⟩ : ∃ wa, wa = w.alloc (.cells #[.int .i64 t, .int .i64 c, .int .i64 v] 154) := ⟨_, rfl⟩
    rw [← hwa]
    have hba : wa.heap[w.heap.size]? = some (.cells #[.int .i64 t, .int .i64 c, .int .i64 v] 154 (0, 0)) := by rw [hwa]; exact heap_alloc_new _ _
    have p0 := blk_cell hba 0 rfl
    have p1 := blk_cell hba 1 rfl
    have p2 := blk_cell hba 2 rfl
    have hfa : Fr Nob w wa := by rw [hwa]; exact (Fr.refl _ _).alloc _
    have d1 := hfa.cell id c1
    have hza : wa.heap.size = w.heap.size + 1 := by rw [hwa]; simp
    have Hza := Lib.hid hza; have Hfa := Lib.hid hfa
    clear hwa hba hza hfa c1
    go_region
    obtain ⟨wb, hwb⟩ : ∃ wb, wb = (wa.alloc (.cells #[.int .i64 t, .int .i64 c, .int .i64 v, .pointer none, .pointer none] 156)).drew := ⟨_, rfl⟩
    rw [← hwb]
    have hbb : wb.heap[wa.heap.size]? = some (.cells #[.int .i64 t, .int .i64 c, .int .i64 v, .pointer none, .pointer none] 156 (0, 0)) := by rw [hwb]; exact heap_alloc_new wa _
    have hfb : Fr Nob w wb := by rw [hwb]; exact Hfa.out.trans0 ((Fr.refl _ _).alloc _).drew
    have hzb : wb.heap.size = wa.heap.size + 1 := by rw [hwb]; simp
    obtain ⟨nb, hnb⟩ : ∃ nb, nb = wa.heap.size := ⟨_, rfl⟩
    rw [← hnb] at hbb hzb ⊢
    have hnb1 : w.heap.size ≤ nb := by rw [hnb, Hza.out]; omega
    have hnbb : nb ≠ b := by omega
    have hbq := hfb.blk id Hh.out.blk
    have hq0 : wb.heap[b]? = some (.cells #[ptr (firstB []), .pointer none, .int .i64 ((0 : Nat) : Int)] 152 (0, 0)) := by rw [hbq]; unfold queueObj; rfl
    have e0 := blk_cell hq0 0 rfl
    have e1 := blk_cell hq0 1 rfl
    have e2 := blk_cell hq0 2 rfl
    have f0 := blk_froz hq0 0
    have f1 := blk_froz hq0 1
    have f2 := blk_froz hq0 2
    have Hbb := Lib.hid hbb; have Hfb := Lib.hid hfb; have Hzb := Lib.hid hzb; have Hq0 := Lib.hid hq0; have Hnb := Lib.hid hnb
    clear hwb hbb hfb hzb hq0 hbq hnb d1 p0 p1 p2
    go_wp2_with fail
    go_ret
    have q1 := blk_set Hq0.out 0 (.pointer (some ⟨nb, 0, none⟩))
    have q2 := blk_set q1 1 (.pointer (some ⟨nb, 0, none⟩))
    have q3 := blk_set q2 2 (.int .i64 ((0 : Nat) + 1 : Int))
    have hfr : Fr S w (((wb.setCell ⟨b, 0, none⟩ (.pointer (some ⟨nb, 0, none⟩))).setCell ⟨b, 1, none⟩ (.pointer (some ⟨nb, 0, none⟩))).setCell ⟨b, 2, none⟩ (.int .i64 ((0 : Nat) + 1 : Int))) :=
      ((Hfb.out.none.setCell (p := ⟨b, 0, none⟩) (.inl hS) _).setCell (p := ⟨b, 1, none⟩) (.inl hS) _).setCell (p := ⟨b, 2, none⟩) (.inl hS) _
    refine ⟨rfl, hfr, [(nb, (t, c, v))], ?_, rfl⟩
    refine QAt.snoc (xs := []) Hh.out (by simp) hfr hnb1 q3 ?_ (fun n y hn => by simp at hn) (fun j y hj => by simp at hj)
    rw [blk_set_ne _ _ hnbb, blk_set_ne _ _ hnbb, blk_set_ne _ _ hnbb]
    exact Hbb.out
  · obtain ⟨m, rfl⟩ : ∃ m, n = m + 1 := ⟨n - 1, by omega⟩
    have hml : m < xs.length := by have := Hn.out; omega
    obtain ⟨y, hy⟩ : ∃ y, xs[m]? = some y := ⟨xs[m], List.getElem?_eq_getElem hml⟩
    have hlb := lastB_pos xs m y Hn.out hy
    have hxn : nextB xs m = none := by unfold nextB; rw [List.getElem?_eq_none (by have := Hn.out; omega)]; rfl
    obtain ⟨hSy, hyb, hyo⟩ := Hh.out.node m y hy
    have ylt := lt_of_block hyo
    have Hy := Lib.hid hy; have Hlb := Lib.hid hlb; have Hxn := Lib.hid hxn; have Hyo := Lib.hid hyo
    rw [hlb, ptr_some] at c1
    clear hlb hxn hyo hy
    go_enter Tryz.func201, Tryz.ntmps201
    go_wp2_with fail
    obtain ⟨wa, hwa⟩ : ∃ wa, wa = w.alloc (.cells #[.int .i64 t, .int .i64 c, .int .i64 v] 154) := ⟨_, rfl⟩
    rw [← hwa]
    have hba : wa.heap[w.heap.size]? = some (.cells #[.int .i64 t, .int .i64 c, .int .i64 v] 154 (0, 0)) := by rw [hwa]; exact heap_alloc_new _ _
    have p0 := blk_cell hba 0 rfl
    have p1 := blk_cell hba 1 rfl
    have p2 := blk_cell hba 2 rfl
    have hfa : Fr Nob w wa := by rw [hwa]; exact (Fr.refl _ _).alloc _
    have d1 := hfa.cell id c1
    have hza : wa.heap.size = w.heap.size + 1 := by rw [hwa]; simp
    have Hza := Lib.hid hza; have Hfa := Lib.hid hfa
    clear hwa hba hza hfa c1
    go_region
    obtain ⟨wb, hwb⟩ : ∃ wb, wb = (wa.alloc (.cells #[.int .i64 t, .int .i64 c, .int .i64 v, .pointer (some ⟨y.1, 0, none⟩), .pointer none] 156)).drew := ⟨_, rfl⟩
    rw [← hwb]
    have hbb : wb.heap[wa.heap.size]? = some (.cells #[.int .i64 t, .int .i64 c, .int .i64 v, .pointer (some ⟨y.1, 0, none⟩), .pointer none] 156 (0, 0)) := by rw [hwb]; exact heap_alloc_new wa _
    have hfb : Fr Nob w wb := by rw [hwb]; exact Hfa.out.trans0 ((Fr.refl _ _).alloc _).drew
    have hzb : wb.heap.size = wa.heap.size + 1 := by rw [hwb]; simp
    obtain ⟨nb, hnb⟩ : ∃ nb, nb = wa.heap.size := ⟨_, rfl⟩
    rw [← hnb] at hbb hzb ⊢
    have hnb1 : w.heap.size ≤ nb := by rw [hnb, Hza.out]; omega
    have hnbb : nb ≠ b := by omega
    have hbq := hfb.blk id Hh.out.blk
    have hq0 : wb.heap[b]? = some (.cells #[ptr (firstB xs), .pointer (some ⟨y.1, 0, none⟩), .int .i64 ((m + 1 : Nat) : Int)] 152 (0, 0)) := by rw [hbq]; unfold queueObj; rw [Hlb.out, ptr_some, Hn.out]
    have e0 := blk_cell hq0 0 rfl
    have e1 := blk_cell hq0 1 rfl
    have e2 := blk_cell hq0 2 rfl
    have f0 := blk_froz hq0 0
    have f1 := blk_froz hq0 1
    have f2 := blk_froz hq0 2
    have Hbb := Lib.hid hbb; have Hfb := Lib.hid hfb; have Hzb := Lib.hid hzb; have Hq0 := Lib.hid hq0; have Hnb := Lib.hid hnb
    have hyb2 := hfb.blk id Hyo.out
    have hy0 : wb.heap[y.1]? = some (.cells #[.int .i64 y.2.1, .int .i64 y.2.2.1, .int .i64 y.2.2.2, ptr (prevB xs m), .pointer none] 156 (0, 0)) := by rw [hyb2]; unfold nodeObj; rw [Hxn.out, ptr_none]
    have y4 := blk_cell hy0 4 rfl
    have g4 := blk_froz hy0 4
    have Hy0 := Lib.hid hy0
    have hny : nb ≠ y.1 := by omega
    have hby : b ≠ y.1 := fun e => hyb e.symm
    have hwr : IntKind.i64.wrap (((m + 1 : Nat) : Int) + 1) = ((m + 1 : Nat) : Int) + 1 := IntWalk.i64_in _ (by omega)
    have Hwr := Lib.hid hwr
    clear hwb hbb hfb hzb hq0 hbq hnb d1 p0 p1 p2 hyb2 hy0 hwr
    have e2' : wb.cell? ⟨b, 2, none⟩ = some (.int .i64 ((m : Int) + 1)) := e2
    clear e2
    obtain ⟨yb, yx⟩ := y
    dsimp only at *
    go_wp2_with fail
    go_ret
    have q1 := blk_set Hy0.out 4 (.pointer (some ⟨nb, 0, none⟩))
    have r0 : (wb.setCell ⟨yb, 4, none⟩ (.pointer (some ⟨nb, 0, none⟩))).heap[b]? = _ := (blk_set_ne 4 _ hby).trans Hq0.out
    have r1 := blk_set r0 1 (.pointer (some ⟨nb, 0, none⟩))
    have r2 := blk_set r1 2 (.int .i64 ((m : Int) + 1 + 1))
    have hfr : Fr S w (((wb.setCell ⟨yb, 4, none⟩ (.pointer (some ⟨nb, 0, none⟩))).setCell ⟨b, 1, none⟩ (.pointer (some ⟨nb, 0, none⟩))).setCell ⟨b, 2, none⟩ (.int .i64 ((m : Int) + 1 + 1))) :=
      ((Hfb.out.none.setCell (p := ⟨yb, 4, none⟩) (.inl hSy) _).setCell (p := ⟨b, 1, none⟩) (.inl hS) _).setCell (p := ⟨b, 2, none⟩) (.inl hS) _
    refine ⟨by first | rfl | (push_cast; rfl), hfr, xs ++ [(nb, (t, c, v))], ?_, by simp⟩
    refine QAt.snoc Hh.out (by have := Hn.out; omega) hfr hnb1 ?_ ?_ (fun n z hn hz => ?_) (fun j z hj hz => ?_)
    · rw [r2]
      unfold queueObj
      have hfs : firstB (xs ++ [(nb, (t, c, v))]) = firstB xs := by unfold firstB; rw [List.getElem?_append_left (by have := Hn.out; omega)]
      rw [hfs, Hn.out]
      rfl
    · rw [blk_set_ne _ _ hnbb, blk_set_ne _ _ hnbb, blk_set_ne _ _ hny, Hbb.out]
      unfold nodeObj
      rw [Hlb.out]
      rfl
    · have hnm : n = m := by have := Hn.out; omega
      subst hnm
      rw [Hy.out] at hz
      cases hz
      rw [blk_set_ne _ _ hyb, blk_set_ne _ _ hyb, q1]
      rfl
    · obtain ⟨_, hzb2, hzo⟩ := Hh.out.node j z hz
      have hzy : z.1 ≠ yb := fun e => by
        have := Hh.out.nd j m z (yb, yx) hz Hy.out e
        have := Hn.out; omega
      have hzl := lt_of_block hzo
      rw [blk_set_ne _ _ hzb2, blk_set_ne _ _ hzb2, blk_set_ne _ _ hzy, Hfb.out.block z.1 hzl id]
set_option maxHeartbeats 1000000 in
theorem wait_pop (w : World) (S : Nat → Prop) (b : Nat) (ws : List Wt) (h : WaitAt w S b ws) :
    Calls Tryz.prog 160 #[.pointer (some ⟨b, 0, none⟩)] w fun e w' => TakeP (fun _ => true) w S b ws e w' := by
  have h2 := h.mono (S' := fun k => S k ∧ k < w.heap.size) fun k hk q => ⟨q, hk⟩
  have ht := fun w' (hf : Fr Nob w w') => wait_take_pop w' _ b ws (h2.fr0 hf)
  have Ht := Lib.hid ht
  clear h h2 ht
  go_enter Tryz.func160, Tryz.ntmps160
  go_wp2_with fail
  obtain ⟨w0, hw0⟩ : ∃ w0, w0 = w.alloc (.cells #[.int .i64 0, .int .i64 0, .int .i64 0] 154) := ⟨_, rfl⟩
  rw [← hw0]
  have hf0 : Fr Nob w w0 := by rw [hw0]; exact (Fr.refl _ _).alloc _
  have hr0 : w0.heap[w.heap.size]? = some (.cells #[.int .i64 0, .int .i64 0, .int .i64 0] 154 (0, 0)) := by rw [hw0]; exact heap_alloc_new _ _
  obtain ⟨rb, hrb⟩ : ∃ rb, rb = w.heap.size := ⟨_, rfl⟩
  rw [← hrb] at hr0 ⊢
  have Hf0 := Lib.hid hf0; have Hr0 := Lib.hid hr0; have Hrb := Lib.hid hrb
  clear hw0 hf0 hr0 hrb
  refine (Ht.out w0 Hf0.out).mono ?_
  intro e w1 htp
  have hrn : ¬ (S rb ∧ rb < w.heap.size) := fun q => by have := Hrb.out; omega
  rcases htp with ⟨i, x, h1, h2, h3, rfl, hf1, hq1⟩ | ⟨h1, rfl, hf1⟩
  · have hr1 := hf1.blk hrn Hr0.out
    have r0 : w1.cell? ⟨rb, 0, none⟩ = some (.int .i64 0) := blk_cell hr1 0 rfl
    have r1 : w1.cell? ⟨rb, 1, none⟩ = some (.int .i64 0) := blk_cell hr1 1 rfl
    have r2 : w1.cell? ⟨rb, 2, none⟩ = some (.int .i64 0) := blk_cell hr1 2 rfl
    have s0 := blk_froz hr1 0
    have s1 := blk_froz hr1 1
    have s2 := blk_froz hr1 2
    have H1 := Lib.hid h1; have H2 := Lib.hid h2; have H3 := Lib.hid h3; have Hf1 := Lib.hid hf1; have Hq1 := Lib.hid hq1; have Hr1 := Lib.hid hr1
    clear h1 h2 h3 hf1 hq1 hr1
    go_wp2_with fail
    obtain ⟨w3, hw3⟩ : ∃ w3, w3 = ((w1.setCell ⟨rb, 0, none⟩ (.int .i64 x.1)).setCell ⟨rb, 1, none⟩ (.int .i64 x.2.1)).setCell ⟨rb, 2, none⟩ (.int .i64 x.2.2) := ⟨_, rfl⟩
    rw [← hw3]
    have hr3 : w3.heap[rb]? = some (.cells #[.int .i64 x.1, .int .i64 x.2.1, .int .i64 x.2.2] 154 (0, 0)) := by rw [hw3]; exact blk_set (blk_set (blk_set Hr1.out 0 _) 1 _) 2 _
    have t0 : w3.cell? ⟨rb, 0, none⟩ = some (.int .i64 x.1) := blk_cell hr3 0 rfl
    have t1 : w3.cell? ⟨rb, 1, none⟩ = some (.int .i64 x.2.1) := blk_cell hr3 1 rfl
    have t2 : w3.cell? ⟨rb, 2, none⟩ = some (.int .i64 x.2.2) := blk_cell hr3 2 rfl
    have hf3 : Fr (fun k => k = rb) w1 w3 := by rw [hw3]; exact (((Fr.refl (fun k => k = rb) w1).setCell (p := ⟨rb, 0, none⟩) (.inl rfl) _).setCell (p := ⟨rb, 1, none⟩) (.inl rfl) _).setCell (p := ⟨rb, 2, none⟩) (.inl rfl) _
    refine bodyPost_ret (v := .tuple #[wtVal x, .bool true]) (by simp [results, Tryz.results160, go_sem, t0, t1, t2]) rfl ?_
    exact .inl ⟨i, x, H1.out, (by first | exact H2.out | rfl), H3.out, rfl, (Hf0.out.none.trans0 (Hf1.out.mono fun k _ q => q.1)).trans hf3 (fun k hk e => by have := Hrb.out; omega), (Hq1.out.fr hf3 (fun k a e => by have := Hrb.out; have := a.2; omega)).mono (fun k _ q => q.1)⟩
  · have hr1 := hf1.blk id Hr0.out
    have r0 : w1.cell? ⟨rb, 0, none⟩ = some (.int .i64 0) := blk_cell hr1 0 rfl
    have r1 : w1.cell? ⟨rb, 1, none⟩ = some (.int .i64 0) := blk_cell hr1 1 rfl
    have r2 : w1.cell? ⟨rb, 2, none⟩ = some (.int .i64 0) := blk_cell hr1 2 rfl
    have s0 := blk_froz hr1 0
    have s1 := blk_froz hr1 1
    have s2 := blk_froz hr1 2
    have H1 := Lib.hid h1; have Hf1 := Lib.hid hf1; have Hr1 := Lib.hid hr1
    clear h1 hf1 hr1
    go_wp2_with fail
    obtain ⟨w3, hw3⟩ : ∃ w3, w3 = ((w1.setCell ⟨rb, 0, none⟩ (.int .i64 0)).setCell ⟨rb, 1, none⟩ (.int .i64 0)).setCell ⟨rb, 2, none⟩ (.int .i64 0) := ⟨_, rfl⟩
    rw [← hw3]
    have hr3 : w3.heap[rb]? = some (.cells #[.int .i64 0, .int .i64 0, .int .i64 0] 154 (0, 0)) := by rw [hw3]; exact blk_set (blk_set (blk_set Hr1.out 0 _) 1 _) 2 _
    have t0 : w3.cell? ⟨rb, 0, none⟩ = some (.int .i64 0) := blk_cell hr3 0 rfl
    have t1 : w3.cell? ⟨rb, 1, none⟩ = some (.int .i64 0) := blk_cell hr3 1 rfl
    have t2 : w3.cell? ⟨rb, 2, none⟩ = some (.int .i64 0) := blk_cell hr3 2 rfl
    have hf3 : Fr (fun k => k = rb) w1 w3 := by rw [hw3]; exact (((Fr.refl (fun k => k = rb) w1).setCell (p := ⟨rb, 0, none⟩) (.inl rfl) _).setCell (p := ⟨rb, 1, none⟩) (.inl rfl) _).setCell (p := ⟨rb, 2, none⟩) (.inl rfl) _
    refine bodyPost_ret (v := .tuple #[wtVal (0, 0, 0), .bool false]) (by simp [results, Tryz.results160, go_sem, t0, t1, t2]) rfl ?_
    exact .inr ⟨H1.out, rfl, (Hf0.out.trans0 Hf1.out).trans hf3 (fun k hk e => by have := Hrb.out; omega)⟩
theorem info_wait : (Tryz.prog.info? 154).map (fun i => (i.zero, i.size, i.bytes)) = some (some (.agg #[.int .i64 0, .int .i64 0, .int .i64 0]), 3, 24) := by kernel_rfl
abbrev waits (ws : List Wt) : List Value := ws.flatMap wtCells
theorem waits_snoc (ws : List Wt) (k : Nat) (x : Wt) (h : ws[k]? = some x) : waits (ws.take k) ++ wtCells x = waits (ws.take (k + 1)) := by
  rw [List.take_add_one, h]; simp [waits, List.flatMap_append]
set_option maxHeartbeats 2000000 in
theorem wait_all (w : World) (S : Nat → Prop) (b : Nat) (ws : List Wt) (n : Nat) (hn : ws.length = n) (h : WaitAt w S b ws) :
    Calls Tryz.prog 36 #[.pointer (some ⟨b, 0, none⟩)] w fun e w' => ∃ v, e = .returned v ∧ Fr Nob w w' ∧ Sl w' (From w.heap.size) 154 3 v n (waits ws) := by
  obtain ⟨xs, h, rfl⟩ := h
  rw [List.length_map] at hn
  have hfew := h.few
  rw [hn] at hfew
  have b0 : w.cell? ⟨b, 0, none⟩ = some (ptr (firstB xs)) := blk_cell h.blk 0 rfl
  have hws : ∀ i, (xs.map (fun x => x.2))[i]? = (xs[i]?).map (fun (x : Nat × Wt) => x.2) := fun i => by rw [List.getElem?_map]
  have Hws := Lib.hid hws; have Hh := Lib.hid h; have Hn := Lib.hid hn
  have htk : (xs.map (fun x => x.2)).take n = xs.map (fun x => x.2) := by rw [List.take_of_length_le]; rw [List.length_map, hn]; exact Nat.le_refl _
  have Htk := Lib.hid htk
  clear h hn hws htk
  generalize xs.map (fun x => x.2) = ws at *
  go_enter Tryz.func36, Tryz.ntmps36
  go_wp2_with fail
  go_loopw [2, 3] (fun vo x wr => ∃ (k : Nat) (A : Option Addr) (c : Nat), k ≤ n ∧ x = ptr ((xs[k]?).map (fun x => x.1)) ∧ vo = .slice A k c ∧ Fr (From w.heap.size) w wr ∧ Sl wr (From w.heap.size) 154 3 (.slice A k c) k (waits (ws.take k))) (fun _ x _ => n - posOf xs x)
  case atStart => exact ⟨0, none, 0, Nat.zero_le _, rfl, rfl, Fr.refl _ _, Sl.nil _ _ _ _⟩
  case round =>
    obtain ⟨k, A, c, hk, rfl, rfl, hfr, hs⟩ := hrel
    have Hfr := Lib.hid hfr; have Hs := Lib.hid hs
    have hf0 : Fr Nob w wr := hfr.mono fun k hk q => by unfold From at q; omega
    have HhW := Lib.hid (Hh.out.fr hf0 fun _ _ q => q)
    clear hfr hs hf0
    by_cases hlt : k < n
    · obtain ⟨⟨xb, xw⟩, hx⟩ : ∃ y, xs[k]? = some y := ⟨xs[k]'(by have := Hn.out; omega), List.getElem?_eq_getElem _⟩
      obtain ⟨hSx, hxb, hxo⟩ := HhW.out.node k _ hx
      dsimp only at hSx hxb hxo
      have hwk : ws[k]? = some xw := by rw [Hws.out, hx]; rfl
      have hsn := waits_snoc ws k xw hwk
      rw [hx]
      simp only [Option.map_some, ptr_some]
      have x0 : wr.cell? ⟨xb, 0, none⟩ = some (.int .i64 xw.1) := blk_cell hxo 0 rfl
      have x1 : wr.cell? ⟨xb, 1, none⟩ = some (.int .i64 xw.2.1) := blk_cell hxo 1 rfl
      have x2 : wr.cell? ⟨xb, 2, none⟩ = some (.int .i64 xw.2.2) := blk_cell hxo 2 rfl
      have hxl := lt_of_block hxo
      have Hx := Lib.hid hx; have Hxo := Lib.hid hxo; have Hsn := Lib.hid hsn
      have hlt0 := Hh.out.lt k _ Hx.out
      dsimp only at hlt0
      clear hx hxo hwk hsn
      go_wp2_with (at_builtin; refine wpList_append1 wr rfl _ _ _ rfl (From w.heap.size) 154 _ 3 24 Tryz.underlying53 info_wait rfl (by omega) (.slice A k c) k _ (wtCells xw) rfl Hs.out rfl rfl rfl (by omega) (by omega) ?_; intro v3 w3 hs3 hf3 hz3; obtain ⟨A3, c3, rfl⟩ := hs3.slice; have hxo3 := hf3.blk (k := xb) (by unfold From; omega) Hxo.out; have x4 : w3.cell? ⟨xb, 4, none⟩ = some (ptr (nextB xs k)) := blk_cell hxo3 4 rfl; have Hs3 := Lib.hid hs3; have Hf3 := Lib.hid hf3; clear hs3 hf3 hxo3)
      go_roundw
      case rel =>
        refine ⟨k + 1, A3, c3, by omega, rfl, rfl, Hfr.out.trans0 Hf3.out, ?_⟩
        rw [← Hsn.out]
        exact Hs3.out.mono fun k _ q => by rcases q with q | q; exact q; have := Hfr.out.size; unfold From; omega
      case measure => exact pos_lt Hh.out k (xb, xw) n Hn.out Hx.out
    · obtain rfl : k = n := by omega
      have hx : xs[k]? = none := List.getElem?_eq_none (by rw [Hn.out]; exact Nat.le_refl _)
      rw [hx]
      simp only [Option.map_none, ptr_none]
      clear hx
      go_wp2_with fail
      go_ret
      refine ⟨_, rfl, Hfr.out.mono fun k hk q => by unfold From at q; omega, ?_⟩
      have h := Hs.out
      rw [Htk.out] at h
      exact h
/-- Those of ws that are not of task t. -/
def notT (ws : List Wt) (t : Int) : List Wt := ws.filter fun y => !(y.1 == t)
theorem notT_erase (ws : List Wt) (t : Int) (i : Nat) (x : Wt) (h : ws[i]? = some x) (hx : (x.1 == t) = true) : notT (ws.eraseIdx i) t = notT ws t := by
  unfold notT
  induction ws generalizing i with
  | nil => simp at h
  | cons y ws ih =>
    cases i with
    | zero => simp at h; subst h; simp [List.filter_cons, hx]
    | succ i =>
      simp at h
      rw [List.eraseIdx_cons_succ, List.filter_cons, List.filter_cons, ih i h]
theorem notT_all (ws : List Wt) (t : Int) (h : ∀ y ∈ ws, (y.1 == t) = false) : notT ws t = ws := List.filter_eq_self.2 fun y hy => by simp [h y hy]
theorem notT_le (ws : List Wt) (t : Int) : (notT ws t).length ≤ ws.length := List.length_filter_le _ _
set_option maxHeartbeats 1000000 in
theorem wait_remove (w : World) (S : Nat → Prop) (b : Nat) (ws : List Wt) (t : Int) (h : WaitAt w S b ws) :
    Calls Tryz.prog 196 #[.pointer (some ⟨b, 0, none⟩), .int .i64 t] w fun e w' => e = .returned (.int .i64 ((ws.length - (notT ws t).length : Nat) : Int)) ∧ Fr S w w' ∧ WaitAt w' S b (notT ws t) := by
  obtain ⟨n, hn⟩ : ∃ n, ws.length = n := ⟨_, rfl⟩
  have hfew := h.few
  rw [hn] at hfew
  have h2 := h.mono (S' := fun k => S k ∧ k < w.heap.size) fun k hk q => ⟨q, hk⟩
  obtain ⟨m, hm⟩ : ∃ m, (notT ws t).length = m := ⟨_, rfl⟩
  have hmn := notT_le ws t
  rw [hm, hn] at hmn
  rw [hm, hn]
  obtain ⟨rs, hrs⟩ : ∃ rs, rs = notT ws t := ⟨_, rfl⟩
  rw [← hrs]
  have H2 := Lib.hid h2; have Hn := Lib.hid hn; have Hm := Lib.hid hm; have Hrs := Lib.hid hrs
  clear h h2 hn hm hrs
  go_enter Tryz.func196, Tryz.ntmps196
  go_wp2_with fail
  obtain ⟨w0, hw0⟩ : ∃ w0, w0 = w.alloc (.cells #[.int .i64 t] 3) := ⟨_, rfl⟩
  rw [← hw0]
  have hf0 : Fr Nob w w0 := by rw [hw0]; exact (Fr.refl _ _).alloc _
  obtain ⟨tb, htb⟩ : ∃ tb, tb = w.heap.size := ⟨_, rfl⟩
  rw [← htb]
  have ht0 : w0.cell? ⟨tb, 0, none⟩ = some (.int .i64 t) := by rw [hw0, htb]; exact blk_cell (heap_alloc_new w _) 0 rfl
  have htn : ¬ (S tb ∧ tb < w.heap.size) := fun q => by omega
  have Hf0 := Lib.hid hf0; have Ht0 := Lib.hid ht0; have Htn := Lib.hid htn; have Htb := Lib.hid htb
  clear hw0 hf0 htb ht0 htn
  go_loopw [4] (fun c wr => ∃ (j : Nat) (q : List Wt), c = .int .i64 j ∧ q.length + j = n ∧ notT q t = rs ∧ Fr (fun k => S k ∧ k < w.heap.size) w0 wr ∧ WaitAt wr (fun k => S k ∧ k < w.heap.size) b q) (fun c _ => n - (intOf c).toNat)
  case atStart => exact ⟨0, ws, rfl, Hn.out, Hrs.out.symm, Fr.refl _ _, H2.out.fr0 Hf0.out⟩
  case round =>
    obtain ⟨j, q, rfl, hqj, hnq, hfr, hq⟩ := hrel
    have hcall := wait_take_task wr _ b q hq t tb (hfr.cell (p := ⟨tb, 0, none⟩) Htn.out Ht0.out)
    have Hcall := Lib.hid hcall
    have Hnq := Lib.hid hnq; have Hfr := Lib.hid hfr; have Hq := Lib.hid hq; have Hqj := Lib.hid hqj
    clear hcall hnq hfr hq hqj
    go_wp2_with fail
    refine Hcall.out.mono ?_
    intro e w1 htp
    rcases htp with ⟨i, x, h1, h2, h3, rfl, hf1, hq1⟩ | ⟨h1, rfl, hf1⟩
    · have hjn : j < n := by have := (List.getElem?_eq_some_iff.1 h1).1; have := Hqj.out; omega
      have he := notT_erase q t i x h1 h2
      have hle : (q.eraseIdx i).length + (j + 1) = n := by
        have := (List.getElem?_eq_some_iff.1 h1).1
        rw [List.length_eraseIdx, if_pos this]; have := Hqj.out; omega
      have He := Lib.hid he; have Hle := Lib.hid hle; have Hf1 := Lib.hid hf1; have Hq1 := Lib.hid hq1
      clear h1 h2 h3 hf1 hq1 he hle
      go_wp2_with fail
      go_roundw
      case rel => exact ⟨j + 1, q.eraseIdx i, by go_num, Hle.out, by rw [He.out]; exact Hnq.out, (Hfr.out.trans0 Hf1.out).alloc _, Hq1.out.fr0 ((Fr.refl _ _).alloc _)⟩
      case measure => simp [intOf]; omega
    · have hq2 := notT_all q t h1
      have hj : j = n - m := by
        have h4 := Hnq.out; rw [hq2] at h4
        have h5 := Hqj.out; rw [h4, Hrs.out, Hm.out] at h5; omega
      have hqe : q = rs := by rw [← hq2]; exact Hnq.out
      have Hqe := Lib.hid hqe; have Hf1 := Lib.hid hf1; have Hj := Lib.hid hj
      clear h1 hf1 hq2 hj hqe
      go_wp2_with fail
      go_ret
      have hfz : Fr Nob w1 (w1.alloc (.cells #[.int .i64 0, .int .i64 0, .int .i64 0] 154)) := (Fr.refl _ _).alloc _
      refine ⟨by rw [← Hj.out]; rfl, ((Hf0.out.none.trans0 (Hfr.out.mono fun k _ q => q.1)).trans0 Hf1.out.none).trans0 hfz.none, ?_⟩
      rw [← Hqe.out]
      exact ((Hq.out.fr0 Hf1.out).fr0 hfz).mono fun k _ q => q.1
theorem wait_pop_some (w : World) (S : Nat → Prop) (b : Nat) (x : Wt) (q : List Wt) (h : WaitAt w S b (x :: q)) :
    Calls Tryz.prog 160 #[.pointer (some ⟨b, 0, none⟩)] w fun e w' => e = .returned (.tuple #[wtVal x, .bool true]) ∧ Fr S w w' ∧ WaitAt w' S b q := by
  refine (wait_pop w S b _ h).mono ?_
  rintro e w' (⟨i, y, h1, h2, h3, h4, h5, h6⟩ | ⟨h1, _⟩)
  · cases i with
    | zero => simp at h1; subst h1; exact ⟨h4, h5, by simpa using h6⟩
    | succ i => have := h3 0 (by omega) x rfl; simp at this
  · have := h1 x (List.mem_cons_self ..); simp at this
theorem wait_pop_none (w : World) (S : Nat → Prop) (b : Nat) (h : WaitAt w S b []) :
    Calls Tryz.prog 160 #[.pointer (some ⟨b, 0, none⟩)] w fun e w' => e = .returned (.tuple #[wtVal (0, 0, 0), .bool false]) ∧ Fr Nob w w' := by
  refine (wait_pop w S b _ h).mono ?_
  rintro e w' (⟨i, y, h1, _⟩ | ⟨_, h2, h3⟩)
  · simp at h1
  · exact ⟨h2, h3⟩
set_option maxHeartbeats 800000 in
theorem wait_take_nil (w : World) (v : Value) :
    Calls Tryz.prog 193 #[.pointer none, v] w fun e w' => e = .returned (.tuple #[wtVal (0, 0, 0), .bool false]) ∧ Fr Nob w w' := by
  go_enter Tryz.func193, Tryz.ntmps193
  go_wp2_with fail
  obtain ⟨w0, hw0⟩ : ∃ w0, w0 = w.alloc (.cells #[.int .i64 0, .int .i64 0, .int .i64 0] 154) := ⟨_, rfl⟩
  rw [← hw0]
  have hr0 : w0.heap[w.heap.size]? = some (.cells #[.int .i64 0, .int .i64 0, .int .i64 0] 154 (0, 0)) := by rw [hw0]; exact heap_alloc_new _ _
  have t0 : w0.cell? ⟨w.heap.size, 0, none⟩ = some (.int .i64 0) := blk_cell hr0 0 rfl
  have t1 : w0.cell? ⟨w.heap.size, 1, none⟩ = some (.int .i64 0) := blk_cell hr0 1 rfl
  have t2 : w0.cell? ⟨w.heap.size, 2, none⟩ = some (.int .i64 0) := blk_cell hr0 2 rfl
  have hf3 : Fr Nob w w0 := by rw [hw0]; exact (Fr.refl Nob w).alloc _
  exact bodyPost_ret (v := .tuple #[wtVal (0, 0, 0), .bool false]) (by simp [results, Tryz.results193, go_sem, t0, t1, t2]) rfl ⟨rfl, hf3⟩
set_option maxHeartbeats 800000 in
theorem wait_remove_nil (w : World) (t : Int) :
    Calls Tryz.prog 196 #[.pointer none, .int .i64 t] w fun e w' => e = .returned (.int .i64 0) ∧ Fr Nob w w' := by
  go_enter Tryz.func196, Tryz.ntmps196
  go_wp2_with fail
  obtain ⟨w0, hw0⟩ : ∃ w0, w0 = w.alloc (.cells #[.int .i64 t] 3) := ⟨_, rfl⟩
  rw [← hw0]
  have Hf0 : Hid (Fr Nob w w0) := by rw [hw0]; exact (Fr.refl Nob _).alloc _
  clear hw0
  go_loopw [4] (fun c wr => c = .int .i64 0 ∧ wr = w0) (fun _ _ => 0)
  case atStart => exact ⟨rfl, rfl⟩
  case round =>
    obtain ⟨rfl, rfl⟩ := hrel
    go_wp2_with fail
    refine (wait_take_nil wr _).mono ?_
    rintro e w1 ⟨rfl, hf1⟩
    have Hf1 := Lib.hid (Hf0.out.trans0 hf1); clear hf1
    go_wp2_with fail
    go_ret
    exact ⟨rfl, Hf1.out.alloc _⟩
/-- A ring of so many places that holds q. -/
def RingAt (w : World) (S : Nat → Prop) (b size : Nat) (q : List Int) : Prop :=
  ∃ (g : Nat) (blk : Array Value) (f n : Nat), S b ∧ S g ∧ b ≠ g ∧ size ≤ 64 ∧
    w.heap[b]? = some (.cells #[.slice (some ⟨g, 0, none⟩) size size, .int .i64 (f : Int), .int .i64 (n : Int)] 149 (0, 0)) ∧
    w.heap[g]? = some (.cells blk 3 (0, 0)) ∧ blk.size = size ∧ n ≤ size ∧ (f < size ∨ f = 0) ∧ q.length = n ∧
    ∀ i u, q[i]? = some u → blk[(f + i) % size]? = some (.int .i64 u)
theorem RingAt.len {w : World} {S : Nat → Prop} {b size : Nat} {q : List Int} (h : RingAt w S b size q) : q.length ≤ size ∧ size ≤ 64 := by
  obtain ⟨g, blk, f, n, hSb, hSg, hbg, hs, hb, hg, hsz, hq, hf, hn, hc⟩ := h; exact ⟨by omega, hs⟩
theorem RingAt.mem {w : World} {S : Nat → Prop} {b size : Nat} {q : List Int} (h : RingAt w S b size q) : S b ∧ b < w.heap.size := by
  obtain ⟨g, blk, f, n, hSb, hSg, hbg, hs, hb, hg, hsz, hq, hf, hc⟩ := h; exact ⟨hSb, lt_of_block hb⟩
theorem RingAt.fr {w w' : World} {S F : Nat → Prop} {b size : Nat} {q : List Int} (h : RingAt w S b size q) (hf : Fr F w w') (hd : ∀ k, k < w.heap.size → S k → F k → False) : RingAt w' S b size q := by
  obtain ⟨g, blk, f, n, hSb, hSg, hbg, hs, hb, hg, r⟩ := h
  exact ⟨g, blk, f, n, hSb, hSg, hbg, hs, hf.blk (hd _ (lt_of_block hb) hSb) hb, hf.blk (hd _ (lt_of_block hg) hSg) hg, r⟩
theorem RingAt.mono {w : World} {S S' : Nat → Prop} {b size : Nat} {q : List Int} (h : RingAt w S b size q) (hs : ∀ k, k < w.heap.size → S k → S' k) : RingAt w S' b size q := by
  obtain ⟨g, blk, f, n, hSb, hSg, hbg, hs', hb, hg, r⟩ := h
  exact ⟨g, blk, f, n, hs _ (lt_of_block hb) hSb, hs _ (lt_of_block hg) hSg, hbg, hs', hb, hg, r⟩
theorem modc (f n s : Nat) : ((f : Int) + n) % s = (((f + n) % s : Nat) : Int) := by simp
theorem ring_ne (f n i size : Nat) (hn : n < size) (hi : i < size) (hf : f < size ∨ f = 0) (e : i < n) : (f + n) % size ≠ (f + i) % size := by
  intro e2
  rcases hf with hf | hf
  · have h1 : (f + n) / size = 0 ∨ (f + n) / size = 1 := by
      have h := (Nat.div_lt_iff_lt_mul (show 0 < size by omega)).2 (show f + n < 2 * size by omega); revert h; generalize (f + n) / size = z; omega
    have h2 : (f + i) / size = 0 ∨ (f + i) / size = 1 := by
      have h := (Nat.div_lt_iff_lt_mul (show 0 < size by omega)).2 (show f + i < 2 * size by omega); revert h; generalize (f + i) / size = z; omega
    have h3 := Nat.div_add_mod (f + n) size
    have h4 := Nat.div_add_mod (f + i) size
    have h5 := Nat.mod_lt (f + n) (show 0 < size by omega)
    have h6 := Nat.mod_lt (f + i) (show 0 < size by omega)
    rcases h1 with h1 | h1 <;> rcases h2 with h2 | h2 <;> rw [h1] at h3 <;> rw [h2] at h4 <;> simp at h3 h4 <;> omega
  · subst hf
    rw [Nat.zero_add, Nat.zero_add, Nat.mod_eq_of_lt (by omega), Nat.mod_eq_of_lt (by omega)] at e2
    omega
theorem ring_push_yes (w : World) (S : Nat → Prop) (b size : Nat) (q : List Int) (v : Int) (h : RingAt w S b size q) (hq : q.length < size) :
    Calls Tryz.prog 115 #[.pointer (some ⟨b, 0, none⟩), .int .i64 v] w fun e w' => e = .returned (.bool true) ∧ Fr S w w' ∧ RingAt w' S b size (q ++ [v]) := by
  obtain ⟨g, blk, f, n, hSb, hSg, hbg, hs, hb, hg, hsz, hq', hf, hn, hc⟩ := h
  rw [hn] at hq
  have Hc := Lib.hid hc; clear hc
  have Hsz := Lib.hid hsz; clear hsz
  have Hn := Lib.hid hn; clear hn
  have Hb := Lib.hid hb; have Hg := Lib.hid hg
  have c0 := blk_cell hb 0 rfl
  have c1 := blk_cell hb 1 rfl
  have c2 := blk_cell hb 2 rfl
  have f2 := blk_froz hb 2
  have hp1 : (f + n) % size < size := Nat.mod_lt _ (by omega)
  generalize hpp : (f + n) % size = p at *
  have hp : ((f : Int) + n) % size = (p : Int) := by rw [modc, hpp]
  have Hp := Lib.hid hpp; clear hpp
  have hpb : p < blk.size := by rw [Hsz.out]; exact hp1
  have ck := blk_cell hg p (Array.getElem?_eq_getElem hpb)
  have fk := blk_froz hg p
  generalize blk[p] = x at ck
  clear hb hg hpb
  have h1 : decide (n = size) = false := by simp; omega
  have h2 : ((n : Int) == size) = false := by simp; omega
  go_enter Tryz.func115, Tryz.ntmps115
  go_wp2
  go_quiet (fail)
  go_wp2
  go_region
  go_wp2
  go_ret
  have hb := Hb.out
  have hg := Hg.out
  refine ⟨rfl, (((Fr.refl S w).drewN _).setCell (.inl hSg) _).setCell (.inl hSb) _, g, blk.setIfInBounds p (.int .i64 v), f, n + 1, hSb, hSg, hbg, hs, ?_, ?_, ?_, ?_, hf, ?_, ?_⟩
  · rw [blk_set (by rw [blk_set_ne _ _ hbg]; exact hb) 2 _]; rfl
  · rw [blk_set_ne _ _ (Ne.symm hbg)]; exact blk_set hg _ _
  · simpa using Hsz.out
  · omega
  · rw [List.length_append, Hn.out]; rfl
  · intro i u hu
    have hsz := Hsz.out
    have hpp := Hp.out
    have hn := Hn.out
    rw [Array.getElem?_setIfInBounds]
    rw [List.getElem?_append] at hu
    split at hu
    · have e : i < n := by omega
      rw [if_neg (by rw [← hpp]; exact ring_ne f n i size (by omega) (by omega) hf e)]
      exact Hc.out i u hu
    · have : i = n := by
        have := (List.getElem?_eq_some_iff.1 hu).1; simp at this; omega
      subst this
      rw [if_pos hpp.symm, if_pos (by rw [hsz]; exact hp1)]
      simp [hn] at hu; rw [hu]
theorem ring_push_no (w : World) (S : Nat → Prop) (b size : Nat) (q : List Int) (v : Int) (h : RingAt w S b size q) (hq : q.length = size) :
    Calls Tryz.prog 115 #[.pointer (some ⟨b, 0, none⟩), .int .i64 v] w fun e w' => e = .returned (.bool false) ∧ ∃ m, w' = w.drewN m := by
  obtain ⟨g, blk, f, n, hSb, hSg, hbg, hs, hb, hg, hsz, hq', hf, hn, hc⟩ := h
  obtain rfl : n = size := by omega
  clear hq hn hc hsz hg
  have c0 := blk_cell hb 0 rfl
  have c2 := blk_cell hb 2 rfl
  clear hb
  have h2 : ((n : Int) == n) = true := by simp
  go_enter Tryz.func115, Tryz.ntmps115
  go_wp2
  go_quiet (fail)
  go_wp2
  go_ret
  exact ⟨rfl, _, rfl⟩
theorem ring_len (w : World) (S : Nat → Prop) (b size : Nat) (q : List Int) (h : RingAt w S b size q) :
    Calls Tryz.prog 33 #[.pointer (some ⟨b, 0, none⟩)] w fun e w' => e = .returned (.int .i64 ((q.length : Nat) : Int)) ∧ w = w' := by
  obtain ⟨g, blk, f, n, hSb, hSg, hbg, hs, hb, hg, hsz, hq', hf, hn, hc⟩ := h
  rw [hn]
  clear hn hc hsz hg
  have c2 := blk_cell hb 2 rfl
  clear hb
  go_enter Tryz.func33, Tryz.ntmps33
  go_wp2
  go_ret
  exact ⟨rfl, rfl⟩
theorem ring_size (w : World) (S : Nat → Prop) (b size : Nat) (q : List Int) (h : RingAt w S b size q) :
    Calls Tryz.prog 34 #[.pointer (some ⟨b, 0, none⟩)] w fun e w' => e = .returned (.int .i64 (size : Int)) ∧ w = w' := by
  obtain ⟨g, blk, f, n, hSb, hSg, hbg, hs, hb, hg, hsz, hq', hf, hn, hc⟩ := h
  clear hn hc hsz hg
  have c0 := blk_cell hb 0 rfl
  clear hb
  go_enter Tryz.func34, Tryz.ntmps34
  go_wp2
  go_ret
  exact ⟨rfl, rfl⟩
theorem ring_pop_none (w : World) (S : Nat → Prop) (b size : Nat) (h : RingAt w S b size []) :
    Calls Tryz.prog 202 #[.pointer (some ⟨b, 0, none⟩)] w fun e w' => e = .returned (.tuple #[.int .i64 0, .bool false]) ∧ ∃ m, w' = w.drewN m := by
  obtain ⟨g, blk, f, n, hSb, hSg, hbg, hs, hb, hg, hsz, hq', hf, hn, hc⟩ := h
  obtain rfl : n = 0 := hn.symm
  clear hn hc hsz hg
  have c2 := blk_cell hb 2 rfl
  clear hb
  go_enter Tryz.func202, Tryz.ntmps202
  go_wp2
  go_ret2
  exact ⟨rfl, 0, rfl⟩
theorem ring_pop_some (w : World) (S : Nat → Prop) (b size : Nat) (v : Int) (q : List Int) (h : RingAt w S b size (v :: q)) :
    Calls Tryz.prog 202 #[.pointer (some ⟨b, 0, none⟩)] w fun e w' => e = .returned (.tuple #[.int .i64 v, .bool true]) ∧ Fr S w w' ∧ RingAt w' S b size q := by
  obtain ⟨g, blk, f, n, hSb, hSg, hbg, hs, hb, hg, hsz, hq', hf, hn, hc⟩ := h
  simp only [List.length_cons] at hn
  have h0 := hc 0 v rfl
  have hpos : 0 < size := by omega
  rw [Nat.add_zero, Nat.mod_eq_of_lt (by omega)] at h0
  have Hc := Lib.hid hc; clear hc
  have Hsz := Lib.hid hsz; clear hsz
  have Hn := Lib.hid hn; clear hn
  have Hb := Lib.hid hb; have Hg := Lib.hid hg
  have c0 := blk_cell hb 0 rfl
  have c1 := blk_cell hb 1 rfl
  have c2 := blk_cell hb 2 rfl
  have f1 := blk_froz hb 1
  have f2 := blk_froz hb 2
  have hf' : f < size := by omega
  have hp1 : (f + 1) % size < size := Nat.mod_lt _ hpos
  generalize hpp : (f + 1) % size = p at *
  have hp : ((f : Int) + 1) % size = (p : Int) := by rw [← hpp]; simp
  have Hp := Lib.hid hpp; clear hpp
  have ck := blk_cell hg f h0
  clear hb hg h0
  have hn0 : 0 < n := by have := Hn.out; omega
  have h2 : ((n : Int) == 0) = false := by simp; omega
  go_enter Tryz.func202, Tryz.ntmps202
  go_wp2
  go_quiet (fail)
  go_wp2
  go_region
  go_wp2
  go_ret2
  have hb := Hb.out
  have hg := Hg.out
  have hn := Hn.out
  refine ⟨rfl, (((Fr.refl S w).drewN _).setCell (.inl hSb) _).setCell (.inl hSb) _, g, blk, p, n - 1, hSb, hSg, hbg, hs, ?_, ?_, Hsz.out, by omega, .inl hp1, by omega, ?_⟩
  · rw [show ((n - 1 : Nat) : Int) = (n : Int) - 1 by omega]
    exact blk_set (blk_set (w := w.drewN _) hb 1 _) 2 _
  · rw [blk_set_ne _ _ (Ne.symm hbg), blk_set_ne _ _ (Ne.symm hbg)]; exact hg
  · intro i u hu
    have := Hc.out (i + 1) u (by simpa using hu)
    rw [← Hp.out, Nat.mod_add_mod, show f + 1 + i = f + (i + 1) by omega]
    exact this
theorem ring_clear (w : World) (S : Nat → Prop) (b size : Nat) (q : List Int) (h : RingAt w S b size q) :
    Calls Tryz.prog 205 #[.pointer (some ⟨b, 0, none⟩)] w fun e w' => e = .returned (.int .i64 ((q.length : Nat) : Int)) ∧ Fr S w w' ∧ RingAt w' S b size [] := by
  have hl := ring_len w S b size q h
  obtain ⟨g, blk, f, n, hSb, hSg, hbg, hs, hb, hg, hsz, hq', hf, hn, hc⟩ := h
  rw [hn] at hl ⊢
  have Hc := Lib.hid hc; clear hc
  have Hsz := Lib.hid hsz; clear hsz
  have Hn := Lib.hid hn; clear hn
  have Hb := Lib.hid hb; have Hg := Lib.hid hg
  have c2 := blk_cell hb 2 rfl
  have f2 := blk_froz hb 2
  have Hl := Lib.hid hl; clear hl
  clear hb hg
  by_cases h0 : 0 < n
  · go_enter Tryz.func205, Tryz.ntmps205
    go_wp2_with (go_at_call 33; refine Hl.out.mono ?_; rintro e w' ⟨rfl, rfl⟩)
    go_ret
    refine ⟨rfl, (Fr.refl S w).setCell (.inl hSb) _, g, blk, f, 0, hSb, hSg, hbg, hs, ?_, ?_, Hsz.out, by omega, hf, rfl, fun i u hu => by simp at hu⟩
    · rw [blk_set Hb.out 2 _]; rfl
    · rw [blk_set_ne _ _ (Ne.symm hbg)]; exact Hg.out
  · obtain rfl : n = 0 := by omega
    go_enter Tryz.func205, Tryz.ntmps205
    go_wp2_with (go_at_call 33; refine Hl.out.mono ?_; rintro e w' ⟨rfl, rfl⟩)
    go_ret
    exact ⟨rfl, Fr.refl S w, g, blk, f, 0, hSb, hSg, hbg, hs, Hb.out, Hg.out, Hsz.out, by omega, hf, rfl, fun i u hu => by simp at hu⟩
theorem Tryz.info_int : (Tryz.prog.info? 3).map (fun i => (i.zero, i.size, i.bytes)) = some (some (.int .i64 0), 1, 8) := by kernel_rfl
theorem ring_new_good (size : Nat) (w : World) (h : size ≤ 64) :
    Calls Tryz.prog 168 #[.int .i64 (size : Int)] w fun e w' => ∃ b, e = .returned (.tuple #[.pointer (some ⟨b, 0, none⟩), .int .i64 0]) ∧ Fr Nob w w' ∧ RingAt w' (From w.heap.size) b size [] := by
  have h1 : ¬ (size : Int) < 0 := by omega
  have hm := run_make_row' (P := Tryz.prog) 39 3 (.int .i64 0) 8 Tryz.underlying39 Tryz.info_int rfl .i64 .i64 size (by omega) (by omega)
  go_enter Tryz.func168, Tryz.ntmps168
  go_wp2
  go_ret2
  refine ⟨w.heap.size + 1, rfl, ((Fr.refl Nob w).alloc _).alloc _, w.heap.size, madeCells #[.int .i64 0] size, 0, 0, by simp [From], by simp [From], by omega, h, ?_, ?_, size_madeCells _ _, by omega, .inr rfl, rfl, fun i u hu => by simp at hu⟩
  · exact blk_alloc_eq _ (by simp)
  · rw [blk_alloc_ne _ (by simp)]; exact blk_alloc_eq _ rfl
theorem ring_len_n (w : World) (S : Nat → Prop) (b size : Nat) (q : List Int) (h : RingAt w S b size q) (n : Nat) (hn : q.length = n) :
    Calls Tryz.prog 33 #[.pointer (some ⟨b, 0, none⟩)] w fun e w' => e = .returned (.int .i64 (n : Int)) ∧ w = w' := by
  subst hn; exact ring_len w S b size q h
end Go.Proofs.YtcffplgimbbflaaGreat
