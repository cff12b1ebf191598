/- What Pop, Take, Remove, All and Has do to a queue of those who wait. -/
import Derived.Test.YtdemeghhjnehbaaWaitTakeD
import Derived.Test.YtdemeghhjnehbaaWaitPush
set_option linter.unusedVariables false
set_option linter.unusedSimpArgs false
namespace Go.Proofs.Ytdemeghhjnehbaa
open Go.RowKit
set_option maxRecDepth 100000

set_option maxHeartbeats 1000000 in
theorem wait_pop (w : World) (S : Nat → Prop) (b : Nat) (ws : List Wt) (h : WaitAt w S b ws) :
    Calls Try.prog 71 #[.pointer (some ⟨b, 0, none⟩)] w fun e w' => TakeP (fun _ => true) w S b ws e w' := by
  have h2 := h.mono (S' := fun k => S k ∧ k < w.heap.size) fun k hk q => ⟨q, hk⟩
  have ht := fun w' (hf : Fr Nob w w') => wait_take_pop w' _ b ws (h2.fr0 hf)
  have Ht := Lib.hid ht
  clear h h2 ht
  go_enter Try.func71, Try.ntmps71
  go_wp2_with fail
  obtain ⟨w0, hw0⟩ : ∃ w0, w0 = w.alloc (.cells #[.int .i64 0, .int .i64 0, .int .i64 0] 63) := ⟨_, rfl⟩
  rw [← hw0]
  have hf0 : Fr Nob w w0 := by rw [hw0]; exact (Fr.refl _ _).alloc _
  have hr0 : w0.heap[w.heap.size]? = some (.cells #[.int .i64 0, .int .i64 0, .int .i64 0] 63 (0, 0)) := by rw [hw0]; exact heap_alloc_new _ _
  obtain ⟨rb, hrb⟩ : ∃ rb, rb = w.heap.size := ⟨_, rfl⟩
  rw [← hrb] at hr0 ⊢
  have Hf0 := Lib.hid hf0; have Hr0 := Lib.hid hr0; have Hrb := Lib.hid hrb
  clear hw0 hf0 hr0 hrb
  refine (Ht.out w0 Hf0.out).mono ?_
  intro e w1 htp
  have hrn : ¬ (S rb ∧ rb < w.heap.size) := fun q => by have := Hrb.out; omega
  rcases htp with ⟨i, x, h1, h2, h3, rfl, hf1, hq1⟩ | ⟨h1, rfl, hf1⟩
  · have hr1 := hf1.blk hrn Hr0.out
    have r0 : w1.cell? ⟨rb, 0, none⟩ = some (.int .i64 0) := blk_cell hr1 0 rfl
    have r1 : w1.cell? ⟨rb, 1, none⟩ = some (.int .i64 0) := blk_cell hr1 1 rfl
    have r2 : w1.cell? ⟨rb, 2, none⟩ = some (.int .i64 0) := blk_cell hr1 2 rfl
    have s0 := blk_froz hr1 0
    have s1 := blk_froz hr1 1
    have s2 := blk_froz hr1 2
    have H1 := Lib.hid h1; have H2 := Lib.hid h2; have H3 := Lib.hid h3; have Hf1 := Lib.hid hf1; have Hq1 := Lib.hid hq1; have Hr1 := Lib.hid hr1
    clear h1 h2 h3 hf1 hq1 hr1
    go_wp2_with fail
    obtain ⟨w3, hw3⟩ : ∃ w3, w3 = ((w1.setCell ⟨rb, 0, none⟩ (.int .i64 x.1)).setCell ⟨rb, 1, none⟩ (.int .i64 x.2.1)).setCell ⟨rb, 2, none⟩ (.int .i64 x.2.2) := ⟨_, rfl⟩
    rw [← hw3]
    have hr3 : w3.heap[rb]? = some (.cells #[.int .i64 x.1, .int .i64 x.2.1, .int .i64 x.2.2] 63 (0, 0)) := by rw [hw3]; exact blk_set (blk_set (blk_set Hr1.out 0 _) 1 _) 2 _
    have t0 : w3.cell? ⟨rb, 0, none⟩ = some (.int .i64 x.1) := blk_cell hr3 0 rfl
    have t1 : w3.cell? ⟨rb, 1, none⟩ = some (.int .i64 x.2.1) := blk_cell hr3 1 rfl
    have t2 : w3.cell? ⟨rb, 2, none⟩ = some (.int .i64 x.2.2) := blk_cell hr3 2 rfl
    have hf3 : Fr (fun k => k = rb) w1 w3 := by rw [hw3]; exact (((Fr.refl (fun k => k = rb) w1).setCell (p := ⟨rb, 0, none⟩) (.inl rfl) _).setCell (p := ⟨rb, 1, none⟩) (.inl rfl) _).setCell (p := ⟨rb, 2, none⟩) (.inl rfl) _
    refine bodyPost_ret (v := .tuple #[wtVal x, .bool true]) (by simp [results, Try.results71, go_sem, t0, t1, t2]) rfl ?_
    exact .inl ⟨i, x, H1.out, (by first | exact H2.out | rfl), H3.out, rfl, (Hf0.out.none.trans0 (Hf1.out.mono fun k _ q => q.1)).trans hf3 (fun k hk e => by have := Hrb.out; omega), (Hq1.out.fr hf3 (fun k a e => by have := Hrb.out; have := a.2; omega)).mono (fun k _ q => q.1)⟩
  · have hr1 := hf1.blk id Hr0.out
    have r0 : w1.cell? ⟨rb, 0, none⟩ = some (.int .i64 0) := blk_cell hr1 0 rfl
    have r1 : w1.cell? ⟨rb, 1, none⟩ = some (.int .i64 0) := blk_cell hr1 1 rfl
    have r2 : w1.cell? ⟨rb, 2, none⟩ = some (.int .i64 0) := blk_cell hr1 2 rfl
    have s0 := blk_froz hr1 0
    have s1 := blk_froz hr1 1
    have s2 := blk_froz hr1 2
    have H1 := Lib.hid h1; have Hf1 := Lib.hid hf1; have Hr1 := Lib.hid hr1
    clear h1 hf1 hr1
    go_wp2_with fail
    obtain ⟨w3, hw3⟩ : ∃ w3, w3 = ((w1.setCell ⟨rb, 0, none⟩ (.int .i64 0)).setCell ⟨rb, 1, none⟩ (.int .i64 0)).setCell ⟨rb, 2, none⟩ (.int .i64 0) := ⟨_, rfl⟩
    rw [← hw3]
    have hr3 : w3.heap[rb]? = some (.cells #[.int .i64 0, .int .i64 0, .int .i64 0] 63 (0, 0)) := by rw [hw3]; exact blk_set (blk_set (blk_set Hr1.out 0 _) 1 _) 2 _
    have t0 : w3.cell? ⟨rb, 0, none⟩ = some (.int .i64 0) := blk_cell hr3 0 rfl
    have t1 : w3.cell? ⟨rb, 1, none⟩ = some (.int .i64 0) := blk_cell hr3 1 rfl
    have t2 : w3.cell? ⟨rb, 2, none⟩ = some (.int .i64 0) := blk_cell hr3 2 rfl
    have hf3 : Fr (fun k => k = rb) w1 w3 := by rw [hw3]; exact (((Fr.refl (fun k => k = rb) w1).setCell (p := ⟨rb, 0, none⟩) (.inl rfl) _).setCell (p := ⟨rb, 1, none⟩) (.inl rfl) _).setCell (p := ⟨rb, 2, none⟩) (.inl rfl) _
    refine bodyPost_ret (v := .tuple #[wtVal (0, 0, 0), .bool false]) (by simp [results, Try.results71, go_sem, t0, t1, t2]) rfl ?_
    exact .inr ⟨H1.out, rfl, (Hf0.out.trans0 Hf1.out).trans hf3 (fun k hk e => by have := Hrb.out; omega)⟩

theorem info_wait : (Try.prog.info? 63).map (fun i => (i.zero, i.size, i.bytes)) = some (some (.agg #[.int .i64 0, .int .i64 0, .int .i64 0]), 3, 24) := by kernel_rfl
abbrev waits (ws : List Wt) : List Value := ws.flatMap wtCells
theorem waits_snoc (ws : List Wt) (k : Nat) (x : Wt) (h : ws[k]? = some x) : waits (ws.take k) ++ wtCells x = waits (ws.take (k + 1)) := by
  rw [List.take_add_one, h]; simp [waits, List.flatMap_append]

set_option maxHeartbeats 2000000 in
theorem wait_all (w : World) (S : Nat → Prop) (b : Nat) (ws : List Wt) (n : Nat) (hn : ws.length = n) (h : WaitAt w S b ws) :
    Calls Try.prog 42 #[.pointer (some ⟨b, 0, none⟩)] w fun e w' => ∃ v, e = .returned v ∧ Fr Nob w w' ∧ Sl w' (From w.heap.size) 63 3 v n (waits ws) := by
  obtain ⟨xs, h, rfl⟩ := h
  rw [List.length_map] at hn
  have hfew := h.few
  rw [hn] at hfew
  have b0 : w.cell? ⟨b, 0, none⟩ = some (ptr (firstB xs)) := blk_cell h.blk 0 rfl
  have hws : ∀ i, (xs.map (fun x => x.2))[i]? = (xs[i]?).map (fun (x : Nat × Wt) => x.2) := fun i => by rw [List.getElem?_map]
  have Hws := Lib.hid hws; have Hh := Lib.hid h; have Hn := Lib.hid hn
  have htk : (xs.map (fun x => x.2)).take n = xs.map (fun x => x.2) := by rw [List.take_of_length_le]; rw [List.length_map, hn]; exact Nat.le_refl _
  have Htk := Lib.hid htk
  clear h hn hws htk
  generalize xs.map (fun x => x.2) = ws at *
  go_enter Try.func42, Try.ntmps42
  go_wp2_with fail
  go_loopw [2, 3] (fun vo x wr => ∃ (k : Nat) (A : Option Addr) (c : Nat), k ≤ n ∧ x = ptr ((xs[k]?).map (fun x => x.1)) ∧ vo = .slice A k c ∧ Fr (From w.heap.size) w wr ∧ Sl wr (From w.heap.size) 63 3 (.slice A k c) k (waits (ws.take k))) (fun _ x _ => n - posOf xs x)
  case atStart => exact ⟨0, none, 0, Nat.zero_le _, rfl, rfl, Fr.refl _ _, Sl.nil _ _ _ _⟩
  case round =>
    obtain ⟨k, A, c, hk, rfl, rfl, hfr, hs⟩ := hrel
    have Hfr := Lib.hid hfr; have Hs := Lib.hid hs
    have hf0 : Fr Nob w wr := hfr.mono fun k hk q => by unfold From at q; omega
    have HhW := Lib.hid (Hh.out.fr hf0 fun _ _ q => q)
    clear hfr hs hf0
    by_cases hlt : k < n
    · obtain ⟨⟨xb, xw⟩, hx⟩ : ∃ y, xs[k]? = some y := ⟨xs[k]'(by have := Hn.out; omega), List.getElem?_eq_getElem _⟩
      obtain ⟨hSx, hxb, hxo⟩ := HhW.out.node k _ hx
      dsimp only at hSx hxb hxo
      have hwk : ws[k]? = some xw := by rw [Hws.out, hx]; rfl
      have hsn := waits_snoc ws k xw hwk
      rw [hx]
      simp only [Option.map_some, ptr_some]
      have x0 : wr.cell? ⟨xb, 0, none⟩ = some (.int .i64 xw.1) := blk_cell hxo 0 rfl
      have x1 : wr.cell? ⟨xb, 1, none⟩ = some (.int .i64 xw.2.1) := blk_cell hxo 1 rfl
      have x2 : wr.cell? ⟨xb, 2, none⟩ = some (.int .i64 xw.2.2) := blk_cell hxo 2 rfl
      have hxl := lt_of_block hxo
      have Hx := Lib.hid hx; have Hxo := Lib.hid hxo; have Hsn := Lib.hid hsn
      have hlt0 := Hh.out.lt k _ Hx.out
      dsimp only at hlt0
      clear hx hxo hwk hsn
      go_wp2_with (at_builtin; refine wpList_append1 wr rfl _ _ _ rfl (From w.heap.size) 63 _ 3 24 Try.underlying47 info_wait rfl (by omega) (.slice A k c) k _ (wtCells xw) rfl Hs.out rfl rfl rfl (by omega) (by omega) ?_; intro v3 w3 hs3 hf3 hz3; obtain ⟨A3, c3, rfl⟩ := hs3.slice; have hxo3 := hf3.blk (k := xb) (by unfold From; omega) Hxo.out; have x4 : w3.cell? ⟨xb, 4, none⟩ = some (ptr (nextB xs k)) := blk_cell hxo3 4 rfl; have Hs3 := Lib.hid hs3; have Hf3 := Lib.hid hf3; clear hs3 hf3 hxo3)
      go_roundw
      case rel =>
        refine ⟨k + 1, A3, c3, by omega, rfl, rfl, Hfr.out.trans0 Hf3.out, ?_⟩
        rw [← Hsn.out]
        exact Hs3.out.mono fun k _ q => by rcases q with q | q; exact q; have := Hfr.out.size; unfold From; omega
      case measure => exact pos_lt Hh.out k (xb, xw) n Hn.out Hx.out
    · obtain rfl : k = n := by omega
      have hx : xs[k]? = none := List.getElem?_eq_none (by rw [Hn.out]; exact Nat.le_refl _)
      rw [hx]
      simp only [Option.map_none, ptr_none]
      clear hx
      go_wp2_with fail
      go_ret
      refine ⟨_, rfl, Hfr.out.mono fun k hk q => by unfold From at q; omega, ?_⟩
      have h := Hs.out
      rw [Htk.out] at h
      exact h

theorem flat_get3 (ws : List Wt) (k j : Nat) (y : Wt) (h : ws[k]? = some y) (hj : j < 3) : (waits ws)[k * 3 + j]? = (wtCells y)[j]? := by
  induction ws generalizing k with
  | nil => simp at h
  | cons x ws ih =>
    cases k with
    | zero => simp at h; subst h; simp only [waits, List.flatMap_cons]; rw [List.getElem?_append_left (by simp; omega)]; simp
    | succ k =>
      simp at h
      have := ih k h
      simp only [waits, List.flatMap_cons]
      rw [List.getElem?_append_right (by simp; omega)]
      rw [show (k + 1) * 3 + j - (wtCells x).length = k * 3 + j by simp; omega]
      exact this
/-- Is one of task t among ws? -/
def hasT (ws : List Wt) (t : Int) : Bool := ws.any fun y => y.1 == t
end Go.Proofs.Ytdemeghhjnehbaa
