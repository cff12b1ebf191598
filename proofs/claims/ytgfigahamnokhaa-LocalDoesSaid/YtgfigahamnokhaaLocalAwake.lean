/- What law 18 asks of Do at plain inputs. -/
import Derived.Test.YtgfigahamnokhaaDo
set_option linter.unusedVariables false
set_option linter.unusedSimpArgs false
namespace Go.Proofs.Ytgfigahamnokhaa
open Go.RowKit
set_option maxRecDepth 100000

/-- An instruction without cases. -/
abbrev plainI (op a b c : Int) : Ins := ((op, a, b, c), .slice none 0 0, [], false)
theorem plain_ok (w : World) (op a b c : Int) : InsOk w (plainI op a b c) :=
  ⟨rfl, by simp [maxLen], none, 0, rfl, Nat.le_refl _, by simp [maxLen], fun h => absurd (show 0 < 0 from h) (by decide)⟩
abbrev awk : List Ins := [plainI 5 1 2 0, plainI 6 0 0 0, plainI 3 2 5 0, plainI 9 1 0 0]
abbrev reg7 : Nat → Int := fun j => [7].getD j 0
abbrev reg0 : Nat → Int := fun _ => 0
theorem awk0 : resV (doR awk 0 reg7 9) = .tuple #[.agg #[.int .i64 2, .int .i64 7, .int .i64 0, .int .i64 0, .int .i64 0, .int .i64 0, .int .i64 0, .int .i64 0, .int .i64 0, .bool false, .int .i64 0, .bool false], .int .i64 0] := by rfl
theorem awk1 : resV (doR awk 1 reg7 9) = .tuple #[.agg #[.int .i64 2, .int .i64 7, .int .i64 0, .int .i64 0, .int .i64 0, .int .i64 0, .int .i64 0, .int .i64 0, .int .i64 0, .bool true, .int .i64 7, .bool false], .int .i64 0] := by rfl
theorem awk4 : resV (doR awk 4 reg0 9) = .tuple #[.agg #[.int .i64 4, .int .i64 0, .int .i64 0, .int .i64 0, .int .i64 0, .int .i64 0, .int .i64 0, .int .i64 0, .int .i64 0, .bool false, .int .i64 0, .bool true], .int .i64 0] := by rfl
theorem awk3 : resV (doR awk 3 reg0 9) = .tuple #[.agg outZ, .int .i64 7] := by rfl
theorem awk5 : resV (doR awk 5 reg0 9) = .tuple #[.agg outZ, .int .i64 1] := by rfl
theorem rd_blk {w : World} {b sz n c : Nat} {arr : Array Value} {T : TypeId} {fr : Nat × Nat} (h : w.heap[b]? = some (.cells arr T fr)) (hl : arr.size = n * sz) (hn : n ≤ c) (hc : c ≤ maxLen) : Rd w sz (.slice (some ⟨b, 0, none⟩) n c) n arr.toList :=
  ⟨by simp [hl], Nat.le_trans hn hc, _, _, rfl, hn, hc, fun _ => ⟨b, 0, rfl, lt_of_block h, fun j u hj => by rw [Nat.zero_add]; exact blk_cell h j (by simpa using hj)⟩⟩
abbrev awkA : Array Value := #[.int .i64 5, .int .i64 1, .int .i64 2, .int .i64 0, .slice none 0 0, .bool false, .int .i64 6, .int .i64 0, .int .i64 0, .int .i64 0, .slice none 0 0, .bool false, .int .i64 3, .int .i64 2, .int .i64 5, .int .i64 0, .slice none 0 0, .bool false, .int .i64 9, .int .i64 1, .int .i64 0, .int .i64 0, .slice none 0 0, .bool false]
theorem awk_ok (w : World) : ∀ i ∈ awk, InsOk w i := fun i hi => by
  simp [awk] at hi
  rcases hi with rfl | rfl | rfl | rfl <;> exact plain_ok _ _ _ _ _
set_option maxHeartbeats 1000000 in
theorem awake18 (w : World) : Calls Try.prog 8 #[] w fun e w' => e = .returned (.bool true) ∧ Fr Nob w w' := by
  have hd : ∀ W, W.heap[w.heap.size]? = some (.cells awkA 39 (0, 0)) → ∀ (pc : Int) (r : Nat → Int), Calls Try.prog 9 #[.slice (some ⟨w.heap.size, 0, none⟩) 4 4, .int .i64 pc, .agg (regA r), .int .i64 9] W fun e w' => e = .returned (resV (doR awk pc r 9)) ∧ Fr Nob W w' := fun W h pc r =>
    do_any W _ awk 4 r 9 rfl (rd_blk h rfl (Nat.le_refl _) (by simp [maxLen])) (awk_ok W) pc
  have h0 := fun W h => hd W h 0 reg7
  have h1 := fun W h => hd W h 1 reg7
  have h4 := fun W h => hd W h 4 reg0
  have h3 := fun W h => hd W h 3 reg0
  have h5 := fun W h => hd W h 5 reg0
  rw [awk0] at h0; rw [awk1] at h1; rw [awk4] at h4; rw [awk3] at h3; rw [awk5] at h5
  have hm1 := fun W => mine_any W 16
  have hm2 := fun W => mine_any W 8
  rw [show mineB 16 = true from rfl] at hm1
  rw [show mineB 8 = false from rfl] at hm2
  have hb := blk_alloc_eq (w := w) (.cells awkA 39) rfl
  have hf := (Fr.refl Nob w).alloc (.cells awkA 39)
  have H0 := Lib.hid h0; have H1 := Lib.hid h1; have H4 := Lib.hid h4; have H3 := Lib.hid h3; have H5 := Lib.hid h5; have HB := Lib.hid hb; have HF := Lib.hid hf; have Hm1 := Lib.hid hm1; have Hm2 := Lib.hid hm2
  clear hd h0 h1 h3 h4 h5 hb hf hm1 hm2
  go_enter Try.func8, Try.ntmps8
  go_wp2_with fail
  refine (H0.out _ HB.out).mono ?_
  rintro e w1 ⟨rfl, hf1⟩
  have HB1 := Lib.hid (hf1.blk id HB.out); have HF1 := Lib.hid (HF.out.trans0 hf1)
  clear hf1
  go_wp2_with fail
  refine (H1.out _ (((Fr.refl Nob w1).alloc _).blk id HB1.out)).mono ?_
  rintro e w2 ⟨rfl, hf2⟩
  have HB2 := Lib.hid (hf2.blk id (((Fr.refl Nob w1).alloc _).blk id HB1.out)); have HF2 := Lib.hid ((HF1.out.alloc _).trans0 hf2)
  have A0 := Lib.hid (hf2.cell (p := ⟨w1.heap.size, 0, none⟩) id (blk_cell (blk_alloc_eq _ rfl) 0 rfl))
  clear hf2
  go_wp2_with fail
  refine (H4.out _ (((Fr.refl Nob w2).alloc _).blk id HB2.out)).mono ?_
  rintro e w3 ⟨rfl, hf3⟩
  have HB3 := Lib.hid (hf3.blk id (((Fr.refl Nob w2).alloc _).blk id HB2.out)); have HF3 := Lib.hid ((HF2.out.alloc _).trans0 hf3)
  have A1 := Lib.hid (hf3.cell id (((Fr.refl Nob w2).alloc _).cell id A0.out))
  have B0 := Lib.hid (hf3.cell (p := ⟨w2.heap.size, 0, none⟩) id (blk_cell (blk_alloc_eq _ rfl) 0 rfl))
  have B9 := Lib.hid (hf3.cell (p := ⟨w2.heap.size, 9, none⟩) id (blk_cell (blk_alloc_eq _ rfl) 9 rfl))
  have B10 := Lib.hid (hf3.cell (p := ⟨w2.heap.size, 10, none⟩) id (blk_cell (blk_alloc_eq _ rfl) 10 rfl))
  clear hf3
  go_wp2_with fail
  refine (H3.out _ (((Fr.refl Nob w3).alloc _).blk id HB3.out)).mono ?_
  rintro e w4 ⟨rfl, hf4⟩
  have HB4 := Lib.hid (hf4.blk id (((Fr.refl Nob w3).alloc _).blk id HB3.out)); have HF4 := Lib.hid ((HF3.out.alloc _).trans0 hf4)
  have hx : Fr Nob w3 w4 := ((Fr.refl Nob w3).alloc _).trans0 hf4
  have A2 := Lib.hid (hx.cell id A1.out); have B02 := Lib.hid (hx.cell id B0.out); have B92 := Lib.hid (hx.cell id B9.out); have B102 := Lib.hid (hx.cell id B10.out)
  have C0 := Lib.hid (hf4.cell (p := ⟨w3.heap.size, 0, none⟩) id (blk_cell (blk_alloc_eq _ rfl) 0 rfl))
  have C11 := Lib.hid (hf4.cell (p := ⟨w3.heap.size, 11, none⟩) id (blk_cell (blk_alloc_eq _ rfl) 11 rfl))
  clear hf4 hx
  go_wp2_with fail
  refine (H5.out _ (((Fr.refl Nob w4).alloc _).blk id HB4.out)).mono ?_
  rintro e w5 ⟨rfl, hf5⟩
  have HF5 := Lib.hid ((HF4.out.alloc _).trans0 hf5)
  have hx : Fr Nob w4 (w5.alloc (.cells outZ 28)) := (((Fr.refl Nob w4).alloc _).trans0 hf5).alloc _
  have a := hx.cell id A2.out; have b := hx.cell id B02.out; have b9 := hx.cell id B92.out; have b10 := hx.cell id B102.out
  have c := hx.cell id C0.out; have c11 := hx.cell id C11.out
  clear hf5 hx
  go_wp2_with fail
  refine (Hm1.out _).mono ?_
  rintro e _ ⟨rfl, rfl⟩
  go_wp2_with fail
  refine (Hm2.out _).mono ?_
  rintro e _ ⟨rfl, rfl⟩
  go_wp2_with fail
  go_ret
  exact ⟨rfl, HF5.out.alloc _⟩
end Go.Proofs.Ytgfigahamnokhaa
