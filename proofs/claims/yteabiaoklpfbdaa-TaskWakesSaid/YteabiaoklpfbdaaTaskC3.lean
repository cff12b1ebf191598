/- What told does: of a send, a receive and a select with cases, whatever its registers are. -/
import Derived.Test.YteabiaoklpfbdaaTaskC4
set_option linter.unusedVariables false
set_option linter.unusedSimpArgs false
namespace Go.Proofs.Yteabiaoklpfbdaa
open Go.RowKit
set_option maxRecDepth 100000
/-- Registers, told of what was received. -/
def recvT (t : Nat → Int) (y z : Nat) (v : Int) (ok : Bool) : Nat → Int := if ok then updT (updT (updT t (4 + y) v) (4 + z) 0) (4 + z) 1 else updT (updT t (4 + y) v) (4 + z) 0
theorem receivesC (w : World) (op a b c : Int) (A : Option Addr) (cp n : Nat) (cs : List Cs) (d : Bool) (hr : Rd w 3 (.slice A n cp) n (cs.flatMap csEn)) (k : Nat) (hk : k < n) (x : Cs) (hx : cs[k]? = some x) :
    Calls Try.prog 46 #[.agg #[.int .i64 op, .int .i64 a, .int .i64 b, .int .i64 c, .slice A n cp, .bool d], .int .i64 k] w fun e w' => e = .returned (.bool (!x.1)) ∧ Fr Nob w w' := by
  obtain ⟨hl, hm, A', cp', e, hc1, hc2, hA⟩ := hr
  injection e with e1 e2 e3
  subst e1; subst e3
  obtain ⟨g, o, rfl, hg, hc⟩ := hA (by omega)
  have c0 := ((Fr.refl Nob w).alloc (.cells #[.int .i64 op, .int .i64 a, .int .i64 b, .int .i64 c, .slice (some ⟨g, o, none⟩) n cp, .bool d] 34)).cell (p := ⟨g, o + (k * 3 + 0), none⟩) id (hc (k * 3 + 0) _ ((csGet cs k 0 x hx (by omega)).trans rfl))
  rw [Nat.add_zero] at c0
  have h1 : (0 : Int) ≤ k := by omega
  have h2 : (k : Int) < n := by omega
  have h3 : decide ((0 : Int) ≤ k) = true := decide_eq_true h1
  have h4 : decide ((k : Int) < n) = true := decide_eq_true h2
  clear hc hl hx
  go_enter Try.func46, Try.ntmps46
  go_wp2_with fail
  go_ret
  exact ⟨rfl, (Fr.refl _ _).alloc _⟩
set_option maxHeartbeats 2000000 in
theorem told_send (w : World) (tb : Nat) (t : Nat → Int) (d : Bool) (A : Option Addr) (n cp : Nat) (hb : w.heap[tb]? = some (.cells (tkC (.slice A n cp) t d).toArray 44 (0, 0))) (h12 : t 12 = 10) (x k v : Int) (ok pn : Bool) :
    Calls Try.prog 33 #[.pointer (some ⟨tb, 0, none⟩), .agg #[.int .i64 x, .int .i64 k, .int .i64 v, .bool ok, .bool pn]] w fun e w' => e = .returned (.tuple #[]) ∧ Fr Nob w w' := by
  have hbl := lt_of_block hb
  have c12 := kc12 hb; have c13 := kc13 hb; have c14 := kc14 hb; have c15 := kc15 hb; have c16 := kc16 hb; have c17 := kc17 hb
  rw [h12] at c12
  generalize t 13 = t13 at *
  generalize t 14 = t14 at *
  generalize t 15 = t15 at *
  have key : ∀ W, Fr Nob w W → W.cell? ⟨tb, 12, none⟩ = some (.int .i64 10) ∧ W.cell? ⟨tb, 13, none⟩ = some (.int .i64 t13) ∧ W.cell? ⟨tb, 14, none⟩ = some (.int .i64 t14) ∧ W.cell? ⟨tb, 15, none⟩ = some (.int .i64 t15) ∧ W.cell? ⟨tb, 16, none⟩ = some (.slice A n cp) ∧ W.cell? ⟨tb, 17, none⟩ = some (.bool d) := fun W hW => ⟨hW.cell id c12, hW.cell id c13, hW.cell id c14, hW.cell id c15, hW.cell id c16, hW.cell id c17⟩
  obtain ⟨e12, e13, e14, e15, e16, e17⟩ := key _ ((Fr.refl Nob w).alloc (.cells #[.int .i64 x, .int .i64 k, .int .i64 v, .bool ok, .bool pn] 38))
  clear hb key c12 c13 c14 c15 c16 c17 h12
  go_enter Try.func33, Try.ntmps33
  go_wp2_with fail
  go_end0
  exact ⟨rfl, (((Fr.refl Nob w).alloc _).alloc _)⟩
set_option maxHeartbeats 2000000 in
theorem told_recvC (w : World) (tb : Nat) (t : Nat → Int) (d : Bool) (A : Option Addr) (n cp : Nat) (hb : w.heap[tb]? = some (.cells (tkC (.slice A n cp) t d).toArray 44 (0, 0))) (y z : Nat) (hy : y < 8) (hz : z < 8) (h12 : t 12 = 11) (h14 : t 14 = (y : Int)) (h15 : t 15 = (z : Int)) (i k v : Int) (ok pn : Bool) :
    Calls Try.prog 33 #[.pointer (some ⟨tb, 0, none⟩), .agg #[.int .i64 i, .int .i64 k, .int .i64 v, .bool ok, .bool pn]] w fun e w' => e = .returned (.tuple #[]) ∧ Fr (fun q => q = tb) w w' ∧ w'.heap[tb]? = some (.cells (tkC (.slice A n cp) (recvT t y z v ok) d).toArray 44 (0, 0)) := by
  have hbl := lt_of_block hb
  have c12 := kc12 hb; have c13 := kc13 hb; have c14 := kc14 hb; have c15 := kc15 hb; have c16 := kc16 hb; have c17 := kc17 hb
  rw [h12] at c12; rw [h14] at c14; rw [h15] at c15
  have Hb := Lib.hid hb
  generalize t 13 = t13 at *
  have key : ∀ W, Fr Nob w W → W.cell? ⟨tb, 12, none⟩ = some (.int .i64 11) ∧ W.cell? ⟨tb, 13, none⟩ = some (.int .i64 t13) ∧ W.cell? ⟨tb, 14, none⟩ = some (.int .i64 y) ∧ W.cell? ⟨tb, 15, none⟩ = some (.int .i64 z) ∧ W.cell? ⟨tb, 16, none⟩ = some (.slice A n cp) ∧ W.cell? ⟨tb, 17, none⟩ = some (.bool d) := fun W hW => ⟨hW.cell id c12, hW.cell id c13, hW.cell id c14, hW.cell id c15, hW.cell id c16, hW.cell id c17⟩
  obtain ⟨e12, e13, e14, e15, e16, e17⟩ := key _ ((Fr.refl Nob w).alloc (.cells #[.int .i64 i, .int .i64 k, .int .i64 v, .bool ok, .bool pn] 38))
  have hyi : (y : Int) < 8 := by omega
  have hzi : (z : Int) < 8 := by omega
  clear hb key c12 c13 c14 c15 c16 c17 h12 h14 h15
  go_enter Try.func33, Try.ntmps33
  go_wp2_with fail
  obtain ⟨w2, hw2⟩ : ∃ w2, w2 = (w.alloc (.cells #[.int .i64 i, .int .i64 k, .int .i64 v, .bool ok, .bool pn] 38)).alloc (.cells #[.int .i64 11, .int .i64 t13, .int .i64 y, .int .i64 z, .slice A n cp, .bool d] 34) := ⟨_, rfl⟩
  rw [← hw2]
  have hf2 : Fr Nob w w2 := by rw [hw2]; exact ((Fr.refl Nob w).alloc _).alloc _
  have hk2 : w2.heap[w.heap.size]? = some (.cells #[.int .i64 i, .int .i64 k, .int .i64 v, .bool ok, .bool pn] 38 (0, 0)) := by rw [hw2]; exact ((Fr.refl Nob _).alloc _).blk id (heap_alloc_new w _)
  have hi2 : w2.heap[w.heap.size + 1]? = some (.cells #[.int .i64 11, .int .i64 t13, .int .i64 y, .int .i64 z, .slice A n cp, .bool d] 34 (0, 0)) := by rw [hw2]; exact blk_alloc_eq _ (by simp)
  have Hf2 := Lib.hid hf2
  have hb2 := hf2.blk id Hb.out
  have Hb2 := Lib.hid hb2
  have Hk2 := Lib.hid hk2; have Hi2 := Lib.hid hi2
  clear hw2 hf2 hk2 hi2 e12 e13 e14 e15 e16 e17 hb2
  have k2 := blk_cell Hk2.out 2 rfl
  have i2 := blk_cell Hi2.out 2 rfl
  have i3 := blk_cell Hi2.out 3 rfl
  have c5 := kcR Hb2.out y hy
  have f5 := kf Hb2.out (4 + y)
  have c6 := kcR Hb2.out z hz
  have f6 := kf Hb2.out (4 + z)
  have c7 := kcR (kpR Hb2.out y hy v) z hz
  have f7 := kf (kpR Hb2.out y hy v) (4 + z)
  go_region
  obtain ⟨w5, hw5⟩ : ∃ w5, w5 = ((w2.setCell ⟨tb, 4 + y, none⟩ (.int .i64 v)).setCell ⟨tb, 4 + z, none⟩ (.int .i64 0)).drew := ⟨_, rfl⟩
  rw [← hw5]
  have hf5 : Fr (fun q => q = tb) w2 w5 := by rw [hw5]; exact (((Fr.refl (fun q => q = tb) w2).setT (4 + y) _).setT (4 + z) _).drew
  have hb5 : w5.heap[tb]? = some (.cells (tkC (.slice A n cp) (updT (updT t (4 + y) v) (4 + z) 0) d).toArray 44 (0, 0)) := by rw [hw5, blk_drew]; exact kpR (kpR Hb2.out y hy _) z hz _
  have hk5 := hf5.blk (k := w.heap.size) (by omega) Hk2.out
  have hi5 := hf5.blk (k := w.heap.size + 1) (by omega) Hi2.out
  have Hb5 := Lib.hid hb5
  have d6 := kcR hb5 z hz
  have g6 := kf hb5 (4 + z)
  have j3 := blk_cell hi5 3 rfl
  have m3 := blk_cell hk5 3 rfl
  have Hf5 := Lib.hid hf5
  clear hw5 hf5 hk5 hi5 k2 i2 i3 c5 f5 c6 f6 c7 f7 hb5
  cases ok with
  | true =>
    go_wp2_with fail
    go_region
    obtain ⟨w6, hw6⟩ : ∃ w6, w6 = (w5.setCell ⟨tb, 4 + z, none⟩ (.int .i64 1)).drew := ⟨_, rfl⟩
    rw [← hw6]
    have Hf6 : Hid (Fr (fun q => q = tb) w5 w6) := Lib.hid (by rw [hw6]; exact ((Fr.refl (fun q => q = tb) w5).setT (4 + z) _).drew)
    have Hb6 : Hid (w6.heap[tb]? = some (.cells (tkC (.slice A n cp) (updT (updT (updT t (4 + y) v) (4 + z) 0) (4 + z) 1) d).toArray 44 (0, 0))) := Lib.hid (by rw [hw6, blk_drew]; exact kpR Hb5.out z hz _)
    clear hw6 d6 g6 j3 m3
    go_wp2_with fail
    go_end0
    exact ⟨rfl, (Hf2.out.none.trans0 Hf5.out).trans0 Hf6.out, Hb6.out⟩
  | false =>
    go_wp2_with fail
    go_end0
    exact ⟨rfl, Hf2.out.none.trans0 Hf5.out, Hb5.out⟩
set_option maxHeartbeats 2000000 in
theorem told_selS (w : World) (tb : Nat) (t : Nat → Int) (d : Bool) (A : Option Addr) (n cp : Nat) (cs : List Cs) (hb : w.heap[tb]? = some (.cells (tkC (.slice A n cp) t d).toArray 44 (0, 0))) (hr : ∀ W', Fr (fun q => q = tb) w W' → Rd W' 3 (.slice A n cp) n (cs.flatMap csEn)) (x y z : Nat) (hx : x < 8) (hy : y < 8) (hz : z < 8) (h12 : t 12 = 15) (h13 : t 13 = (x : Int)) (h14 : t 14 = (y : Int)) (h15 : t 15 = (z : Int)) (k : Nat) (hkn : k < n) (cx : Cs) (hcx : cs[k]? = some cx) (hc1 : cx.1 = true) (i v : Int) (ok pn : Bool) :
    Calls Try.prog 33 #[.pointer (some ⟨tb, 0, none⟩), .agg #[.int .i64 i, .int .i64 k, .int .i64 v, .bool ok, .bool pn]] w fun e w' => e = .returned (.tuple #[]) ∧ Fr (fun q => q = tb) w w' ∧ w'.heap[tb]? = some (.cells (tkC (.slice A n cp) (updT t (4 + x) (k : Int)) d).toArray 44 (0, 0)) := by
  have Hrc := Lib.hid (fun W op a b c d (hW : Fr (fun q => q = tb) w W) => receivesC W op a b c A cp n cs d (hr W hW) k hkn cx hcx)
  rw [hc1] at Hrc
  clear hr hcx hc1
  have hbl := lt_of_block hb
  have c12 := kc12 hb; have c13 := kc13 hb; have c14 := kc14 hb; have c15 := kc15 hb; have c16 := kc16 hb; have c17 := kc17 hb
  rw [h12] at c12; rw [h14] at c14; rw [h15] at c15; rw [h13] at c13
  have Hb := Lib.hid hb
  
  have key : ∀ W, Fr Nob w W → W.cell? ⟨tb, 12, none⟩ = some (.int .i64 15) ∧ W.cell? ⟨tb, 13, none⟩ = some (.int .i64 x) ∧ W.cell? ⟨tb, 14, none⟩ = some (.int .i64 y) ∧ W.cell? ⟨tb, 15, none⟩ = some (.int .i64 z) ∧ W.cell? ⟨tb, 16, none⟩ = some (.slice A n cp) ∧ W.cell? ⟨tb, 17, none⟩ = some (.bool d) := fun W hW => ⟨hW.cell id c12, hW.cell id c13, hW.cell id c14, hW.cell id c15, hW.cell id c16, hW.cell id c17⟩
  obtain ⟨e12, e13, e14, e15, e16, e17⟩ := key _ ((Fr.refl Nob w).alloc (.cells #[.int .i64 i, .int .i64 k, .int .i64 v, .bool ok, .bool pn] 38))
  have hyi : (y : Int) < 8 := by omega
  have hzi : (z : Int) < 8 := by omega
  clear hb key c12 c13 c14 c15 c16 c17 h12 h14 h15 h13
  go_enter Try.func33, Try.ntmps33
  go_wp2_with fail
  obtain ⟨w2, hw2⟩ : ∃ w2, w2 = (w.alloc (.cells #[.int .i64 i, .int .i64 k, .int .i64 v, .bool ok, .bool pn] 38)).alloc (.cells #[.int .i64 15, .int .i64 x, .int .i64 y, .int .i64 z, .slice A n cp, .bool d] 34) := ⟨_, rfl⟩
  rw [← hw2]
  have hf2 : Fr Nob w w2 := by rw [hw2]; exact ((Fr.refl Nob w).alloc _).alloc _
  have hk2 : w2.heap[w.heap.size]? = some (.cells #[.int .i64 i, .int .i64 k, .int .i64 v, .bool ok, .bool pn] 38 (0, 0)) := by rw [hw2]; exact ((Fr.refl Nob _).alloc _).blk id (heap_alloc_new w _)
  have hi2 : w2.heap[w.heap.size + 1]? = some (.cells #[.int .i64 15, .int .i64 x, .int .i64 y, .int .i64 z, .slice A n cp, .bool d] 34 (0, 0)) := by rw [hw2]; exact blk_alloc_eq _ (by simp)
  have Hf2 := Lib.hid hf2
  have hb2 := hf2.blk id Hb.out
  have Hb2 := Lib.hid hb2
  have Hk2 := Lib.hid hk2; have Hi2 := Lib.hid hi2
  have hxi : (x : Int) < 8 := by omega
  clear hw2 hf2 hk2 hi2 e12 e13 e14 e15 e16 e17 hb2
  have k1 := blk_cell Hk2.out 1 rfl
  have i1 := blk_cell Hi2.out 1 rfl
  have c4 := kcR Hb2.out x hx
  have f4 := kf Hb2.out (4 + x)
  go_region
  obtain ⟨w3, hw3⟩ : ∃ w3, w3 = (w2.setCell ⟨tb, 4 + x, none⟩ (.int .i64 k)).drew := ⟨_, rfl⟩
  rw [← hw3]
  have hf3 : Fr (fun q => q = tb) w2 w3 := by rw [hw3]; exact ((Fr.refl (fun q => q = tb) w2).setT (4 + x) _).drew
  have Hb3 : Hid (w3.heap[tb]? = some (.cells (tkC (.slice A n cp) (updT t (4 + x) (k : Int)) d).toArray 44 (0, 0))) := Lib.hid (by rw [hw3, blk_drew]; exact kpR Hb2.out x hx _)
  have hk3 := hf3.blk (k := w.heap.size) (by omega) Hk2.out
  have hi3 := hf3.blk (k := w.heap.size + 1) (by omega) Hi2.out
  have Hk3 := Lib.hid hk3; have Hi3 := Lib.hid hi3
  have j0 := blk_cell hi3 0 rfl
  have j1 := blk_cell hi3 1 rfl
  have j2 := blk_cell hi3 2 rfl
  have j3 := blk_cell hi3 3 rfl
  have j4 := blk_cell hi3 4 rfl
  have j5 := blk_cell hi3 5 rfl
  have m1 := blk_cell hk3 1 rfl
  have Hf3 := Lib.hid hf3
  clear hw3 hf3 hk3 hi3 k1 i1 c4 f4
  go_wp2_with fail
  refine (Hrc.out w3 _ _ _ _ _ (Hf2.out.none.trans0 Hf3.out)).mono ?_
  rintro e w4 ⟨rfl, hf4⟩
  have Hf4 := Lib.hid hf4
  clear hf4 j0 j1 j2 j3 j4 j5 m1
  go_wp2_with fail
  exact bodyPost_ret (v := .tuple #[]) (by simp [results, Try.results33, go_sem]) rfl ⟨rfl, (Hf2.out.none.trans0 Hf3.out).trans0 Hf4.out.none, Hf4.out.blk id Hb3.out⟩
set_option maxHeartbeats 2000000 in
theorem told_selR (w : World) (tb : Nat) (t : Nat → Int) (d : Bool) (A : Option Addr) (n cp : Nat) (cs : List Cs) (hb : w.heap[tb]? = some (.cells (tkC (.slice A n cp) t d).toArray 44 (0, 0))) (hr : ∀ W', Fr (fun q => q = tb) w W' → Rd W' 3 (.slice A n cp) n (cs.flatMap csEn)) (x y z : Nat) (hx : x < 8) (hy : y < 8) (hz : z < 8) (h12 : t 12 = 15) (h13 : t 13 = (x : Int)) (h14 : t 14 = (y : Int)) (h15 : t 15 = (z : Int)) (k : Nat) (hkn : k < n) (cx : Cs) (hcx : cs[k]? = some cx) (hc1 : cx.1 = false) (i v : Int) (ok pn : Bool) :
    Calls Try.prog 33 #[.pointer (some ⟨tb, 0, none⟩), .agg #[.int .i64 i, .int .i64 k, .int .i64 v, .bool ok, .bool pn]] w fun e w' => e = .returned (.tuple #[]) ∧ Fr (fun q => q = tb) w w' ∧ w'.heap[tb]? = some (.cells (tkC (.slice A n cp) (recvT (updT t (4 + x) (k : Int)) y z v ok) d).toArray 44 (0, 0)) := by
  have Hrc := Lib.hid (fun W op a b c d (hW : Fr (fun q => q = tb) w W) => receivesC W op a b c A cp n cs d (hr W hW) k hkn cx hcx)
  rw [hc1] at Hrc
  clear hr hcx hc1
  have hbl := lt_of_block hb
  have c12 := kc12 hb; have c13 := kc13 hb; have c14 := kc14 hb; have c15 := kc15 hb; have c16 := kc16 hb; have c17 := kc17 hb
  rw [h12] at c12; rw [h14] at c14; rw [h15] at c15; rw [h13] at c13
  have Hb := Lib.hid hb
  
  have key : ∀ W, Fr Nob w W → W.cell? ⟨tb, 12, none⟩ = some (.int .i64 15) ∧ W.cell? ⟨tb, 13, none⟩ = some (.int .i64 x) ∧ W.cell? ⟨tb, 14, none⟩ = some (.int .i64 y) ∧ W.cell? ⟨tb, 15, none⟩ = some (.int .i64 z) ∧ W.cell? ⟨tb, 16, none⟩ = some (.slice A n cp) ∧ W.cell? ⟨tb, 17, none⟩ = some (.bool d) := fun W hW => ⟨hW.cell id c12, hW.cell id c13, hW.cell id c14, hW.cell id c15, hW.cell id c16, hW.cell id c17⟩
  obtain ⟨e12, e13, e14, e15, e16, e17⟩ := key _ ((Fr.refl Nob w).alloc (.cells #[.int .i64 i, .int .i64 k, .int .i64 v, .bool ok, .bool pn] 38))
  have hyi : (y : Int) < 8 := by omega
  have hzi : (z : Int) < 8 := by omega
  clear hb key c12 c13 c14 c15 c16 c17 h12 h14 h15 h13
  go_enter Try.func33, Try.ntmps33
  go_wp2_with fail
  obtain ⟨w2, hw2⟩ : ∃ w2, w2 = (w.alloc (.cells #[.int .i64 i, .int .i64 k, .int .i64 v, .bool ok, .bool pn] 38)).alloc (.cells #[.int .i64 15, .int .i64 x, .int .i64 y, .int .i64 z, .slice A n cp, .bool d] 34) := ⟨_, rfl⟩
  rw [← hw2]
  have hf2 : Fr Nob w w2 := by rw [hw2]; exact ((Fr.refl Nob w).alloc _).alloc _
  have hk2 : w2.heap[w.heap.size]? = some (.cells #[.int .i64 i, .int .i64 k, .int .i64 v, .bool ok, .bool pn] 38 (0, 0)) := by rw [hw2]; exact ((Fr.refl Nob _).alloc _).blk id (heap_alloc_new w _)
  have hi2 : w2.heap[w.heap.size + 1]? = some (.cells #[.int .i64 15, .int .i64 x, .int .i64 y, .int .i64 z, .slice A n cp, .bool d] 34 (0, 0)) := by rw [hw2]; exact blk_alloc_eq _ (by simp)
  have Hf2 := Lib.hid hf2
  have hb2 := hf2.blk id Hb.out
  have Hb2 := Lib.hid hb2
  have Hk2 := Lib.hid hk2; have Hi2 := Lib.hid hi2
  have hxi : (x : Int) < 8 := by omega
  clear hw2 hf2 hk2 hi2 e12 e13 e14 e15 e16 e17 hb2
  have k1 := blk_cell Hk2.out 1 rfl
  have i1 := blk_cell Hi2.out 1 rfl
  have c4 := kcR Hb2.out x hx
  have f4 := kf Hb2.out (4 + x)
  go_region
  obtain ⟨w3, hw3⟩ : ∃ w3, w3 = (w2.setCell ⟨tb, 4 + x, none⟩ (.int .i64 k)).drew := ⟨_, rfl⟩
  rw [← hw3]
  have hf3 : Fr (fun q => q = tb) w2 w3 := by rw [hw3]; exact ((Fr.refl (fun q => q = tb) w2).setT (4 + x) _).drew
  have Hb3 : Hid (w3.heap[tb]? = some (.cells (tkC (.slice A n cp) (updT t (4 + x) (k : Int)) d).toArray 44 (0, 0))) := Lib.hid (by rw [hw3, blk_drew]; exact kpR Hb2.out x hx _)
  have hk3 := hf3.blk (k := w.heap.size) (by omega) Hk2.out
  have hi3 := hf3.blk (k := w.heap.size + 1) (by omega) Hi2.out
  have Hk3 := Lib.hid hk3; have Hi3 := Lib.hid hi3
  have j0 := blk_cell hi3 0 rfl
  have j1 := blk_cell hi3 1 rfl
  have j2 := blk_cell hi3 2 rfl
  have j3 := blk_cell hi3 3 rfl
  have j4 := blk_cell hi3 4 rfl
  have j5 := blk_cell hi3 5 rfl
  have m1 := blk_cell hk3 1 rfl
  have Hf3 := Lib.hid hf3
  clear hw3 hf3 hk3 hi3 k1 i1 c4 f4
  go_wp2_with fail
  refine (Hrc.out w3 _ _ _ _ _ (Hf2.out.none.trans0 Hf3.out)).mono ?_
  rintro e w4 ⟨rfl, hf4⟩
  have Hf4 := Lib.hid hf4
  have Hb4 := Lib.hid (hf4.blk id Hb3.out); have Hk4 := Lib.hid (hf4.blk id Hk3.out); have Hi4 := Lib.hid (hf4.blk id Hi3.out)
  clear hf4 j0 j1 j2 j3 j4 j5 m1
  go_wp2_with fail
  have k2 := blk_cell Hk4.out 2 rfl
  have i2 := blk_cell Hi4.out 2 rfl
  have i3 := blk_cell Hi4.out 3 rfl
  have c5 := kcR Hb4.out y hy
  have f5 := kf Hb4.out (4 + y)
  have c6 := kcR Hb4.out z hz
  have f6 := kf Hb4.out (4 + z)
  have c7 := kcR (kpR Hb4.out y hy v) z hz
  have f7 := kf (kpR Hb4.out y hy v) (4 + z)
  go_region
  obtain ⟨w5, hw5⟩ : ∃ w5, w5 = ((w4.setCell ⟨tb, 4 + y, none⟩ (.int .i64 v)).setCell ⟨tb, 4 + z, none⟩ (.int .i64 0)).drew := ⟨_, rfl⟩
  rw [← hw5]
  have hf5 : Fr (fun q => q = tb) w4 w5 := by rw [hw5]; exact (((Fr.refl (fun q => q = tb) w4).setT (4 + y) _).setT (4 + z) _).drew
  have hb5 : w5.heap[tb]? = some (.cells (tkC (.slice A n cp) (updT (updT (updT t (4 + x) (k : Int)) (4 + y) v) (4 + z) 0) d).toArray 44 (0, 0)) := by rw [hw5, blk_drew]; exact kpR (kpR Hb4.out y hy _) z hz _
  have hk5 := hf5.blk (k := w.heap.size) (by omega) Hk4.out
  have hi5 := hf5.blk (k := w.heap.size + 1) (by omega) Hi4.out
  have Hb5 := Lib.hid hb5
  have d6 := kcR hb5 z hz
  have g6 := kf hb5 (4 + z)
  have j3 := blk_cell hi5 3 rfl
  have m3 := blk_cell hk5 3 rfl
  have Hf5 := Lib.hid hf5
  clear hw5 hf5 hk5 hi5 k2 i2 i3 c5 f5 c6 f6 c7 f7 hb5
  cases ok with
  | true =>
    go_wp2_with fail
    go_region
    obtain ⟨w6, hw6⟩ : ∃ w6, w6 = (w5.setCell ⟨tb, 4 + z, none⟩ (.int .i64 1)).drew := ⟨_, rfl⟩
    rw [← hw6]
    have Hf6 : Hid (Fr (fun q => q = tb) w5 w6) := Lib.hid (by rw [hw6]; exact ((Fr.refl (fun q => q = tb) w5).setT (4 + z) _).drew)
    have Hb6 : Hid (w6.heap[tb]? = some (.cells (tkC (.slice A n cp) (updT (updT (updT (updT t (4 + x) (k : Int)) (4 + y) v) (4 + z) 0) (4 + z) 1) d).toArray 44 (0, 0))) := Lib.hid (by rw [hw6, blk_drew]; exact kpR Hb5.out z hz _)
    clear hw6 d6 g6 j3 m3
    go_wp2_with fail
    go_end0
    exact ⟨rfl, (((Hf2.out.none.trans0 Hf3.out).trans0 Hf4.out.none).trans0 Hf5.out).trans0 Hf6.out, Hb6.out⟩
  | false =>
    go_wp2_with fail
    go_end0
    exact ⟨rfl, ((Hf2.out.none.trans0 Hf3.out).trans0 Hf4.out.none).trans0 Hf5.out, Hb5.out⟩
end Go.Proofs.Yteabiaoklpfbdaa
