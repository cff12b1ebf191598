/- Who waits on a channel, from outside; what two laws need. -/
import Derived.Test.YtcffplgimbbflaaGreatSlQ20
set_option linter.unusedVariables false
set_option linter.unusedSimpArgs false
namespace Go.Proofs.YtcffplgimbbflaaGreat
open Go.RowKit
set_option maxRecDepth 100000
theorem info_res6 (i v : Int) (ok pn pk kd : Bool) : (Tryz.prog.info? 238).map (fun i => i.size) = some (resA i v ok pn pk kd).size := by show _ = some 6; kernel_rfl
theorem resA_one (i v : Int) (ok pn pk kd : Bool) : (resA i v ok pn pk kd).all (·.oneCell') = true := by simp [resA, Value.oneCell']
/-- What Do of the cases does to the world. -/
def DoW (w : World) (F : Nat → Nat → Prop) (c : Cfg) (P : Pg) (st1 : WS) (nd nm : Nat) (ri rv : Int) (ok pk : Bool) (lw : List Wk) (nw : Nat) (W : World) (e : Ending) (w2 : World) : Prop := ∃ (A : Option Addr) (cp : Nat) (F' : Nat → Nat → Prop), e = .returned (.tuple #[resV ri rv ok false pk false, .slice A nw cp, .int .i64 0]) ∧ Fr (F 11) W w2 ∧ WP H0 w2 F' c P st1 nd nm ∧ (∀ k, Un F' k → Un F k ∨ W.heap.size ≤ k) ∧ (pk = false → F' = F) ∧ Sl w2 (From W.heap.size) 225 5 (.slice A nw cp) nw (wks lw)
section
variable {w : World} {S : Nat → Prop} {F : Nat → Nat → Prop} {c : Cfg} {P : Pg} {st : WS} {nd nm : Nat} (h : WP H0 w F c P st nd nm) (hS : ∀ k, S k ↔ Un F k) {ab : Nat} {x : Ax} (hwb : c.wb = x.wb) (ha : ActAt w ab x x.u 0 false) (hab : ¬ S ab)
include h hS hwb ha hab
set_option maxHeartbeats 8000000 in
theorem act_choose_any (A B C : Nat) (hA : A < 8) (hB : B < 8) (hC : C < 8) (ea : x.a = (A : Int)) (eb : x.b = (B : Int)) (ec : x.c = (C : Int)) (hid : -1 ≤ x.id) (cs : List ICs) (n : Nat) (hn : cs.length = n) (hn16 : n ≤ 16) (hrd : Rd w 3 x.cv n (cs.flatMap icsEn)) (hreg : ∀ y ∈ cs, csB y = true) {l : List Cs} (hl : st.cases x.u cs = some l) (hnd : nd ≤ 100000000000)
    (ri rv : Int) (ok pk : Bool) (lw : List Wk) (nw : Nat) (hnw : lw.length = nw) (hlw : nw < 1000) {st1 s : WS} {o : Option (Nat → Int)} (hnch : st1.nch = st.nch)
    (hcase : (pk = true ∧ s = st1 ∧ o = none) ∨ (pk = false ∧ ri = -1 ∧ s = st1 ∧ o = some (updR x.u A (-1))) ∨
      (pk = false ∧ ∃ (k i : Nat) (val : Int) (cc : ChS), ri = (k : Int) ∧ k < n ∧ l[k]? = some (some i, false, val) ∧ i < st.nch ∧ st1.ch i = some cc ∧ st1.take (updR x.u A k) B C rv ok lw = some (s, o)) ∨
      (pk = false ∧ ∃ (k i : Nat) (val : Int), ri = (k : Int) ∧ k < n ∧ l[k]? = some (some i, true, val) ∧ i < st.nch ∧ st1.wake lw = some s ∧ o = some (updR x.u A k)))
    (hDo : ∀ W v (T : Nat → Prop), Fr Nob w W → (∀ k, T k → w.heap.size ≤ k ∧ k < W.heap.size) → Sl W T 242 3 v n (css c.B l) → Calls Tryz.prog 135 #[v, .bool x.d, inV x.draw, inV x.id] W (DoW w F c P st1 nd nm ri rv ok pk lw nw W)) :
    Calls Tryz.prog 88 #[ptV ab] w fun e w' => e = .returned (.tuple #[]) ∧ Ay w S ab x P s (nd + 2000) nm o w' := by
  have hal := ha.lt
  have Hlt' := Lib.hid (WAt.lt (show WAt w S x.wb P st nd nm from ⟨F, c, h, hwb, hS⟩))
  have Hcase := Lib.hid hcase
  clear hcase
  have HC := Lib.hid (fun W (hW : Fr Nob w W) => world_cases (h.fr0 hW) x.o x.a x.b x.c x.cv x.d cs n hn hn16 (hrd.fr hW) x.u hreg hl)
  rw [hwb] at HC
  have K0 := Lib.hid (fun W (hW : Fr Nob w W) => (show W.cell? ⟨ab, 0, none⟩ = some (ptV x.wb) ∧ W.cell? ⟨ab, 1, none⟩ = some (inV x.id) ∧ W.cell? ⟨ab, 2, none⟩ = some (inV x.o) ∧ W.cell? ⟨ab, 3, none⟩ = some (inV x.a) ∧ W.cell? ⟨ab, 4, none⟩ = some (inV x.b) ∧ W.cell? ⟨ab, 5, none⟩ = some (inV x.c) ∧ W.cell? ⟨ab, 6, none⟩ = some x.cv ∧ W.cell? ⟨ab, 7, none⟩ = some (.bool x.d) ∧ W.cell? ⟨ab, 8, none⟩ = some (inV (x.u 0)) ∧ W.cell? ⟨ab, 9, none⟩ = some (inV (x.u 1)) ∧ W.cell? ⟨ab, 10, none⟩ = some (inV (x.u 2)) ∧ W.cell? ⟨ab, 11, none⟩ = some (inV (x.u 3)) ∧ W.cell? ⟨ab, 12, none⟩ = some (inV (x.u 4)) ∧ W.cell? ⟨ab, 13, none⟩ = some (inV (x.u 5)) ∧ W.cell? ⟨ab, 14, none⟩ = some (inV (x.u 6)) ∧ W.cell? ⟨ab, 15, none⟩ = some (inV (x.u 7)) from
    have q := ha.fr hW (fun q => q)
    ⟨xc0 q, xc1 q, xc2 q, xc3 q, xc4 q, xc5 q, xc6 q, xc7 q, blk_cell q 8 rfl, blk_cell q 9 rfl, blk_cell q 10 rfl, blk_cell q 11 rfl, blk_cell q 12 rfl, blk_cell q 13 rfl, blk_cell q 14 rfl, blk_cell q 15 rfl⟩))
  have K3 := Lib.hid (fun W (q : ActAt W ab x x.u 0 false) => (show W.cell? ⟨ab, 1, none⟩ = some (inV x.id) ∧ W.cell? ⟨ab, 7, none⟩ = some (.bool x.d) ∧ W.cell? ⟨ab, 24, none⟩ = some (inV x.draw) from ⟨xc1 q, xc7 q, blk_cell q 24 rfl⟩))
  have h11 : ¬ F 11 ab := fun q => hab ((hS _).2 ⟨11, q⟩)
  have Hlt := Lib.hid h.lt
  have HDo := Lib.hid hDo; have Ea := Lib.hid ea; have Hnw := Lib.hid hnw; have Hnch := Lib.hid hnch
  have HS := Lib.hid hS; have Ha := Lib.hid ha; have Hwb := Lib.hid hwb
  have Eb := Lib.hid eb; have Ec := Lib.hid ec; have Hid1 := Lib.hid hid; have HB := Lib.hid (fun i (q : i < st.nch) => h.pad.2.2 i q)
  clear h hS ha hwb hrd hreg hl hDo hn hnw ea hnch eb ec hid
  go_enter Tryz.func88, Tryz.ntmps88
  go_wp2_with fail
  have hf0 : Fr Nob w w := Fr.refl _ _
  go_region_held3 (fun W => W.cell? ⟨ab, 0, none⟩ = some (ptV x.wb) ∧ W.cell? ⟨ab, 1, none⟩ = some (inV x.id) ∧ W.cell? ⟨ab, 2, none⟩ = some (inV x.o) ∧ W.cell? ⟨ab, 3, none⟩ = some (inV x.a) ∧ W.cell? ⟨ab, 4, none⟩ = some (inV x.b) ∧ W.cell? ⟨ab, 5, none⟩ = some (inV x.c) ∧ W.cell? ⟨ab, 6, none⟩ = some x.cv ∧ W.cell? ⟨ab, 7, none⟩ = some (.bool x.d) ∧ W.cell? ⟨ab, 8, none⟩ = some (inV (x.u 0)) ∧ W.cell? ⟨ab, 9, none⟩ = some (inV (x.u 1)) ∧ W.cell? ⟨ab, 10, none⟩ = some (inV (x.u 2)) ∧ W.cell? ⟨ab, 11, none⟩ = some (inV (x.u 3)) ∧ W.cell? ⟨ab, 12, none⟩ = some (inV (x.u 4)) ∧ W.cell? ⟨ab, 13, none⟩ = some (inV (x.u 5)) ∧ W.cell? ⟨ab, 14, none⟩ = some (inV (x.u 6)) ∧ W.cell? ⟨ab, 15, none⟩ = some (inV (x.u 7)))
    ((first | with_reducible exact K0.out _ hf0.drew | with_reducible exact K0.out _ hf1 | exact K0.out _ hf0.drew))
    ((go_at_call 122; refine (HC.out w.drew hf0.drew).mono ?_; rintro e w1 ⟨v, rfl, hf1', hsl1⟩; have hf1 : Fr Nob w w1 := hf0.drew.trans0 hf1'; clear hf1'))
  have Hsl1 := Lib.hid hsl1; have Hf1 := Lib.hid hf1
  obtain ⟨Av, cv, rfl⟩ := hsl1.slice
  clear hsl1 hf1 hf0
  go_wp2_with fail
  refine wp_region_held_drew (S := fun W => W.cell? ⟨ab, 1, none⟩ = some (inV x.id) ∧ W.cell? ⟨ab, 7, none⟩ = some (.bool x.d) ∧ W.cell? ⟨ab, 24, none⟩ = some (inV x.draw)) (by kernel_rfl) (K3.out _ (Ha.out.fr Hf1.out.drew (fun q => q))) (fun hHeld => ?_)
  refine wpAnyH_take (i := 0) (v := ?_) rfl (by kernel_rfl) (by kernel_rfl) (by kernel_rfl) (fun _ _ _ h => h) (Or.inl ⟨by rfl, ?_⟩) (by assumption) ?_
  rotate_left
  · intro w hSw; (try dsimp only at hSw); go_simp; try with_reducible rfl
  try simp only [List.getElem_toArray, List.getElem_cons_zero, List.getElem_cons_succ, Act.put, List.setIfInBounds_toArray, List.set_cons_zero, List.set_cons_succ]
  refine wpAnyH_take (i := 1) (v := ?_) rfl (by kernel_rfl) (by kernel_rfl) (by kernel_rfl) (fun _ _ _ h => h) (Or.inl ⟨by rfl, ?_⟩) (by assumption) ?_
  rotate_left
  · intro w hSw; (try dsimp only at hSw); go_simp; try with_reducible rfl
  try simp only [List.getElem_toArray, List.getElem_cons_zero, List.getElem_cons_succ, Act.put, List.setIfInBounds_toArray, List.set_cons_zero, List.set_cons_succ]
  refine wpAnyH_take (i := 2) (v := ?_) rfl (by kernel_rfl) (by kernel_rfl) (by kernel_rfl) (fun _ _ _ h => h) (Or.inl ⟨by rfl, ?_⟩) (by assumption) ?_
  rotate_left
  · intro w hSw; (try dsimp only at hSw); go_simp; try with_reducible rfl
  try simp only [List.getElem_toArray, List.getElem_cons_zero, List.getElem_cons_succ, Act.put, List.setIfInBounds_toArray, List.set_cons_zero, List.set_cons_succ]
  refine wpAnyH_take (i := 3) (v := ?_) rfl (by kernel_rfl) (by kernel_rfl) (by kernel_rfl) (fun _ _ _ h => h) (Or.inl ⟨by rfl, ?_⟩) (by assumption) ?_
  rotate_left
  · intro w hSw; (try dsimp only at hSw); go_simp; try with_reducible rfl
  try simp only [List.getElem_toArray, List.getElem_cons_zero, List.getElem_cons_succ, Act.put, List.setIfInBounds_toArray, List.set_cons_zero, List.set_cons_succ]
  refine wpAnyH_take (i := 4) (v := ?_) rfl (by kernel_rfl) (by kernel_rfl) (by kernel_rfl) (fun _ _ _ h => h) (Or.inl ⟨by rfl, ?_⟩) (by assumption) ?_
  rotate_left
  · intro w hSw; (try dsimp only at hSw); go_simp; try with_reducible rfl
  try simp only [List.getElem_toArray, List.getElem_cons_zero, List.getElem_cons_succ, Act.put, List.setIfInBounds_toArray, List.set_cons_zero, List.set_cons_succ]
  refine wpAnyH_take (i := 5) (v := ?_) rfl (by kernel_rfl) (by kernel_rfl) (by kernel_rfl) (fun _ _ _ h => h) (Or.inl ⟨by rfl, ?_⟩) (by assumption) ?_
  rotate_left
  · intro w hSw; (try dsimp only at hSw); go_simp; try with_reducible rfl
  try simp only [List.getElem_toArray, List.getElem_cons_zero, List.getElem_cons_succ, Act.put, List.setIfInBounds_toArray, List.set_cons_zero, List.set_cons_succ]
  refine wpAnyH_take (i := 6) (v := ?_) rfl (by kernel_rfl) (by kernel_rfl) (by kernel_rfl) (fun _ _ _ h => h) (Or.inl ⟨by rfl, ?_⟩) (by assumption) ?_
  rotate_left
  · intro w hSw; (try dsimp only at hSw); go_simp; try with_reducible rfl
  try simp only [List.getElem_toArray, List.getElem_cons_zero, List.getElem_cons_succ, Act.put, List.setIfInBounds_toArray, List.set_cons_zero, List.set_cons_succ]
  refine wpAnyH_take (i := 7) (v := ?_) rfl (by kernel_rfl) (by kernel_rfl) (by kernel_rfl) (fun _ _ _ h => h) (Or.inl ⟨by rfl, ?_⟩) (by assumption) ?_
  rotate_left
  · intro w hSw; (try dsimp only at hSw); go_simp; try with_reducible rfl
  try simp only [List.getElem_toArray, List.getElem_cons_zero, List.getElem_cons_succ, Act.put, List.setIfInBounds_toArray, List.set_cons_zero, List.set_cons_succ]
  refine wpAnyH_take (i := 8) (v := ?_) rfl (by kernel_rfl) (by kernel_rfl) (by kernel_rfl) (fun _ _ _ h => h) (Or.inl ⟨by rfl, ?_⟩) (by assumption) ?_
  rotate_left
  · intro w hSw; (try dsimp only at hSw); go_simp; try with_reducible rfl
  try simp only [List.getElem_toArray, List.getElem_cons_zero, List.getElem_cons_succ, Act.put, List.setIfInBounds_toArray, List.set_cons_zero, List.set_cons_succ]
  refine wpAnyH_take (i := 9) (v := ?_) rfl (by kernel_rfl) (by kernel_rfl) (by kernel_rfl) (fun _ _ _ h => h) (Or.inl ⟨by rfl, ?_⟩) (by assumption) ?_
  rotate_left
  · intro w hSw; (try dsimp only at hSw); go_simp; try with_reducible rfl
  try simp only [List.getElem_toArray, List.getElem_cons_zero, List.getElem_cons_succ, Act.put, List.setIfInBounds_toArray, List.set_cons_zero, List.set_cons_succ]
  refine wpAnyH_take (i := 10) (v := ?_) rfl (by kernel_rfl) (by kernel_rfl) (by kernel_rfl) (fun _ _ _ h => h) (Or.inl ⟨by rfl, ?_⟩) (by assumption) ?_
  rotate_left
  · intro w hSw; (try dsimp only at hSw); go_simp; try with_reducible rfl
  try simp only [List.getElem_toArray, List.getElem_cons_zero, List.getElem_cons_succ, Act.put, List.setIfInBounds_toArray, List.set_cons_zero, List.set_cons_succ]
  refine wpAnyH_take (i := 11) (v := ?_) rfl (by kernel_rfl) (by kernel_rfl) (by kernel_rfl) (fun _ _ _ h => h) (Or.inl ⟨by rfl, ?_⟩) (by assumption) ?_
  rotate_left
  · intro w hSw; (try dsimp only at hSw); go_simp; try with_reducible rfl
  try simp only [List.getElem_toArray, List.getElem_cons_zero, List.getElem_cons_succ, Act.put, List.setIfInBounds_toArray, List.set_cons_zero, List.set_cons_succ]
  refine wpAnyH_take (i := 12) (v := ?_) rfl (by kernel_rfl) (by kernel_rfl) (by kernel_rfl) (fun _ _ _ h => h) (Or.inl ⟨by rfl, ?_⟩) (by assumption) ?_
  rotate_left
  · intro w hSw; (try dsimp only at hSw); go_simp; try with_reducible rfl
  try simp only [List.getElem_toArray, List.getElem_cons_zero, List.getElem_cons_succ, Act.put, List.setIfInBounds_toArray, List.set_cons_zero, List.set_cons_succ]
  refine wpAnyH_take (i := 13) (v := ?_) rfl (by kernel_rfl) (by kernel_rfl) (by kernel_rfl) (fun _ _ _ h => h) (Or.inl ⟨by rfl, ?_⟩) (by assumption) ?_
  rotate_left
  · intro w hSw; (try dsimp only at hSw); go_simp; try with_reducible rfl
  try simp only [List.getElem_toArray, List.getElem_cons_zero, List.getElem_cons_succ, Act.put, List.setIfInBounds_toArray, List.set_cons_zero, List.set_cons_succ]
  refine wpAnyH_ready (rs := [14, 19]) (by kernel_rfl) (by simp) ?_
  refine AllReadyH.cons rfl (fun K hK => ?_) (AllReadyH.cons rfl (fun K hK => ?_) AllReadyH.nil)
  focus
    simp only [List.getElem_toArray, List.getElem_cons_zero, List.getElem_cons_succ]
    go_simp
    refine (HDo.out w1.drew (.slice Av n cv) (fun q => w.heap.size ≤ q ∧ q < w1.heap.size) (Hf1.out.drew) (fun k q => ⟨q.1, by have := q.2; first | exact this | (show k < w1.heap.size + 1; omega) | (simp; omega)⟩) (Hsl1.out.drew)).mono ?_
    rintro e w2 ⟨A2, cp, F2, rfl, hf2, hw2, hsub2, hpk2, hsl2⟩
    have hf02 : Fr (F 11) w w2 := (Hf1.out.drew.none).trans hf2 fun _ _ q => q
    refine hK.out _ _ (K3.out _ (Ha.out.fr hf02 h11)) (fun hHeld2 => ?_)
    clear hK K
    refine wpAnyH_take (i := 15) (v := ?_) rfl (by kernel_rfl) (by kernel_rfl) (by kernel_rfl) (fun _ _ _ h => h) (Or.inl ⟨by rfl, ?_⟩) (by assumption) ?_
    rotate_left
    · intro w hSw; (try dsimp only at hSw); go_simp; try with_reducible rfl
    try simp only [List.getElem_toArray, List.getElem_cons_zero, List.getElem_cons_succ, Act.put, List.setIfInBounds_toArray, List.set_cons_zero, List.set_cons_succ]
    refine wpAnyH_take (i := 16) (v := ?_) rfl (by kernel_rfl) (by kernel_rfl) (by kernel_rfl) (fun _ _ _ h => h) (Or.inl ⟨by rfl, ?_⟩) (by assumption) ?_
    rotate_left
    · intro w hSw; (try dsimp only at hSw); go_simp; try with_reducible rfl
    try simp only [List.getElem_toArray, List.getElem_cons_zero, List.getElem_cons_succ, Act.put, List.setIfInBounds_toArray, List.set_cons_zero, List.set_cons_succ]
    refine wpAnyH_take (i := 17) (v := ?_) rfl (by kernel_rfl) (by kernel_rfl) (by kernel_rfl) (fun _ _ _ h => h) (Or.inl ⟨by rfl, ?_⟩) (by assumption) ?_
    rotate_left
    · intro w hSw; (try dsimp only at hSw); go_simp; try with_reducible rfl
    try simp only [List.getElem_toArray, List.getElem_cons_zero, List.getElem_cons_succ, Act.put, List.setIfInBounds_toArray, List.set_cons_zero, List.set_cons_succ]
    refine wpAnyH_take (i := 18) (v := ?_) rfl (by kernel_rfl) (by kernel_rfl) (by kernel_rfl) (fun _ _ _ h => h) (Or.inl ⟨by rfl, ?_⟩) (by assumption) ?_
    rotate_left
    · intro w hSw; (try dsimp only at hSw); go_simp; try with_reducible rfl
    try simp only [List.getElem_toArray, List.getElem_cons_zero, List.getElem_cons_succ, Act.put, List.setIfInBounds_toArray, List.set_cons_zero, List.set_cons_succ]
    refine wpAnyH_ready (rs := [19]) (by kernel_rfl) (by simp) ?_
    refine AllReadyH.cons rfl (fun K hK => ?_) AllReadyH.nil
    try simp only [List.getElem_toArray, List.getElem_cons_zero, List.getElem_cons_succ]
    go_simp
    refine hK.out _ _ (K3.out _ (Ha.out.fr (hf02.alloc _) h11)) (fun hHeld3 => ?_)
    clear hK K
    refine wpAnyH_ready (rs := [20]) (by kernel_rfl) (by simp) ?_
    refine AllReadyH.cons rfl (fun K hK => ?_) AllReadyH.nil
    refine step_store_row _ rfl 238 (.tmp 4) (.tmp 44) rfl w2.heap.size (resA ri rv ok false pk false) _ 238 rfl rfl (heap_alloc_new w2 _) rfl (info_res6 ri rv ok false pk false) (resA_one ri rv ok false pk false) fun w3 hb3 hf3 => ?_
    have hz1 := Hf1.out.size
    have hz2 : w1.heap.size ≤ w2.heap.size := hf2.size
    have hf23 : Fr Nob w2 w3 := ((Fr.refl Nob w2).alloc _).trans hf3 fun k hk e => by omega
    refine hK.out _ _ (K3.out _ (Ha.out.fr (hf02.trans hf23 fun _ _ q => q.elim) h11)) (fun hHeld4 => ?_)
    clear hK K hHeld2 hHeld3 hHeld
    obtain ⟨tb, htb⟩ : ∃ tb, tb = w2.heap.size := ⟨_, rfl⟩
    rw [← htb] at hb3
    try rw [← htb]
    have HQ : Hid (∃ F2 : Nat → Nat → Prop, WP H0 w3 F2 c P st1 nd nm ∧ (∀ k, Un F2 k → Un F k ∨ w.heap.size ≤ k) ∧ (pk = false → F2 = F) ∧ Fr (F 11) w w3 ∧ w3.heap[tb]? = some (.cells (resA ri rv ok false pk false) 238 (0, 0)) ∧ w.heap.size ≤ tb ∧ (∃ T, Sl w3 T 225 5 (.slice A2 nw cp) nw (wks lw) ∧ ∀ k, T k → w.heap.size ≤ k ∧ k < w3.heap.size) ∧ Sl w3 (fun q => w.heap.size ≤ q ∧ q < w1.heap.size) 242 3 (.slice Av n cv) n (css c.B l)) := Lib.hid (by
      have hz3 := hf23.size
      have hzd : w.drew.heap.size = w.heap.size := rfl
      refine ⟨F2, hw2.fr0 hf23, fun k q => (hsub2 k q).imp id fun q => by have : w1.heap.size ≤ k := q; omega, hpk2, hf02.trans hf23 fun _ _ q => q.elim, hb3, by omega, ⟨_, (hsl2.mono (S' := fun k => w.heap.size ≤ k ∧ k < w3.heap.size) fun k hk q => ⟨by have : w1.heap.size ≤ k := q; omega, by omega⟩).fr hf23 fun _ _ q => q, fun k q => q⟩, ((Hsl1.out.drew.fr hf2 fun k a b => by have := Hlt.out _ _ b; have := a.1; omega).fr hf23 fun _ _ q => q)⟩)
    clear htb hb3 hf3 hf23 hf2 hw2 hsub2 hpk2 hsl2 hf02 hz1 hz2
  rotate_left
  focus
    try simp only [List.getElem_toArray, List.getElem_cons_zero, List.getElem_cons_succ]
    go_simp
    refine hK.out _ _ (K3.out _ (Ha.out.fr (Hf1.out.drew.alloc _) fun q => q)) (fun hHeld3 => ?_)
    clear hK K
    refine wpAnyH_ready (rs := [14]) (by kernel_rfl) (by simp) ?_
    refine AllReadyH.cons rfl (fun K hK => ?_) AllReadyH.nil
    simp only [List.getElem_toArray, List.getElem_cons_zero, List.getElem_cons_succ]
    go_simp
    refine (HDo.out _ (.slice Av n cv) (fun q => w.heap.size ≤ q ∧ q < w1.heap.size) ((Hf1.out.drew.alloc _)) (fun k q => ⟨q.1, by have := q.2; first | exact this | (show k < w1.heap.size + 1; omega) | (simp; omega)⟩) (Hsl1.out.drew.alloc _)).mono ?_
    rintro e w2 ⟨A2, cp, F2, rfl, hf2, hw2, hsub2, hpk2, hsl2⟩
    have hf02 : Fr (F 11) w w2 := ((Hf1.out.drew.alloc _).none).trans hf2 fun _ _ q => q
    refine hK.out _ _ (K3.out _ (Ha.out.fr hf02 h11)) (fun hHeld2 => ?_)
    clear hK K
    refine wpAnyH_take (i := 15) (v := ?_) rfl (by kernel_rfl) (by kernel_rfl) (by kernel_rfl) (fun _ _ _ h => h) (Or.inl ⟨by rfl, ?_⟩) (by assumption) ?_
    rotate_left
    · intro w hSw; (try dsimp only at hSw); go_simp; try with_reducible rfl
    try simp only [List.getElem_toArray, List.getElem_cons_zero, List.getElem_cons_succ, Act.put, List.setIfInBounds_toArray, List.set_cons_zero, List.set_cons_succ]
    refine wpAnyH_take (i := 16) (v := ?_) rfl (by kernel_rfl) (by kernel_rfl) (by kernel_rfl) (fun _ _ _ h => h) (Or.inl ⟨by rfl, ?_⟩) (by assumption) ?_
    rotate_left
    · intro w hSw; (try dsimp only at hSw); go_simp; try with_reducible rfl
    try simp only [List.getElem_toArray, List.getElem_cons_zero, List.getElem_cons_succ, Act.put, List.setIfInBounds_toArray, List.set_cons_zero, List.set_cons_succ]
    refine wpAnyH_take (i := 17) (v := ?_) rfl (by kernel_rfl) (by kernel_rfl) (by kernel_rfl) (fun _ _ _ h => h) (Or.inl ⟨by rfl, ?_⟩) (by assumption) ?_
    rotate_left
    · intro w hSw; (try dsimp only at hSw); go_simp; try with_reducible rfl
    try simp only [List.getElem_toArray, List.getElem_cons_zero, List.getElem_cons_succ, Act.put, List.setIfInBounds_toArray, List.set_cons_zero, List.set_cons_succ]
    refine wpAnyH_take (i := 18) (v := ?_) rfl (by kernel_rfl) (by kernel_rfl) (by kernel_rfl) (fun _ _ _ h => h) (Or.inl ⟨by rfl, ?_⟩) (by assumption) ?_
    rotate_left
    · intro w hSw; (try dsimp only at hSw); go_simp; try with_reducible rfl
    try simp only [List.getElem_toArray, List.getElem_cons_zero, List.getElem_cons_succ, Act.put, List.setIfInBounds_toArray, List.set_cons_zero, List.set_cons_succ]
    refine wpAnyH_ready (rs := [20]) (by kernel_rfl) (by simp) ?_
    refine AllReadyH.cons rfl (fun K hK => ?_) AllReadyH.nil
    refine step_store_row _ rfl 238 (.tmp 4) (.tmp 44) rfl w1.heap.size (resA ri rv ok false pk false) _ 238 rfl rfl (hf2.blk (fun q => by have := Hlt.out _ _ q; have := Hf1.out.size; omega) (heap_alloc_new w1.drew _)) rfl (info_res6 ri rv ok false pk false) (resA_one ri rv ok false pk false) fun w3 hb3 hf3 => ?_
    have hz1 := Hf1.out.size
    have hz2 : w1.heap.size + 1 ≤ w2.heap.size := by have := hf2.size; simpa using this
    have hf03 : Fr (F 11) w w3 := hf02.trans hf3 fun k hk e => by omega
    refine hK.out _ _ (K3.out _ (Ha.out.fr hf03 h11)) (fun hHeld4 => ?_)
    clear hK K hHeld2 hHeld3 hHeld
    obtain ⟨tb, htb⟩ : ∃ tb, tb = w1.heap.size := ⟨_, rfl⟩
    rw [← htb] at hb3 hf3
    try rw [← htb]
    have HQ : Hid (∃ F2 : Nat → Nat → Prop, WP H0 w3 F2 c P st1 nd nm ∧ (∀ k, Un F2 k → Un F k ∨ w.heap.size ≤ k) ∧ (pk = false → F2 = F) ∧ Fr (F 11) w w3 ∧ w3.heap[tb]? = some (.cells (resA ri rv ok false pk false) 238 (0, 0)) ∧ w.heap.size ≤ tb ∧ (∃ T, Sl w3 T 225 5 (.slice A2 nw cp) nw (wks lw) ∧ ∀ k, T k → w.heap.size ≤ k ∧ k < w3.heap.size) ∧ Sl w3 (fun q => w.heap.size ≤ q ∧ q < w1.heap.size) 242 3 (.slice Av n cv) n (css c.B l)) := Lib.hid (by
      have hz3 := hf3.size
      have hzd : w.drew.heap.size = w.heap.size := rfl
      have hge : ∀ k, Un F2 k → Un F k ∨ w1.heap.size + 1 ≤ k := fun k q => (hsub2 k q).imp id fun q => by simpa using q
      refine ⟨F2, hw2.frame hf3 (fun _ q => q) (fun p k _ q e => by rcases hge k ⟨p, q⟩ with ⟨p', a⟩ | a; have := Hlt.out _ _ a; omega; omega), fun k q => (hge k q).imp id fun q => by omega, hpk2, hf03, hb3, by omega, ⟨_, (hsl2.mono (S' := fun k => w1.heap.size + 1 ≤ k ∧ k < w3.heap.size) fun k hk q => ⟨by simpa using q, by omega⟩).fr hf3 fun k a e => by omega, fun k q => ⟨by omega, q.2⟩⟩, (((Hsl1.out.drew.alloc _).fr hf2 fun k a b => by have := Hlt.out _ _ b; have := a.1; omega).fr hf3 fun k a e => by have := a.2; omega)⟩)
    clear htb hb3 hf3 hf03 hf2 hw2 hsub2 hpk2 hsl2 hf02 hz1 hz2
  all_goals
    refine wpAnyH_take (i := 21) (v := ?_) rfl (by kernel_rfl) (by kernel_rfl) (by kernel_rfl) (fun _ _ _ h => h) (Or.inl ⟨by rfl, ?_⟩) (by assumption) ?_
    rotate_left
    · intro w hSw; (try dsimp only at hSw); go_simp; try with_reducible rfl
    try simp only [List.getElem_toArray, List.getElem_cons_zero, List.getElem_cons_succ, Act.put, List.setIfInBounds_toArray, List.set_cons_zero, List.set_cons_succ]
    refine wpAnyH_take (i := 22) (v := ?_) rfl (by kernel_rfl) (by kernel_rfl) (by kernel_rfl) (fun _ _ _ h => h) (Or.inl ⟨by rfl, ?_⟩) (by assumption) ?_
    rotate_left
    · intro w hSw; (try dsimp only at hSw); go_simp; try with_reducible rfl
    try simp only [List.getElem_toArray, List.getElem_cons_zero, List.getElem_cons_succ, Act.put, List.setIfInBounds_toArray, List.set_cons_zero, List.set_cons_succ]
    refine wpAnyH_done (by kernel_rfl) ?_ _
    try simp only [List.getElem_toArray, List.getElem_cons_zero, List.getElem_cons_succ, Act.put, List.setIfInBounds_toArray, List.set_cons_zero, List.set_cons_succ]
    have HQ3 := HQ
    obtain ⟨F2, H3, hsub3, hpk3, F3, hb3, htb, ⟨T, hsl3, hT⟩, hrd3⟩ := HQ.out
    have A3 := Ha.out.fr F3 h11
    have q0 := blk_cell hb3 0 rfl
    have q1 := blk_cell hb3 1 rfl
    have q2 := blk_cell hb3 2 rfl
    have q3 := blk_cell hb3 3 rfl
    have q4 := blk_cell hb3 4 rfl
    have q5 := blk_cell hb3 5 rfl
    have c3 : w3.cell? ⟨ab, 3, none⟩ = some (inV (A : Int)) := by rw [xc3 A3, Ea.out]
    have cR := xcR A3 A hA
    have fR := blk_froz A3 (16 + A)
    have f26 := blk_froz A3 26
    have c26 : w3.cell? ⟨ab, 26, none⟩ = some (.bool false) := blk_cell A3 26 rfl
    have hAi : (A : Int) < 8 := by omega
    have hpk' : pk = true ∨ pk = false := by cases pk <;> simp
    have hzf := F3.size
    clear H3 hsub3 hpk3 F3 hb3 htb hsl3 hT hrd3 A3
    rcases hpk' with hpk | hpk
    · subst hpk
      obtain ⟨e2, e3⟩ : s = st1 ∧ o = none := by
        rcases Hcase.out with ⟨_, a, b⟩ | ⟨a, _⟩ | ⟨a, _⟩ | ⟨a, _⟩
        · exact ⟨a, b⟩
        · cases a
        · cases a
        · cases a
      have E2 := Lib.hid e2; have E3 := Lib.hid e3
      clear e2 e3
      go_wp2_with fail
      obtain ⟨wy, hwy⟩ : ∃ wy, wy = w3.setCell ⟨ab, 26, none⟩ (.bool true) := ⟨_, rfl⟩
      try rw [← hwy]
      obtain ⟨F2, H3, hsub3, hpk3, F3, hb3, htb, ⟨T, hsl3, hT⟩, hrd3⟩ := HQ3.out
      have hay : ActAt wy ab x x.u 0 true := by rw [hwy]; exact xpP (Ha.out.fr F3 h11) true
      have hfy : Fr (fun q => q = ab) w3 wy := by rw [hwy]; exact ((Fr.refl (fun q => q = ab) w3).setCell (p := ⟨ab, 26, none⟩) (.inl rfl) _)
      have hn2 : ∀ k, Un F2 k → k = ab → False := fun k q e => by
        rcases hsub3 k q with a | a
        · exact hab (by rw [← e]; exact (HS.out k).2 a)
        · omega
      have hwt : WAt wy (Un F2) x.wb P st1 nd nm := ⟨F2, c, H3.frame hfy (fun _ q => q) (fun p k _ q e => hn2 k ⟨p, q⟩ e), Hwb.out, fun k => Iff.rfl⟩
      have hfr : Fr (fun k => S k ∨ k = ab) w wy := (F3.mono fun k _ q => .inl ((HS.out k).2 ⟨11, q⟩)).trans hfy fun k _ q => .inr q
      refine bodyPost_ret (results_none Tryz.results88 _ _ _) rfl ⟨rfl, ?_⟩
      rw [E2.out, E3.out]
      exact ⟨Un F2, hfr, hwt.mono (by omega) (Nat.le_refl _), fun k a => (hsub3 k a).imp (fun q => (HS.out k).2 q) id, x.u, hay⟩
    · subst hpk
      go_wp2_with fail
      go_region
      all_goals
        obtain ⟨wy, hwy⟩ : ∃ wy, wy = (w3.setCell ⟨ab, 16 + A, none⟩ (inV ri)).drew := ⟨_, rfl⟩
        rw [← hwy]
        obtain ⟨F2, H3, hsub3, hpk3, F3, hb3, htb, ⟨T, hsl3, hT⟩, hrd3⟩ := HQ3.out
        rw [hpk3 (by simp)] at H3 hsub3
        have hay : ActAt wy ab x (updR x.u A ri) 0 false := by rw [hwy]; exact blk_drew' (xpR (Ha.out.fr F3 h11) A hA ri)
        have hfy : Fr (fun q => q = ab) w3 wy := by rw [hwy]; exact ((Fr.refl (fun q => q = ab) w3).setCell (p := ⟨ab, 16 + A, none⟩) (.inl rfl) _).drew
        have hwt : WAt wy S x.wb P st1 nd nm := ⟨F, c, H3.frame hfy (fun _ q => q) (fun p k _ q e => hab (by rw [← e]; exact (HS.out k).2 ⟨p, q⟩)), Hwb.out, HS.out⟩
        have hfr : Fr (fun k => S k ∨ k = ab) w wy := (F3.mono fun k _ q => .inl ((HS.out k).2 ⟨11, q⟩)).trans hfy fun k _ q => .inr q
        have p0 := hfy.cell (p := ⟨tb, 0, none⟩) (fun e => by have e : tb = ab := e; omega) (blk_cell hb3 0 rfl)
        have Hfy := Lib.hid hfy; have Hay := Lib.hid hay; have Hwt := Lib.hid hwt; have Hfr := Lib.hid hfr
        clear hwy hsub3 hpk3 H3 F3 hb3 hsl3 hT hrd3 hay hfy hwt hfr q0 q1 q2 q3 q4 q5 c3 cR fR f26 c26
        rcases Hcase.out with ⟨e0, _⟩ | ⟨_, e1, e2, e3⟩ | ⟨_, k, i, val, cc, e1, hkn, hx, hin, hci, htk⟩ | ⟨_, k, i, val, e1, hkn, hx, hin, hwk, e3⟩
        · cases e0
        · have Hay' := Lib.hid (show ActAt wy ab x (updR x.u A (-1)) 0 false by rw [← e1]; exact Hay.out)
          rw [e1] at p0
          have E2 := Lib.hid e2; have E3 := Lib.hid e3
          clear e2 e3 e1
          go_wp2_with fail
          go_end0
          refine ⟨rfl, ?_⟩
          rw [E2.out, E3.out]
          exact ⟨S, Hfr.out, Hwt.out.mono (by omega) (Nat.le_refl _), fun k a => .inl a, Hay'.out⟩
        · rw [e1] at p0
          obtain ⟨F2, H3, hsub3, hpk3, F3, hb3, htb, ⟨T, hsl3, hT⟩, hrd3⟩ := HQ3.out
          have hsly := hsl3.fr Hfy.out (fun k a e => by have := (hT k a).1; omega)
          have hcsy := hrd3.fr Hfy.out (fun k a e => by have := a.1; omega)
          obtain ⟨g, off, c', heq, hg, _, _, _, hc, _⟩ := hcsy.form (by omega)
          cases heq
          have hq : ∀ j u, j < 3 → (csEn c.B (some i, false, val))[j]? = some u → wy.cell? ⟨g, off + (k * 3 + j), none⟩ = some u := fun j u hj hu => hc _ _ ((rowsGet (csEn c.B) (fun _ => rfl) l k j _ hx hj).trans hu)
          have r0 := hq 0 _ (by omega) rfl
          have r1 := hq 1 _ (by omega) rfl
          have r2 := hq 2 _ (by omega) rfl
          rw [← Nat.add_assoc] at r1 r2
          rw [Nat.add_zero] at r0
          have hzy := Hfy.out.size
          have hki : (k : Int) < n := by omega
          have m0 : decide ((k : Int) < 0) = false := decide_eq_false (by omega)
          have p1 := Hfy.out.cell (p := ⟨tb, 1, none⟩) (fun e => by have e : tb = ab := e; omega) (blk_cell hb3 1 rfl)
          have p2 := Hfy.out.cell (p := ⟨tb, 2, none⟩) (fun e => by have e : tb = ab := e; omega) (blk_cell hb3 2 rfl)
          have Htk := Lib.hid (fun W (hW : Fr Nob wy W) => act_take (Hwt.out.fr0 hW) (Hay.out.fr hW (fun q => q)) hab B C hB hC Eb.out Ec.out Hid1.out (by omega) hci rv ok lw nw Hnw.out (hsly.fr hW fun _ _ q => q) (fun k a b => by have := (hT k b).1; have := Hlt'.out k a; omega) (fun k b => by have := (hT k b).2; have := hW.size; omega) (by rw [e1]; exact htk))
          have KT := Lib.hid (fun W (hW : Fr Nob wy W) => (show W.cell? ⟨tb, 0, none⟩ = some (inV (k : Int)) ∧ W.cell? ⟨tb, 1, none⟩ = some (inV rv) ∧ W.cell? ⟨tb, 2, none⟩ = some (.bool ok) ∧ W.cell? ⟨g, off + k * 3, none⟩ = some (ptV (c.B i)) from ⟨hW.cell (fun q => q) p0, hW.cell (fun q => q) p1, hW.cell (fun q => q) p2, hW.cell (fun q => q) r0⟩))
          clear H3 hsub3 hpk3 F3 hb3 hsl3 hT hrd3 hsly hcsy hc hq hx hci htk e1 r2
          go_wp2_with fail
          have hnS : ∀ q, (S q ∨ q = ab) → q < w.heap.size := fun q a => by rcases a with a | a; exact Hlt'.out q a; omega
          have hgw : w.heap.size ≤ g := hg.1
          replace r0 : wy.cell? ⟨g, off + k * 3, none⟩ = some (ptV (c.B i)) := r0
          rw [HB.out i hin] at r0 KT
          go_region_held3 (fun W => W.cell? ⟨tb, 0, none⟩ = some (inV (k : Int)) ∧ W.cell? ⟨tb, 1, none⟩ = some (inV rv) ∧ W.cell? ⟨tb, 2, none⟩ = some (.bool ok) ∧ W.cell? ⟨g, off + k * 3, none⟩ = some (ptV (P.2 i)))
            ((first | with_reducible exact KT.out _ (Fr.refl _ _).drew | with_reducible exact KZ | exact KT.out _ (Fr.refl _ _).drew))
            ((go_at_call 136; refine (Htk.out wy.drew (Fr.refl _ _).drew).mono ?_; rintro e wz ⟨rfl, hay2⟩; have hfz := hay2.choose_spec.1; have KZ : wz.cell? ⟨tb, 0, none⟩ = some (inV (k : Int)) ∧ wz.cell? ⟨tb, 1, none⟩ = some (inV rv) ∧ wz.cell? ⟨tb, 2, none⟩ = some (.bool ok) ∧ wz.cell? ⟨g, off + k * 3, none⟩ = some (ptV (P.2 i)) := ⟨hfz.cell (fun a => by have a := hnS tb a; omega) p0, hfz.cell (fun a => by have a := hnS tb a; omega) p1, hfz.cell (fun a => by have a := hnS tb a; omega) p2, hfz.cell (fun a => by have a := hnS g a; omega) r0⟩; have HAY := Lib.hid hay2; clear hay2 hfz))
          go_wp2_with fail
          go_end0
          refine ⟨rfl, ?_⟩
          obtain ⟨S', f', a', s', q'⟩ := HAY.out
          exact ⟨S', Hfr.out.trans (((Fr.refl Nob wy).drew.none).trans f' fun _ _ q => q) (fun k _ q => q), a'.mono (by omega) (by omega), fun k q => (s' k q).imp (fun q => q) fun q => by have : wy.heap.size ≤ k := q; have := Hfr.out.size; omega, q'⟩
        · rw [e1] at p0
          obtain ⟨F2, H3, hsub3, hpk3, F3, hb3, htb, ⟨T, hsl3, hT⟩, hrd3⟩ := HQ3.out
          have hsly := hsl3.fr Hfy.out (fun k a e => by have := (hT k a).1; omega)
          have hcsy := hrd3.fr Hfy.out (fun k a e => by have := a.1; omega)
          obtain ⟨g, off, c', heq, hg, _, _, _, hc, _⟩ := hcsy.form (by omega)
          cases heq
          have hq : ∀ j u, j < 3 → (csEn c.B (some i, true, val))[j]? = some u → wy.cell? ⟨g, off + (k * 3 + j), none⟩ = some u := fun j u hj hu => hc _ _ ((rowsGet (csEn c.B) (fun _ => rfl) l k j _ hx hj).trans hu)
          have r0 := hq 0 _ (by omega) rfl
          have r1 := hq 1 _ (by omega) rfl
          have r2 := hq 2 _ (by omega) rfl
          rw [← Nat.add_assoc] at r1 r2
          rw [Nat.add_zero] at r0
          have hzy := Hfy.out.size
          have hki : (k : Int) < n := by omega
          have m0 : decide ((k : Int) < 0) = false := decide_eq_false (by omega)
          have hNX0 := Nx.refl Hwt.out
          have hil : i < st1.nch := by rw [Hnch.out]; exact hin
          have HH := Lib.hid (hNX0.chan i hil)
          have HW := Lib.hid (hNX0.went (i : Int) x.id val false Hid1.out (by omega))
          have Hsl := Lib.hid hsly; have HT := Lib.hid (fun k (b : T k) => (⟨(hT k b).1, by have := (hT k b).2; omega⟩ : w.heap.size ≤ k ∧ k < wy.heap.size))
          have E1 := Lib.hid e1; have Hwk := Lib.hid hwk; have E3 := Lib.hid e3; have NX0 := Lib.hid hNX0
          have hnS : ∀ q, S q → q < w.heap.size := fun q a => Hlt'.out q a
          have hgw : w.heap.size ≤ g := hg.1
          replace r0 : wy.cell? ⟨g, off + k * 3, none⟩ = some (ptV (c.B i)) := r0
          rw [HB.out i hin] at r0
          have KT := Lib.hid (fun W (hW : Fr S wy W) => (show W.cell? ⟨ab, 0, none⟩ = some (ptV x.wb) ∧ W.cell? ⟨ab, 1, none⟩ = some (inV x.id) ∧ W.cell? ⟨tb, 0, none⟩ = some (inV (k : Int)) ∧ W.cell? ⟨g, off + k * 3, none⟩ = some (ptV (P.2 i)) ∧ W.cell? ⟨g, off + k * 3 + 2, none⟩ = some (inV val) from ⟨xc0 (Hay.out.fr hW hab), xc1 (Hay.out.fr hW hab), hW.cell (fun a => by have := hnS tb a; omega) p0, hW.cell (fun a => by have := hnS g a; omega) r0, hW.cell (fun a => by have := hnS g a; omega) r2⟩))
          clear H3 hsub3 hpk3 F3 hb3 hsl3 hT hrd3 hsly hcsy hc hq hx e1 hwk e3 hNX0
          go_wp2_with fail
          have hf0 : Fr Nob wy wy := Fr.refl _ _
          go_region_held3 (fun W => W.cell? ⟨ab, 0, none⟩ = some (ptV x.wb) ∧ W.cell? ⟨ab, 1, none⟩ = some (inV x.id) ∧ W.cell? ⟨tb, 0, none⟩ = some (inV (k : Int)) ∧ W.cell? ⟨g, off + k * 3, none⟩ = some (ptV (P.2 i)) ∧ W.cell? ⟨g, off + k * 3 + 2, none⟩ = some (inV val))
            ((refine KT.out _ ?_; first | with_reducible exact hfz | with_reducible exact hf0.drew.none | exact hf0.drew.none))
            ((first
              | (go_at_call 77; refine (HW.out wy.drew hf0.drew).mono ?_; rintro e wz ⟨rfl, hnz⟩; have hfz : Fr S wy wz := hnz.choose_spec.1; have NXZ := Lib.hid hnz; clear hnz)
              | (go_at_call 78; refine (HH.out wy.drew hf0.drew).mono ?_; rintro e w8 ⟨rfl, rfl⟩)))
          all_goals
            have az0 := xc0 (Hay.out.fr hfz hab)
            clear p0 r0 r1 r2
            go_wp2_with fail
            refine (NXZ.out.wake lw nw Hnw.out Hwk.out Hsl.out (fun k a b => by have := (HT.out k b).1; have := hnS k a; omega) (fun k b => (HT.out k b).2) (by omega)).mono ?_
            rintro e wq ⟨rfl, hnq⟩
            have NXQ := Lib.hid hnq
            clear hnq az0
            go_wp2_with fail
            go_end0
            refine ⟨rfl, ?_⟩
            rw [E3.out]
            obtain ⟨S', f', a', s'⟩ := NXQ.out
            exact ⟨S', Hfr.out.trans f' (fun k _ q => .inl q), a'.mono (by omega) (by omega), fun k q => (s' k q).imp (fun q => q) fun q => by have : wy.heap.size ≤ k := q; have := Hfr.out.size; omega, (by have q := (Hay.out.fr f' hab); rw [E1.out] at q; exact q)⟩
end
theorem actChoose_some {st s : WS} {id : Nat} {y : Ins} {r : Nat → Int} {draw : Int} {o : Option (Nat → Int)} (h : st.actChoose id y r draw = some (s, o)) :
    ∃ l, st.cases r y.2.2.1 = some l ∧ (∀ x ∈ l, (x.2.1 && muteC st.ch x) = false) ∧
      (((∀ x ∈ l, canC st.ch x = false) ∧ ((y.2.2.2 = true ∧ s = st ∧ o = some (updR r y.1.2.1.toNat (-1))) ∨ (y.2.2.2 = false ∧ s = { st with ch := parkF (id : Int) l 0 st.ch } ∧ o = none))) ∨
       ∃ (m j k i : Nat) (x : Cs) (c : ChS), (rdy (fun k => canC st.ch (l.getD k (none, false, 0))) l.length).length = m ∧ 0 < m ∧ draw % (m : Int) = (j : Int) ∧ j < m ∧ (rdy (fun k => canC st.ch (l.getD k (none, false, 0))) l.length)[j]? = some (k : Int) ∧ k < l.length ∧ l[k]? = some x ∧ x.1 = some i ∧ st.ch i = some c ∧ (oneR c x).2.2.1 = false ∧
         ((x.2.1 = true ∧ ({ st with ch := Go.Proofs.YtcffplgimbbflaaGreat.upd st.ch i (some (oneS c x)) } : WS).wakes (oneR c x).2.2.2 = some s ∧ o = some (updR r y.1.2.1.toNat k)) ∨
          (x.2.1 = false ∧ ({ st with ch := Go.Proofs.YtcffplgimbbflaaGreat.upd st.ch i (some (oneS c x)) } : WS).take (updR r y.1.2.1.toNat k) y.1.2.2.1.toNat y.1.2.2.2.toNat (oneR c x).1 (oneR c x).2.1 (oneR c x).2.2.2 = some (s, o)))) := by
  unfold WS.actChoose at h
  split at h
  · cases h
  · next l hl =>
    split at h
    · cases h
    · next hmu =>
      have hmu' : ∀ x ∈ l, (x.2.1 && muteC st.ch x) = false := fun x hx => by
        cases e : (x.2.1 && muteC st.ch x)
        · rfl
        · exact absurd (List.any_eq_true.2 ⟨x, hx, e⟩) hmu
      refine ⟨l, hl, hmu', ?_⟩
      split at h
      · next hr =>
        left
        refine ⟨fun x hx => ?_, ?_⟩
        · obtain ⟨k, hk, he⟩ := List.mem_iff_getElem.1 hx
          have := rdy_nil hr k hk
          simpa [List.getD, hk, he] using this
        · split at h
          · next hd => cases h; exact .inl ⟨hd, rfl, rfl⟩
          · next hd => cases h; exact .inr ⟨by simpa using hd, rfl, rfl⟩
      · next q hq =>
        right
        generalize hrd : rdy (fun k => canC st.ch (l.getD k (none, false, 0))) l.length = R at h hq
        have hm0 : 0 < R.length := List.length_pos_iff.2 hq
        dsimp only at h
        have hj0 : 0 ≤ draw % (R.length : Int) := Int.emod_nonneg _ (by omega)
        have hjl : draw % (R.length : Int) < R.length := Int.emod_lt_of_pos _ (by omega)
        obtain ⟨j, hj⟩ : ∃ j : Nat, draw % (R.length : Int) = (j : Int) := ⟨_, (Int.toNat_of_nonneg hj0).symm⟩
        have hjm : j < R.length := by omega
        rw [hj, Int.toNat_natCast] at h
        obtain ⟨z, hz⟩ : ∃ z, R[j]? = some z := ⟨R[j], by simp [hjm]⟩
        have hz2 := hz
        rw [← hrd] at hz2
        obtain ⟨k, rfl, hkl, hkc⟩ := rdy_get hz2
        have e1 : R.getD j 0 = (k : Int) := by simp [List.getD, hz]
        rw [e1, Int.toNat_natCast] at h
        split at h
        · cases h
        · next x hx =>
          split at h
          · cases h
          · next i hi =>
            split at h
            · cases h
            · next c hc =>
              split at h
              · cases h
              · next hpn =>
                refine ⟨R.length, j, k, i, x, c, rfl, hm0, hj, hjm, hz, hkl, hx, hi, hc, by simpa using hpn, ?_⟩
                split at h
                · next hs =>
                  split at h
                  · cases h
                  · next s1 h1 => cases h; exact .inl ⟨hs, h1, rfl⟩
                · next hs => exact .inr ⟨by simpa using hs, h⟩
theorem parkF_some (t : Int) : ∀ (l : List Cs) (k : Nat) (P : Nat → Option ChS) (i : Nat), (parkF t l k P i).isSome = (P i).isSome
  | [], _, _, _ => rfl
  | x :: l, k, P, i => by unfold parkF; rw [parkF_some t l (k + 1) _ i, stepF_some]
/-- The pool has grown. -/
theorem WP.poolG {w w' : World} {F : Nat → Nat → Prop} {c : Cfg} {P : Pg} {st : WS} {nd nm : Nat} (h : WP H0 w F c P st nd nm) (hf : Fr (F 11) w w') {T : Nat → Prop} {P' : Nat → Option ChS} (hp : Pool w' T c.B P') (hlt : ∀ k, T k → k < w'.heap.size) (hT : ∀ k, T k → F 11 k ∨ w.heap.size ≤ k) (hchn : ∀ i, (P' i).isSome = decide (i < st.nch)) : WP H0 w' (Go.Proofs.YtcffplgimbbflaaGreat.upd F 11 T) c P { st with ch := P' } nd nm ∧ ∀ k, Un (Go.Proofs.YtcffplgimbbflaaGreat.upd F 11 T) k → Un F k ∨ w.heap.size ≤ k := by
  have h' := h.part 11 hf
  exact ⟨⟨fam_lt h.lt hf.size hlt, fam_dis h.lt h.dis hT, h'.own0, h'.own1, fun _ => h'.blk (by decide), fun _ => h'.clk (by decide), fun _ => h'.tab (by decide), fun _ => h'.chs (by decide), fun _ => h'.tim (by decide), fun _ => h'.ctx (by decide), fun _ => h'.dls (by decide), fun _ => h'.lks (by decide), fun _ => h'.prg (by decide), fun _ => h'.evs (by decide), fun _ => h'.cas (by decide), fun _ => hp, hchn, h'.tml, h'.cxl, h'.pad⟩, fam_un (fun p k q => ⟨p, q⟩) hT⟩
section
variable {w : World} {S : Nat → Prop} {F : Nat → Nat → Prop} {c : Cfg} {P : Pg} {st : WS} {nd nm : Nat} (h : WP H0 w F c P st nd nm) (hS : ∀ k, S k ↔ Un F k) {ab : Nat} {x : Ax} (hwb : c.wb = x.wb) (ha : ActAt w ab x x.u 0 false) (hab : ¬ S ab)
include h hS hwb ha hab
theorem act_choose {id : Nat} {y : Ins} (hx : AxOf x id y) (hreg : regsOk y = true) (h8 : y.1.1 = 15) (hfew : st.few = true) (hnd : nd ≤ 100000000000) (hins : InsOk w y) (h16 : y.2.2.1.length ≤ 16) (hcs : ∀ z ∈ y.2.2.1, csB z = true) {s : WS} {o : Option (Nat → Int)} (hs : st.actChoose id y x.u x.draw = some (s, o)) :
    Calls Tryz.prog 88 #[ptV ab] w fun e w' => e = .returned (.tuple #[]) ∧ Ay w S ab x P s (nd + 2000) nm o w' := by
  obtain ⟨A, hA, hyA, hyBC⟩ := regs_of hreg
  obtain ⟨B, C, hB, hC, hyB, hyC⟩ := hyBC (by omega) (by omega)
  have tn : ∀ n : Nat, (n : Int).toNat = n := fun n => by omega
  obtain ⟨l, hl, hmu, hcase⟩ := actChoose_some hs
  have hln := (cases_get hl).1
  have hok := cases_ok h.chn hl
  have hrd : Rd w 3 x.cv y.2.2.1.length (y.2.2.1.flatMap icsEn) := by rw [hx.cv]; exact hins
  have hid0 : 0 ≤ x.id := by rw [hx.id]; omega
  have h11 := fun W (hW : Fr Nob w W) => ((h.fr0 hW).lt 11)
  rw [hyA, hyB, hyC, tn, tn, tn] at hcase
  have go := fun ri rv ok pk lw nw hnw hlw st1 hnch hcase hDo => act_choose_any h hS hwb ha hab A B C hA hB hC (hx.a.trans hyA) (hx.b.trans hyB) (hx.c.trans hyC) (by omega) y.2.2.1 y.2.2.1.length rfl h16 hrd hcs hl hnd ri rv ok pk lw nw hnw hlw (st1 := st1) (s := s) (o := o) hnch hcase hDo
  rcases hcase with ⟨hno, ⟨hd, hs1, ho⟩ | ⟨hd, hs1, ho⟩⟩ | ⟨m, j, k, i, z, cc, hm, hm0, hj, hjm, hk, hkn, hz, hzi, hi, hpn, hc2⟩
  · refine go (-1) 0 false false [] 0 rfl (by omega) st rfl (.inr (.inl ⟨rfl, rfl, hs1, ho⟩)) fun W v T hW hT hsl => ?_
    rw [show x.d = true by rw [hx.d, hd]]
    refine (do_default ((h.fr0 hW).pool (fun q => q)) (h11 W hW) v l _ hln hsl.rd hok hmu hno h16 x.draw x.id hid0).mono ?_
    rintro e w2 ⟨A2, cp, he, hf, hp, hs⟩
    exact ⟨A2, cp, F, he, hf, (h.fr0 hW).pool0 hf hp h.chn, fun k q => .inl q, fun _ => rfl, hs⟩
  · refine go (-1) 0 false true [] 0 rfl (by omega) { st with ch := parkF (id : Int) l 0 st.ch } rfl (.inl ⟨rfl, hs1, ho⟩) fun W v T hW hT hsl => ?_
    rw [show x.d = false by rw [hx.d, hd]]
    have hfw : Few st.ch 1000 := fun i c hi => by
      have hlt : i < st.nch := by have := h.chn i; rw [hi] at this; simpa using this.symm
      have := few_of hfew hlt hi
      omega
    refine (do_park ((h.fr0 hW).pool (fun q => q)) (h11 W hW) v l _ hln T hsl (fun k a b => by have := h.lt 11 k a; have := (hT k b).1; omega) (fun k b => (hT k b).2) hok hmu hno hfw h16 x.draw x.id hid0).mono ?_
    rintro e w2 ⟨A2, cp, he, hf, hp, hs⟩
    rw [hx.id] at hp
    have hf' : Fr (F 11) W w2 := hf
    have hz := hf'.size
    obtain ⟨g1, g2⟩ := (h.fr0 hW).poolG hf' hp (fun k q => by rcases q with q | q; have := (h.fr0 hW).lt 11 k q; omega; exact q.2) (fun k q => q.imp (fun q => q) fun q => q.1) (fun i => by rw [parkF_some]; exact h.chn i)
    exact ⟨A2, cp, _, he, hf', g1, g2, (fun q => by cases q), hs⟩
  · obtain ⟨zo, zb, zv⟩ := z
    dsimp only at hzi
    subst hzi
    have hin : i < st.nch := by have := h.chn i; rw [hi] at this; simpa using this.symm
    have hkn' : k < y.2.2.1.length := by omega
    rcases hq : oneR cc (some i, zb, zv) with ⟨rv, ok, pn, lw⟩
    rw [hq] at hpn hc2
    dsimp only at hpn hc2
    subst hpn
    have hlw : lw.length < 1000 := by
      rcases hc2 with ⟨_, hw, _⟩ | ⟨_, ht⟩
      · exact (wakes_some hw).1
      · unfold WS.take at ht
        split at ht
        · cases ht
        · next s1 hw => exact (wakes_some hw).1
    refine go (k : Int) rv ok false lw lw.length rfl hlw { st with ch := Go.Proofs.YtcffplgimbbflaaGreat.upd st.ch i (some (oneS cc (some i, zb, zv))) } rfl ?_ fun W v T hW hT hsl => ?_
    · rcases hc2 with ⟨hb, hw, ho⟩ | ⟨hb, ht⟩
      · subst hb
        exact .inr (.inr (.inr ⟨rfl, k, i, zv, rfl, hkn', hz, hin, (wakes_some hw).2, ho⟩))
      · subst hb
        exact .inr (.inr (.inl ⟨rfl, k, i, zv, _, rfl, hkn', hz, hin, upd_same _ _ _, ht⟩))
    · rw [hln] at hm hk
      refine (do_ready ((h.fr0 hW).pool (fun q => q)) (h11 W hW) v l _ hln hsl.rd hok hmu (fun k => canC st.ch (l.getD k (none, false, 0))) (fun k x hx => by simp [List.getD, hx]) h16 x.d x.draw x.id hid0 m j k i (some i, zb, zv) hm hm0 hj hjm hk hkn' hz rfl hi rv ok false lw lw.length hq rfl rfl).mono ?_
      rintro e w2 ⟨A2, cp, he, hf, hp, hs⟩
      exact ⟨A2, cp, F, he, hf, (h.fr0 hW).pool0 hf hp (chn_upd h.chn hi _), fun k q => .inl q, fun _ => rfl, hs⟩
end
/-- A context's cells. -/
theorem CxP.item {w : World} {S : Nat → Prop} {b tmb trb mb : Nat} {ST SL : Nat → Prop} {v : Value} {l : List CxR} {n : Nat} {ns : List Nd} {nm : Nat} (h : CxP w S b tmb trb mb ST SL v l n ns nm) (i : Nat) (x : CxR) (hi : l[i]? = some x) : ∃ g off cp, v = .slice (some ⟨g, off, none⟩) n cp ∧ SL g ∧ g < w.heap.size ∧ i < n ∧ n ≤ cp ∧ cp ≤ maxLen ∧ (w.cell? ⟨g, off + i * 9, none⟩ = some (.int .i64 (x.node : Int)) ∧ w.cell? ⟨g, off + i * 9 + 1, none⟩ = some (.bool x.free) ∧ w.cell? ⟨g, off + i * 9 + 2, none⟩ = some (.pointer (ptrO x.cb)) ∧ w.cell? ⟨g, off + i * 9 + 3, none⟩ = some (.int .i64 x.err) ∧ w.cell? ⟨g, off + i * 9 + 4, none⟩ = some (.int .i64 x.cause) ∧ w.cell? ⟨g, off + i * 9 + 5, none⟩ = some (.int .i64 x.when') ∧ w.cell? ⟨g, off + i * 9 + 6, none⟩ = some (.bool x.has) ∧ w.cell? ⟨g, off + i * 9 + 7, none⟩ = some (.bool x.own) ∧ w.cell? ⟨g, off + i * 9 + 8, none⟩ = some (.int .i64 (-1))) ∧ ∀ j, w.frozen? ⟨g, j, none⟩ = false := by
  have hin : i < n := by rw [← h.len]; exact (List.getElem?_eq_some_iff.1 hi).1
  obtain ⟨g, off, cp, hv, hg, hgl, hc1, hc2, hc, hfz⟩ := h.sl.form (by omega)
  have q0 := hc _ _ ((cxs_get l i 0 x hi (by omega)).trans rfl)
  have q1 := hc _ _ ((cxs_get l i 1 x hi (by omega)).trans rfl)
  have q2 := hc _ _ ((cxs_get l i 2 x hi (by omega)).trans rfl)
  have q3 := hc _ _ ((cxs_get l i 3 x hi (by omega)).trans rfl)
  have q4 := hc _ _ ((cxs_get l i 4 x hi (by omega)).trans rfl)
  have q5 := hc _ _ ((cxs_get l i 5 x hi (by omega)).trans rfl)
  have q6 := hc _ _ ((cxs_get l i 6 x hi (by omega)).trans rfl)
  have q7 := hc _ _ ((cxs_get l i 7 x hi (by omega)).trans rfl)
  have q8 := hc _ _ ((cxs_get l i 8 x hi (by omega)).trans rfl)
  rw [Nat.add_zero] at q0
  rw [← Nat.add_assoc] at q1 q2 q3 q4 q5 q6 q7 q8
  exact ⟨g, off, cp, hv, hg, hgl, hin, hc1, hc2, ⟨q0, q1, q2, q3, q4, q5, q6, q7, q8⟩, hfz⟩
theorem CxOk.get {B : Nat → Nat} {n : Nat} {cxr : List CxR} {cx : List CxS} (h : CxOk B n cxr cx) {i : Nat} {x : CxS} (hi : cx[i]? = some x) : cxr[i]? = some (toR B x) := by rw [h.1, List.getElem?_map, hi]; rfl
theorem CxOk.snoc {B : Nat → Nat} {n b : Nat} {cxr : List CxR} {cx : List CxS} (h : CxOk B n cxr cx) (m : Nat) (t : Int) (d : Bool) : CxOk (Go.Proofs.YtcffplgimbbflaaGreat.upd B n b) (n + 1) (cxr ++ [⟨m, false, some b, 0, 0, t, d, false⟩]) (cx ++ [⟨m, false, some n, 0, 0, t, d, false⟩]) := by
  have h' := h.more (b := b)
  refine ⟨by rw [List.map_append, ← h'.1]; simp [toR, upd_same], fun x hx i hi => ?_⟩
  rcases List.mem_append.1 hx with q | q
  · exact h'.2 x q i hi
  · simp at q; subst q; cases hi; exact Nat.lt_succ_self _
theorem CxOk.len {B : Nat → Nat} {n : Nat} {cxr : List CxR} {cx : List CxS} (h : CxOk B n cxr cx) : cxr.length = cx.length := by rw [h.1, List.length_map]
theorem CxOk.set {B : Nat → Nat} {n : Nat} {cxr : List CxR} {cx : List CxS} (h : CxOk B n cxr cx) (i : Nat) (x : CxS) (hx : cx[i]? = some x) (err cause : Int) : CxOk B n (cxr.set i { toR B x with err := err, cause := cause }) (cx.set i { x with err := err, cause := cause }) := by
  refine ⟨by rw [List.map_set, ← h.1]; rfl, fun y hy j hj => ?_⟩
  rcases List.mem_or_eq_of_mem_set hy with q | q
  · exact h.2 y q j hj
  · subst q; exact h.2 x (List.mem_of_getElem? hx) j hj
end Go.Proofs.YtcffplgimbbflaaGreat
