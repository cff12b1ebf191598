/- Who waits on a channel, from outside; what two laws need. -/
import Derived.Test.YtcffplgimbbflaaGreatSlQ23
set_option linter.unusedVariables false
set_option linter.unusedSimpArgs false
namespace Go.Proofs.YtcffplgimbbflaaGreat
open Go.RowKit
set_option maxRecDepth 100000
abbrev fv7 (v0 v1 v2 v3 v4 : Int) (A : Option Addr) (n cp : Nat) (v6 : Bool) : Array Value := #[inV v0, inV v1, inV v2, inV v3, inV v4, .slice A n cp, .bool v6]
theorem info_fired7 (v0 v1 v2 v3 v4 : Int) (A : Option Addr) (n cp : Nat) (v6 : Bool) : (Tryz.prog.info? 126).map (fun i => i.size) = some (fv7 v0 v1 v2 v3 v4 A n cp v6).size := by show _ = some 7; kernel_rfl
theorem fv7_one (v0 v1 v2 v3 v4 : Int) (A : Option Addr) (n cp : Nat) (v6 : Bool) : (fv7 v0 v1 v2 v3 v4 A n cp v6).all (fun v => v.oneCell') = true := by simp [fv7, Value.oneCell']
/-- Behind a question for what is due. -/
def FireQ (w : World) (S : Nat → Prop) (wb : Nat) (P : Pg) (nd nm : Nat) (s : WS) (k : Nat) (v0 v1 v2 v4 : Int) (A : Option Addr) (n cp : Nat) (ok : Bool) (w' : World) (S' : Nat → Prop) : Prop :=
  Fr S w w' ∧ (∀ q, S' q → S q ∨ w.heap.size ≤ q) ∧
  ((ok = false ∧ WAt w' S' wb P s nd nm) ∨ (ok = true ∧ ∃ (st s3 sF : WS) (i : Nat) (j : Nat) (gen : Int) (lw : List Wk) (T : Nat → Prop), v0 = (i : Int) ∧ Due st s3 sF i v1 v4 j gen v2 lw ∧ lw.length = n ∧ WAt w' S' wb P sF nd nm ∧ Sl w' T 225 5 (.slice A n cp) n (wks lw) ∧ (∀ q, T q → q < w'.heap.size) ∧ (∀ q, T q → w.heap.size ≤ q) ∧ (∀ q, S' q → T q → False) ∧ s3.fires k = some s))
theorem WAt.ask {w : World} {S : Nat → Prop} {wb : Nat} {P : Pg} {st s : WS} {nd nm k : Nat} (h : WAt w S wb P st nd nm) (hf : st.fires (k + 1) = some s) (hnm : nm < 700000) :
    ∃ mb : Nat, (∀ W, Fr Nob w W → W.cell? ⟨wb, 5, none⟩ = some (ptV mb)) ∧ ∀ W, Fr Nob w W → Calls Tryz.prog 51 #[ptV mb, inV st.now] W fun e w' => ∃ (v0 v1 v2 v3 v4 : Int) (A : Option Addr) (n cp : Nat) (v6 ok : Bool) (S' : Nat → Prop), e = .returned (.tuple #[.agg (fv7 v0 v1 v2 v3 v4 A n cp v6), .bool ok]) ∧ w'.cell? ⟨wb, 5, none⟩ = some (ptV mb) ∧ FireQ W S wb P nd (nm + 9) s k v0 v1 v2 v4 A n cp ok w' S' := by
  simp only [WS.fires] at hf
  split at hf
  · cases hf
  · next hn =>
    cases hf
    obtain ⟨mb, h1, h2⟩ := h.tfire0 hn
    refine ⟨mb, h1, fun W hW => (h2 W hW).mono ?_⟩
    rintro e w' ⟨rfl, hf⟩
    exact ⟨0, 0, 0, 0, 0, none, 0, 0, false, false, S, rfl, h1 w' (hW.trans0 hf), hf.none, fun q a => .inl a, .inl ⟨rfl, ((h.fr0 hW).fr0 hf).mono (by omega) (by omega)⟩⟩
  · next s3 hs =>
    obtain ⟨mb, i, kind, data, j, gen, when', lw, n, kept, sF, hdue, hln, h1, h2⟩ := h.tfire hs hnm
    refine ⟨mb, h1, fun W hW => (h2 W hW).mono ?_⟩
    rintro e w' ⟨A, cp, S', T, rfl, hfw, ha, hsub, hsl, hT, hdT, hc⟩
    exact ⟨(i : Int), kind, when', st.now, data, A, n, cp, kept, true, S', rfl, hc, hfw, hsub, .inr ⟨rfl, st, s3, sF, i, j, gen, lw, fun q => T q ∧ q < w'.heap.size, rfl, hdue, hln, ha, hsl.mono fun q a b => ⟨b, a⟩, fun q a => a.2, fun q a => hT q a.1, fun q a b => hdT q a b.1, hf⟩⟩
def leastP (p : Nat → Prop) (m : Nat) : Prop := p m ∧ ∀ k, p k → m ≤ k
theorem least_ex (p : Nat → Prop) (h : ∃ m, p m) : ∃ m, leastP p m := by
  obtain ⟨m, hm⟩ := h
  revert hm
  induction m using Nat.strongRecOn with
  | _ m ih =>
    intro hm
    by_cases q : ∃ k, k < m ∧ p k
    · obtain ⟨k, hk, hp⟩ := q; exact ih k hk hp
    · exact ⟨m, hm, fun k hk => Nat.not_lt.1 fun e => q ⟨k, e, hk⟩⟩
/-- Where the loop begins anew. -/
def AdvR (w : World) (S : Nat → Prop) (wb : Nat) (P : Pg) (nd nm : Nat) (s : WS) (p5 p4 : Value) (wr : World) (m : Nat) : Prop :=
  ∃ (fb k : Nat) (v0 v1 v2 v3 v4 : Int) (A : Option Addr) (n cp : Nat) (v6 ok : Bool) (S' : Nat → Prop), p4 = ptV fb ∧ p5 = .bool ok ∧ wr.heap[fb]? = some (.cells (fv7 v0 v1 v2 v3 v4 A n cp v6) 126 (0, 0)) ∧ ¬ S fb ∧ w.heap.size ≤ fb ∧ ¬ S' fb ∧ k ≤ 8 ∧ m = (if ok then k + 1 else 0) ∧ FireQ w S wb P (nd + (8 - k) * 1001) (nm + (9 - k) * 9) s k v0 v1 v2 v4 A n cp ok wr S'
theorem lt_of_cell {w : World} {b o : Nat} {v : Value} (h : w.cell? ⟨b, o, none⟩ = some v) : b < w.heap.size := by
  apply Classical.byContradiction
  intro q
  unfold World.cell? at h
  rw [Array.getElem?_eq_none (show w.heap.size ≤ b by omega)] at h
  cases h
/-- What a question told lies in a block: the loop begins. -/
theorem adv_in {w w1 W w6 w8 : World} {S S1 S' : Nat → Prop} {wb : Nat} {P : Pg} {st s : WS} {nd nm : Nat} {k : Nat} {v0 v1 v2 v3 v4 : Int} {A : Option Addr} {n cp : Nat} {v6 ok : Bool} {fb : Nat} (hf1 : Fr S w w1) (ha1 : WAt w1 S1 wb P st (nd + (8 - k) * 1001) (nm + (8 - k) * 9)) (hs1 : ∀ q, S1 q → S q ∨ w.heap.size ≤ q) (hSlt : ∀ q, S q → q < w.heap.size) (hW : Fr Nob w1 W)
    (hq : FireQ W S1 wb P (nd + (8 - k) * 1001) (nm + (8 - k) * 9 + 9) s k v0 v1 v2 v4 A n cp ok w6 S') (hf8 : Fr (fun q => q = fb) w6 w8) (hb8 : w8.heap[fb]? = some (.cells (fv7 v0 v1 v2 v3 v4 A n cp v6) 126 (0, 0))) (hb1 : ¬ S1 fb) (hfb : fb < W.heap.size ∨ w6.heap.size ≤ fb) (hfw : w1.heap.size ≤ fb) (hk : k ≤ 8 := by omega) :
    AdvR w S wb P nd nm s (.bool ok) (ptV fb) w8 (if ok then k + 1 else 0) := by
  obtain ⟨h1, h2, h3⟩ := hq
  have hz1 := hf1.size; have hz2 := hW.size; have hz3 := h1.size
  have hS' : ∀ q, S' q → q ≠ fb := fun q a e => by
    rcases hfb with b | b
    · rcases h2 q a with c | c
      · exact hb1 (by rw [← e]; exact c)
      · omega
    · have : q < w6.heap.size := by rcases h3 with ⟨_, c⟩ | ⟨_, _, _, _, _, _, _, _, _, _, _, _, c, _⟩ <;> exact c.lt q a
      omega
  have hfr : Fr S w w8 := ((hf1.trans hW (fun _ _ q => q.elim)).trans h1 fun q hq a => by rcases hs1 q a with c | c; exact c; omega).trans hf8 fun q hq a => by omega
  refine ⟨fb, k, v0, v1, v2, v3, v4, A, n, cp, v6, ok, S', rfl, rfl, hb8, fun q => by have := hSlt _ q; omega, by omega, fun q => hS' _ q rfl, hk, rfl, hfr, fun q a => ?_, ?_⟩
  · rcases h2 q a with c | c
    · exact hs1 q c
    · exact .inr (by omega)
  · rw [show nm + (9 - k) * 9 = nm + (8 - k) * 9 + 9 by omega]
    rcases h3 with ⟨e, c⟩ | ⟨e, st, s3, sF, i, j, gen, lw, T, e0, hdue, hln, c, hsl, hT1, hT2, hT3, hrest⟩
    · exact .inl ⟨e, c.fr hf8 hS'⟩
    · have hTb : ∀ q, T q → q ≠ fb := fun q a e => by
        rcases hfb with b | b
        · have := hT2 q a; omega
        · have := hT1 q a; omega
      exact .inr ⟨e, st, s3, sF, i, j, gen, lw, T, e0, hdue, hln, c.fr hf8 hS', hsl.fr hf8 hTb, fun q a => by have := hT1 q a; have := hf8.size; omega, fun q a => by have := hT2 q a; omega, hT3, hrest⟩
set_option maxHeartbeats 4000000 in
theorem world_advance {w : World} {S : Nat → Prop} {wb : Nat} {P : Pg} {st : WS} {nd nm : Nat} (h : WAt w S wb P st nd nm) (d : Int) (hd : 0 ≤ d) {s : WS} (hs : ({ st with now := addT st.now d } : WS).fires 9 = some s) (hnd : nd ≤ 90000000000) (hnm : nm < 690000) :
    Calls Tryz.prog 29 #[ptV wb, inV d] w fun e w' => e = .returned (.tuple #[]) ∧ Nx w S wb P s (nd + 10000) (nm + 100) w' := by
  have hwlt := h.lt
  obtain ⟨cb, c1, hcl⟩ := h.tclock d hd
  have Hcl := Lib.hid hcl; have Hs := Lib.hid hs; have Hwlt := Lib.hid hwlt
  clear h hcl hs hwlt
  go_enter Tryz.func29, Tryz.ntmps29
  go_wp2_with fail
  refine Hcl.out.mono ?_
  rintro e w1 ⟨rfl, S1, hf1, ha1, hs1⟩
  obtain ⟨mb, hmb, hask⟩ := ha1.ask Hs.out (by omega)
  have Hn1 := Lib.hid hf1; have Ha1 : Hid (WAt w1 S1 wb P { st with now := addT st.now d } (nd + (8 - 8) * 1001) (nm + (8 - 8) * 9)) := Lib.hid ha1; have Hs1 := Lib.hid hs1; have Hmb := Lib.hid hmb; have Hask := Lib.hid hask
  have Hnow := Lib.hid (fun W (hW : Fr Nob w1 W) => world_now (ha1.fr0 hW))
  have Hw1S : Hid (¬ S1 w1.heap.size) := Lib.hid fun q => Nat.lt_irrefl _ (ha1.lt _ q)
  have Hwb1 : Hid (wb ≠ w1.heap.size) := Lib.hid fun e => by have := lt_of_cell (hmb w1 (Fr.refl _ _)); omega
  clear hf1 ha1 hs1 hmb hask c1
  go_wp2_with fail
  refine wp_region_held_drew (S := fun W => W.cell? ⟨wb, 5, none⟩ = some (ptV mb)) (by kernel_rfl) (Hmb.out _ (Fr.refl Nob w1).drew) (fun hHeld => ?_)
  refine wpAnyH_take (i := 0) (v := ?_) rfl (by kernel_rfl) (by kernel_rfl) (by kernel_rfl) (fun _ _ _ h => h) (Or.inl ⟨by rfl, ?_⟩) (by assumption) ?_
  rotate_left
  · intro w hSw; (try dsimp only at hSw); go_simp; try with_reducible rfl
  try simp only [List.getElem_toArray, List.getElem_cons_zero, List.getElem_cons_succ, Act.put, List.setIfInBounds_toArray, List.set_cons_zero, List.set_cons_succ]
  refine wpAnyH_take (i := 1) (v := ?_) rfl (by kernel_rfl) (by kernel_rfl) (by kernel_rfl) (fun _ _ _ h => h) (Or.inl ⟨by rfl, ?_⟩) (by assumption) ?_
  rotate_left
  · intro w hSw; (try dsimp only at hSw); go_simp; try with_reducible rfl
  try simp only [List.getElem_toArray, List.getElem_cons_zero, List.getElem_cons_succ, Act.put, List.setIfInBounds_toArray, List.set_cons_zero, List.set_cons_succ]
  refine wpAnyH_take (i := 2) (v := ?_) rfl (by kernel_rfl) (by kernel_rfl) (by kernel_rfl) (fun _ _ _ h => h) (Or.inl ⟨by rfl, ?_⟩) (by assumption) ?_
  rotate_left
  · intro w hSw; (try dsimp only at hSw); go_simp; try with_reducible rfl
  try simp only [List.getElem_toArray, List.getElem_cons_zero, List.getElem_cons_succ, Act.put, List.setIfInBounds_toArray, List.set_cons_zero, List.set_cons_succ]
  refine wpAnyH_take (i := 3) (v := ?_) rfl (by kernel_rfl) (by kernel_rfl) (by kernel_rfl) (fun _ _ _ h => h) (Or.inl ⟨by rfl, ?_⟩) (by assumption) ?_
  rotate_left
  · intro w hSw; (try dsimp only at hSw); go_simp; try with_reducible rfl
  try simp only [List.getElem_toArray, List.getElem_cons_zero, List.getElem_cons_succ, Act.put, List.setIfInBounds_toArray, List.set_cons_zero, List.set_cons_succ]
  refine wpAnyH_take (i := 4) (v := ?_) rfl (by kernel_rfl) (by kernel_rfl) (by kernel_rfl) (fun _ _ _ h => h) (Or.inl ⟨by rfl, ?_⟩) (by assumption) ?_
  rotate_left
  · intro w hSw; (try dsimp only at hSw); go_simp; try with_reducible rfl
  try simp only [List.getElem_toArray, List.getElem_cons_zero, List.getElem_cons_succ, Act.put, List.setIfInBounds_toArray, List.set_cons_zero, List.set_cons_succ]
  refine wpAnyH_ready (rs := [5, 10]) (by kernel_rfl) (by simp) ?_
  refine AllReadyH.cons rfl (fun K hK => ?_) (AllReadyH.cons rfl (fun K hK => ?_) AllReadyH.nil)
  focus
    try simp only [List.getElem_toArray, List.getElem_cons_zero, List.getElem_cons_succ]
    go_simp
    refine (Hnow.out _ (Fr.refl Nob w1).drew).mono ?_
    rintro e _ ⟨rfl, rfl⟩
    refine hK.out _ _ (Hmb.out _ (Fr.refl Nob w1).drew) (fun hHeld2 => ?_)
    clear hK K
    refine wpAnyH_ready (rs := [6, 10]) (by kernel_rfl) (by simp) ?_
    refine AllReadyH.cons rfl (fun K hK => ?_) (AllReadyH.cons rfl (fun K hK => ?_) AllReadyH.nil)
    focus
      try simp only [List.getElem_toArray, List.getElem_cons_zero, List.getElem_cons_succ]
      go_simp
      refine (Hask.out _ ((Fr.refl Nob w1).drew)).mono ?_
      rintro e w6 ⟨v0, v1, v2, v3, v4, A, n, cp, v6, ok, S', rfl, hc6, hq6⟩
      have hfr6 := hq6.1
      have Hq6 := Lib.hid hq6
      clear hq6
      refine hK.out _ _ hc6 (fun hHeld3 => ?_)
      clear hK K
      refine wpAnyH_take (i := 7) (v := ?_) rfl (by kernel_rfl) (by kernel_rfl) (by kernel_rfl) (fun _ _ _ h => h) (Or.inl ⟨by rfl, ?_⟩) (by assumption) ?_
      rotate_left
      · intro w hSw; (try dsimp only at hSw); go_simp; try with_reducible rfl
      try simp only [List.getElem_toArray, List.getElem_cons_zero, List.getElem_cons_succ, Act.put, List.setIfInBounds_toArray, List.set_cons_zero, List.set_cons_succ]
      refine wpAnyH_take (i := 8) (v := ?_) rfl (by kernel_rfl) (by kernel_rfl) (by kernel_rfl) (fun _ _ _ h => h) (Or.inl ⟨by rfl, ?_⟩) (by assumption) ?_
      rotate_left
      · intro w hSw; (try dsimp only at hSw); go_simp; try with_reducible rfl
      try simp only [List.getElem_toArray, List.getElem_cons_zero, List.getElem_cons_succ, Act.put, List.setIfInBounds_toArray, List.set_cons_zero, List.set_cons_succ]
      refine wpAnyH_take (i := 9) (v := ?_) rfl (by kernel_rfl) (by kernel_rfl) (by kernel_rfl) (fun _ _ _ h => h) (Or.inl ⟨by rfl, ?_⟩) (by assumption) ?_
      rotate_left
      · intro w hSw; (try dsimp only at hSw); go_simp; try with_reducible rfl
      try simp only [List.getElem_toArray, List.getElem_cons_zero, List.getElem_cons_succ, Act.put, List.setIfInBounds_toArray, List.set_cons_zero, List.set_cons_succ]
      refine wpAnyH_ready (rs := [10]) (by kernel_rfl) (by simp) ?_
      refine AllReadyH.cons rfl (fun K hK => ?_) AllReadyH.nil
      try simp only [List.getElem_toArray, List.getElem_cons_zero, List.getElem_cons_succ]
      go_simp
      have hc7 : (w6.alloc (.cells #[inV 0, inV 0, inV 0, inV 0, inV 0, .slice none 0 0, .bool false] 126)).cell? ⟨wb, 5, none⟩ = some (ptV mb) := ((Fr.refl Nob w6).alloc _).cell id hc6
      refine hK.out _ _ hc7 (fun hHeld4 => ?_)
      clear hK K
      refine wpAnyH_ready (rs := [11]) (by kernel_rfl) (by simp) ?_
      refine AllReadyH.cons rfl (fun K hK => ?_) AllReadyH.nil
      refine step_store_row _ rfl 126 (.tmp 4) (.tmp 20) rfl w6.heap.size (fv7 v0 v1 v2 v3 v4 A n cp v6) _ 126 rfl rfl (heap_alloc_new w6 _) rfl (info_fired7 v0 v1 v2 v3 v4 A n cp v6) (fv7_one v0 v1 v2 v3 v4 A n cp v6) fun w8 hb8 hf8 => ?_
      have hwb : wb ≠ w6.heap.size := fun e => by have := lt_of_cell hc6; omega
      have hc8 : w8.cell? ⟨wb, 5, none⟩ = some (ptV mb) := hf8.cell (fun e => hwb e) hc7
      refine hK.out _ _ (hc8) (fun hHeldZ => ?_)
      clear hK K
      have hR : AdvR w S wb P nd nm s (.bool ok) (ptV w6.heap.size) w8 (if ok then 8 + 1 else 0) := adv_in Hn1.out Ha1.out Hs1.out Hwlt.out ((Fr.refl Nob w1).drew) Hq6.out (((Fr.refl Nob w6).alloc _).none.trans hf8 fun k hk e => e) hb8 (by have := hfr6.size; show ¬ S1 _; exact fun q => by have := Ha1.out.lt _ q; have := hfr6.size; have : w1.heap.size ≤ w6.heap.size := this; omega) (.inr (Nat.le_refl _)) (by have := hfr6.size; have : w1.heap.size ≤ w6.heap.size := this; omega)
      generalize w6.heap.size = fb at hR ⊢
      have HR := Lib.hid hR
      clear hR
    rotate_left
    focus
      try simp only [List.getElem_toArray, List.getElem_cons_zero, List.getElem_cons_succ]
      go_simp
      refine hK.out _ _ (Hmb.out _ ((Fr.refl Nob w1).drew.alloc _)) (fun hHeld3 => ?_)
      clear hK K
      refine wpAnyH_ready (rs := [6]) (by kernel_rfl) (by simp) ?_
      refine AllReadyH.cons rfl (fun K hK => ?_) AllReadyH.nil
      try simp only [List.getElem_toArray, List.getElem_cons_zero, List.getElem_cons_succ]
      go_simp
      refine (Hask.out _ (((Fr.refl Nob w1).drew.alloc _))).mono ?_
      rintro e w6 ⟨v0, v1, v2, v3, v4, A, n, cp, v6, ok, S', rfl, hc6, hq6⟩
      have hfr6 := hq6.1
      have Hq6 := Lib.hid hq6
      clear hq6
      refine hK.out _ _ hc6 (fun hHeld4 => ?_)
      clear hK K
      refine wpAnyH_take (i := 7) (v := ?_) rfl (by kernel_rfl) (by kernel_rfl) (by kernel_rfl) (fun _ _ _ h => h) (Or.inl ⟨by rfl, ?_⟩) (by assumption) ?_
      rotate_left
      · intro w hSw; (try dsimp only at hSw); go_simp; try with_reducible rfl
      try simp only [List.getElem_toArray, List.getElem_cons_zero, List.getElem_cons_succ, Act.put, List.setIfInBounds_toArray, List.set_cons_zero, List.set_cons_succ]
      refine wpAnyH_take (i := 8) (v := ?_) rfl (by kernel_rfl) (by kernel_rfl) (by kernel_rfl) (fun _ _ _ h => h) (Or.inl ⟨by rfl, ?_⟩) (by assumption) ?_
      rotate_left
      · intro w hSw; (try dsimp only at hSw); go_simp; try with_reducible rfl
      try simp only [List.getElem_toArray, List.getElem_cons_zero, List.getElem_cons_succ, Act.put, List.setIfInBounds_toArray, List.set_cons_zero, List.set_cons_succ]
      refine wpAnyH_take (i := 9) (v := ?_) rfl (by kernel_rfl) (by kernel_rfl) (by kernel_rfl) (fun _ _ _ h => h) (Or.inl ⟨by rfl, ?_⟩) (by assumption) ?_
      rotate_left
      · intro w hSw; (try dsimp only at hSw); go_simp; try with_reducible rfl
      try simp only [List.getElem_toArray, List.getElem_cons_zero, List.getElem_cons_succ, Act.put, List.setIfInBounds_toArray, List.set_cons_zero, List.set_cons_succ]
      refine wpAnyH_ready (rs := [11]) (by kernel_rfl) (by simp) ?_
      refine AllReadyH.cons rfl (fun K hK => ?_) AllReadyH.nil
      refine step_store_row _ rfl 126 (.tmp 4) (.tmp 20) rfl w1.heap.size (fv7 v0 v1 v2 v3 v4 A n cp v6) _ 126 rfl rfl (hfr6.blk Hw1S.out (heap_alloc_new w1.drew _)) rfl (info_fired7 v0 v1 v2 v3 v4 A n cp v6) (fv7_one v0 v1 v2 v3 v4 A n cp v6) fun w8 hb8 hf8 => ?_
      have hwb : wb ≠ w1.heap.size := Hwb1.out
      have hc8 : w8.cell? ⟨wb, 5, none⟩ = some (ptV mb) := hf8.cell (fun e => hwb e) hc6
      refine hK.out _ _ (hc8) (fun hHeldZ => ?_)
      clear hK K
      have hR : AdvR w S wb P nd nm s (.bool ok) (ptV w1.heap.size) w8 (if ok then 8 + 1 else 0) := adv_in Hn1.out Ha1.out Hs1.out Hwlt.out ((Fr.refl Nob w1).drew.alloc _) Hq6.out (hf8.mono fun k _ e => e) hb8 Hw1S.out (.inl (by simp)) (by omega)
      generalize w1.heap.size = fb at hR ⊢
      have HR := Lib.hid hR
      clear hR
  rotate_left 2
  focus
    try simp only [List.getElem_toArray, List.getElem_cons_zero, List.getElem_cons_succ]
    go_simp
    refine hK.out _ _ (Hmb.out _ ((Fr.refl Nob w1).drew.alloc _)) (fun hHeld2 => ?_)
    clear hK K
    refine wpAnyH_ready (rs := [5]) (by kernel_rfl) (by simp) ?_
    refine AllReadyH.cons rfl (fun K hK => ?_) AllReadyH.nil
    try simp only [List.getElem_toArray, List.getElem_cons_zero, List.getElem_cons_succ]
    go_simp
    refine (Hnow.out _ ((Fr.refl Nob w1).drew.alloc _)).mono ?_
    rintro e _ ⟨rfl, rfl⟩
    refine hK.out _ _ (Hmb.out _ ((Fr.refl Nob w1).drew.alloc _)) (fun hHeld3 => ?_)
    clear hK K
    refine wpAnyH_ready (rs := [6]) (by kernel_rfl) (by simp) ?_
    refine AllReadyH.cons rfl (fun K hK => ?_) AllReadyH.nil
    try simp only [List.getElem_toArray, List.getElem_cons_zero, List.getElem_cons_succ]
    go_simp
    refine (Hask.out _ (((Fr.refl Nob w1).drew.alloc _))).mono ?_
    rintro e w6 ⟨v0, v1, v2, v3, v4, A, n, cp, v6, ok, S', rfl, hc6, hq6⟩
    have hfr6 := hq6.1
    have Hq6 := Lib.hid hq6
    clear hq6
    refine hK.out _ _ hc6 (fun hHeld4 => ?_)
    clear hK K
    refine wpAnyH_take (i := 7) (v := ?_) rfl (by kernel_rfl) (by kernel_rfl) (by kernel_rfl) (fun _ _ _ h => h) (Or.inl ⟨by rfl, ?_⟩) (by assumption) ?_
    rotate_left
    · intro w hSw; (try dsimp only at hSw); go_simp; try with_reducible rfl
    try simp only [List.getElem_toArray, List.getElem_cons_zero, List.getElem_cons_succ, Act.put, List.setIfInBounds_toArray, List.set_cons_zero, List.set_cons_succ]
    refine wpAnyH_take (i := 8) (v := ?_) rfl (by kernel_rfl) (by kernel_rfl) (by kernel_rfl) (fun _ _ _ h => h) (Or.inl ⟨by rfl, ?_⟩) (by assumption) ?_
    rotate_left
    · intro w hSw; (try dsimp only at hSw); go_simp; try with_reducible rfl
    try simp only [List.getElem_toArray, List.getElem_cons_zero, List.getElem_cons_succ, Act.put, List.setIfInBounds_toArray, List.set_cons_zero, List.set_cons_succ]
    refine wpAnyH_take (i := 9) (v := ?_) rfl (by kernel_rfl) (by kernel_rfl) (by kernel_rfl) (fun _ _ _ h => h) (Or.inl ⟨by rfl, ?_⟩) (by assumption) ?_
    rotate_left
    · intro w hSw; (try dsimp only at hSw); go_simp; try with_reducible rfl
    try simp only [List.getElem_toArray, List.getElem_cons_zero, List.getElem_cons_succ, Act.put, List.setIfInBounds_toArray, List.set_cons_zero, List.set_cons_succ]
    refine wpAnyH_ready (rs := [11]) (by kernel_rfl) (by simp) ?_
    refine AllReadyH.cons rfl (fun K hK => ?_) AllReadyH.nil
    refine step_store_row _ rfl 126 (.tmp 4) (.tmp 20) rfl w1.heap.size (fv7 v0 v1 v2 v3 v4 A n cp v6) _ 126 rfl rfl (hfr6.blk Hw1S.out (heap_alloc_new w1.drew _)) rfl (info_fired7 v0 v1 v2 v3 v4 A n cp v6) (fv7_one v0 v1 v2 v3 v4 A n cp v6) fun w8 hb8 hf8 => ?_
    have hwb : wb ≠ w1.heap.size := Hwb1.out
    have hc8 : w8.cell? ⟨wb, 5, none⟩ = some (ptV mb) := hf8.cell (fun e => hwb e) hc6
    refine hK.out _ _ (hc8) (fun hHeldZ => ?_)
    clear hK K
    have hR : AdvR w S wb P nd nm s (.bool ok) (ptV w1.heap.size) w8 (if ok then 8 + 1 else 0) := adv_in Hn1.out Ha1.out Hs1.out Hwlt.out ((Fr.refl Nob w1).drew.alloc _) Hq6.out (hf8.mono fun k _ e => e) hb8 Hw1S.out (.inl (by simp)) (by omega)
    generalize w1.heap.size = fb at hR ⊢
    have HR := Lib.hid hR
    clear hR
  all_goals
    refine wpAnyH_take (i := 12) (v := ?_) rfl (by kernel_rfl) (by kernel_rfl) (by kernel_rfl) (fun _ _ _ h => h) (Or.inl ⟨by rfl, ?_⟩) (by assumption) ?_
    rotate_left
    · intro w hSw; (try dsimp only at hSw); go_simp; try with_reducible rfl
    try simp only [List.getElem_toArray, List.getElem_cons_zero, List.getElem_cons_succ, Act.put, List.setIfInBounds_toArray, List.set_cons_zero, List.set_cons_succ]
    refine wpAnyH_done (by kernel_rfl) ?_ _
    try simp only [List.getElem_toArray, List.getElem_cons_zero, List.getElem_cons_succ, Act.put, List.setIfInBounds_toArray, List.set_cons_zero, List.set_cons_succ]
    go_wp2_with fail
    go_loopw [4, 5] (fun p4 p5 wr => ∃ m, Hid (AdvR w S wb P nd nm s p5 p4 wr m)) (fun p4 p5 wr => Classical.epsilon (leastP (fun m => AdvR w S wb P nd nm s p5 p4 wr m)))
    case atStart => exact ⟨_, HR⟩
    case round =>
      obtain ⟨m0, hr0⟩ := hrel
      obtain ⟨hm1, hm2⟩ := Classical.epsilon_spec (least_ex _ ⟨m0, hr0.out⟩)
      generalize hmm : Classical.epsilon (leastP (fun m => AdvR w S wb P nd nm s _ _ wr m)) = m at *
      have Hmm := Lib.hid hmm; have Hm2 := Lib.hid hm2
      obtain ⟨fb, k, v0, v1, v2, v3, v4, A, n, cp, v6, ok, S', rfl, rfl, hb, hbS, hbw, hbS', hk8, hm, hq⟩ := hm1
      clear hr0 hmm hm2 m0
      cases ok with
      | false =>
        obtain ⟨hf, hsub, hq⟩ := hq
        rcases hq with ⟨_, ha⟩ | ⟨e, _⟩
        · have hn : Nx w S wb P s (nd + 10000) (nm + 100) wr := ⟨S', hf, ha.mono (by omega) (by omega), hsub⟩
          have Hn := Lib.hid hn
          clear hf hsub ha hn hb
          go_wp2_with fail
          go_end0
          exact ⟨rfl, Hn.out⟩
        · cases e
      | true =>
        obtain ⟨hf, hsub, hq⟩ := hq
        rcases hq with ⟨e, _⟩ | ⟨_, st0, s3, sF, i, j, gen, lw, T, rfl, hdue, hln, ha, hsl, hT1, hT2, hT3, hrest⟩
        · cases e
        have hm' : m = k + 1 := hm
        obtain ⟨k', rfl⟩ : ∃ k', k = k' + 1 := by
          cases k with
          | zero => simp [WS.fires] at hrest
          | succ k' => exact ⟨k', rfl⟩
        have Hfire := Lib.hid (world_fire ha (i : Int) v1 v2 v3 v4 hdue.k3 hdue.k4 A n cp v6 lw hln rfl hdue.tm hsl hT3 hT1 hdue.ev hdue.wake (by have := hdue.few; omega))
        have Hb := Lib.hid hb; have Hf := Lib.hid hf; have Hsub := Lib.hid hsub; have Hrest := Lib.hid hrest; have HbS' := Lib.hid hbS'; have Hm := Lib.hid hm'; have HaS := Lib.hid ha.lt; have Hfew := Lib.hid hdue.few; have Hln := Lib.hid hln
        clear hb hf hsub hdue hln ha hsl hT1 hT2 hT3 hrest hm hm' hbS'
        go_wp2_with (refine wpList_load_row rfl 126 (.tmp 4) rfl fb rfl 126 (fv7 (i : Int) v1 v2 v3 v4 A n cp v6) (0, 0) _ Hb.out rfl rfl (info_fired7 _ _ _ _ _ _ _ _ _) ?_)
        refine Hfire.out.mono ?_
        rintro e w2 ⟨rfl, hn2⟩
        have hb2 := hn2.blk HbS'.out Hb.out
        obtain ⟨S2, hf2, ha2, hs2⟩ := hn2
        have Hb2 := Lib.hid hb2; have Hf2 := Lib.hid hf2; have Hs2 := Lib.hid hs2
        have Ha2 := Lib.hid (ha2.mono (show nd + (8 - (k' + 1)) * 1001 + 1 + n ≤ nd + (8 - k') * 1001 by have := Hfew.out; have := Hln.out; omega) (show nm + (9 - (k' + 1)) * 9 ≤ nm + (8 - k') * 9 by omega))
        clear hb2 hf2 ha2 hs2
        go_wp2_with (refine wpList_load_row rfl 126 (.tmp 4) rfl fb rfl 126 (fv7 (i : Int) v1 v2 v3 v4 A n cp v6) (0, 0) _ Hb2.out rfl rfl (info_fired7 _ _ _ _ _ _ _ _ _) ?_)
        obtain ⟨w3, hw3⟩ : ∃ w3, w3 = w2.alloc (.cells (fv7 (i : Int) v1 v2 v3 v4 A n cp v6) 126) := ⟨_, rfl⟩
        rw [← hw3]
        obtain ⟨fb2, hfb2⟩ : ∃ fb2, fb2 = w2.heap.size := ⟨_, rfl⟩
        rw [← hfb2]
        have hf23 : Fr Nob w2 w3 := by rw [hw3]; exact (Fr.refl Nob w2).alloc _
        have hb3 : w3.heap[fb2]? = some (.cells (fv7 (i : Int) v1 v2 v3 v4 A n cp v6) 126 (0, 0)) := by rw [hw3, hfb2]; exact heap_alloc_new _ _
        obtain ⟨mb2, hmb2, hask2⟩ := Ha2.out.ask Hrest.out (by omega)
        have Hmb3 := Lib.hid (fun W (hW : Fr Nob w3 W) => hmb2 W (hf23.trans0 hW)); have Hask3 := Lib.hid (fun W (hW : Fr Nob w3 W) => hask2 W (hf23.trans0 hW)); have Hnow3 := Lib.hid (fun W (hW : Fr Nob w3 W) => world_now (Ha2.out.fr0 (hf23.trans0 hW)))
        have hwb3 : wb ≠ fb2 := fun e => by have := lt_of_cell (hmb2 w2 (Fr.refl _ _)); omega
        have hfb2S : ¬ S2 fb2 := fun q => by have := Ha2.out.lt _ q; omega
        have Hb3 := Lib.hid hb3; have Hf23 := Lib.hid hf23; have Hwb3 := Lib.hid hwb3; have Hfb2S := Lib.hid hfb2S; have Hfb2 := Lib.hid hfb2
        clear hw3 hfb2 hf23 hb3 hmb2 hask2 hwb3 hfb2S
        refine wp_region_held_drew (S := fun W => W.cell? ⟨wb, 5, none⟩ = some (ptV mb2)) (by kernel_rfl) (Hmb3.out _ (Fr.refl Nob w3).drew) (fun hHeld => ?_)
        refine wpAnyH_take (i := 0) (v := ?_) rfl (by kernel_rfl) (by kernel_rfl) (by kernel_rfl) (fun _ _ _ h => h) (Or.inl ⟨by rfl, ?_⟩) (by assumption) ?_
        rotate_left
        · intro w hSw; (try dsimp only at hSw); go_simp; try with_reducible rfl
        try simp only [List.getElem_toArray, List.getElem_cons_zero, List.getElem_cons_succ, Act.put, List.setIfInBounds_toArray, List.set_cons_zero, List.set_cons_succ]
        refine wpAnyH_take (i := 1) (v := ?_) rfl (by kernel_rfl) (by kernel_rfl) (by kernel_rfl) (fun _ _ _ h => h) (Or.inl ⟨by rfl, ?_⟩) (by assumption) ?_
        rotate_left
        · intro w hSw; (try dsimp only at hSw); go_simp; try with_reducible rfl
        try simp only [List.getElem_toArray, List.getElem_cons_zero, List.getElem_cons_succ, Act.put, List.setIfInBounds_toArray, List.set_cons_zero, List.set_cons_succ]
        refine wpAnyH_take (i := 2) (v := ?_) rfl (by kernel_rfl) (by kernel_rfl) (by kernel_rfl) (fun _ _ _ h => h) (Or.inl ⟨by rfl, ?_⟩) (by assumption) ?_
        rotate_left
        · intro w hSw; (try dsimp only at hSw); go_simp; try with_reducible rfl
        try simp only [List.getElem_toArray, List.getElem_cons_zero, List.getElem_cons_succ, Act.put, List.setIfInBounds_toArray, List.set_cons_zero, List.set_cons_succ]
        refine wpAnyH_take (i := 3) (v := ?_) rfl (by kernel_rfl) (by kernel_rfl) (by kernel_rfl) (fun _ _ _ h => h) (Or.inl ⟨by rfl, ?_⟩) (by assumption) ?_
        rotate_left
        · intro w hSw; (try dsimp only at hSw); go_simp; try with_reducible rfl
        try simp only [List.getElem_toArray, List.getElem_cons_zero, List.getElem_cons_succ, Act.put, List.setIfInBounds_toArray, List.set_cons_zero, List.set_cons_succ]
        refine wpAnyH_take (i := 4) (v := ?_) rfl (by kernel_rfl) (by kernel_rfl) (by kernel_rfl) (fun _ _ _ h => h) (Or.inl ⟨by rfl, ?_⟩) (by assumption) ?_
        rotate_left
        · intro w hSw; (try dsimp only at hSw); go_simp; try with_reducible rfl
        try simp only [List.getElem_toArray, List.getElem_cons_zero, List.getElem_cons_succ, Act.put, List.setIfInBounds_toArray, List.set_cons_zero, List.set_cons_succ]
        refine wpAnyH_ready (rs := [5]) (by kernel_rfl) (by simp) ?_
        refine AllReadyH.cons rfl (fun K hK => ?_) AllReadyH.nil
        try simp only [List.getElem_toArray, List.getElem_cons_zero, List.getElem_cons_succ]
        go_simp
        refine (Hnow3.out _ (Fr.refl Nob w3).drew).mono ?_
        rintro e _ ⟨rfl, rfl⟩
        refine hK.out _ _ (Hmb3.out _ (Fr.refl Nob w3).drew) (fun hHeld2 => ?_)
        clear hK K
        refine wpAnyH_ready (rs := [6]) (by kernel_rfl) (by simp) ?_
        refine AllReadyH.cons rfl (fun K hK => ?_) AllReadyH.nil
        try simp only [List.getElem_toArray, List.getElem_cons_zero, List.getElem_cons_succ]
        go_simp
        refine (Hask3.out _ (Fr.refl Nob w3).drew).mono ?_
        rintro e w6 ⟨y0, y1, y2, y3, y4, A', n', cp', y6, ok', S6, rfl, hc6, hq6⟩
        have hfr6 := hq6.1
        have Hq6 := Lib.hid hq6
        clear hq6
        refine hK.out _ _ hc6 (fun hHeld3 => ?_)
        clear hK K
        refine wpAnyH_take (i := 7) (v := ?_) rfl (by kernel_rfl) (by kernel_rfl) (by kernel_rfl) (fun _ _ _ h => h) (Or.inl ⟨by rfl, ?_⟩) (by assumption) ?_
        rotate_left
        · intro w hSw; (try dsimp only at hSw); go_simp; try with_reducible rfl
        try simp only [List.getElem_toArray, List.getElem_cons_zero, List.getElem_cons_succ, Act.put, List.setIfInBounds_toArray, List.set_cons_zero, List.set_cons_succ]
        refine wpAnyH_take (i := 8) (v := ?_) rfl (by kernel_rfl) (by kernel_rfl) (by kernel_rfl) (fun _ _ _ h => h) (Or.inl ⟨by rfl, ?_⟩) (by assumption) ?_
        rotate_left
        · intro w hSw; (try dsimp only at hSw); go_simp; try with_reducible rfl
        try simp only [List.getElem_toArray, List.getElem_cons_zero, List.getElem_cons_succ, Act.put, List.setIfInBounds_toArray, List.set_cons_zero, List.set_cons_succ]
        refine wpAnyH_take (i := 9) (v := ?_) rfl (by kernel_rfl) (by kernel_rfl) (by kernel_rfl) (fun _ _ _ h => h) (Or.inl ⟨by rfl, ?_⟩) (by assumption) ?_
        rotate_left
        · intro w hSw; (try dsimp only at hSw); go_simp; try with_reducible rfl
        try simp only [List.getElem_toArray, List.getElem_cons_zero, List.getElem_cons_succ, Act.put, List.setIfInBounds_toArray, List.set_cons_zero, List.set_cons_succ]
        refine wpAnyH_ready (rs := [10]) (by kernel_rfl) (by simp) ?_
        refine AllReadyH.cons rfl (fun K hK => ?_) AllReadyH.nil
        refine step_store_row _ rfl 126 (.tmp 4) (.tmp 31) rfl fb2 (fv7 y0 y1 y2 y3 y4 A' n' cp' y6) _ 126 rfl rfl (hfr6.blk Hfb2S.out Hb3.out) rfl (info_fired7 y0 y1 y2 y3 y4 A' n' cp' y6) (fv7_one y0 y1 y2 y3 y4 A' n' cp' y6) fun w8 hb8 hf8 => ?_
        have hc8 : w8.cell? ⟨wb, 5, none⟩ = some (ptV mb2) := hf8.cell (fun e => Hwb3.out e) hc6
        refine hK.out _ _ (hc8) (fun hHeldZ => ?_)
        clear hK K
        refine wpAnyH_take (i := 11) (v := ?_) rfl (by kernel_rfl) (by kernel_rfl) (by kernel_rfl) (fun _ _ _ h => h) (Or.inl ⟨by rfl, ?_⟩) (by assumption) ?_
        rotate_left
        · intro w hSw; (try dsimp only at hSw); go_simp; try with_reducible rfl
        try simp only [List.getElem_toArray, List.getElem_cons_zero, List.getElem_cons_succ, Act.put, List.setIfInBounds_toArray, List.set_cons_zero, List.set_cons_succ]
        refine wpAnyH_done (by kernel_rfl) ?_ _
        try simp only [List.getElem_toArray, List.getElem_cons_zero, List.getElem_cons_succ, Act.put, List.setIfInBounds_toArray, List.set_cons_zero, List.set_cons_succ]
        have hz2 := Hf2.out.size
        have hzf := Hf.out.size
        have hR : AdvR w S wb P nd nm s (.bool ok') (ptV fb2) w8 (if ok' then k' + 1 else 0) := by
          refine adv_in (Hf.out.trans Hf2.out fun q hq a => by rcases Hsub.out q a with c | c; exact c; omega) Ha2.out (fun q a => by rcases Hs2.out q a with c | c; exact Hsub.out q c; exact .inr (by omega)) Hwlt.out (Hf23.out.trans0 (Fr.refl Nob w3).drew) Hq6.out hf8 hb8 Hfb2S.out (.inl (by have := lt_of_block Hb3.out; exact this)) (by have := Hfb2.out; omega)
        have HR2 := Lib.hid hR
        clear hR hHeld hHeldZ hb8 hf8 hc6 hc8 hfr6
        go_wp2_with fail
        refine ⟨⟨_, HR2⟩, ?_⟩
        obtain ⟨_, q2⟩ := Classical.epsilon_spec (least_ex (fun m => AdvR w S wb P nd nm s (Value.bool ok') (ptV fb2) w8 m) ⟨_, HR2.out⟩)
        have q3 := q2 _ HR2.out
        refine Nat.lt_of_le_of_lt q3 ?_
        rw [Hmm.out, Hm.out]
        cases ok' <;> simp
theorem WP.evnil {w : World} {S : Nat → Prop} {F : Nat → Nat → Prop} {c : Cfg} {P : Pg} {st : WS} {nd nm : Nat} (h : WP H0 w F c P st nd nm) : WP H0 (w.setCell ⟨c.wb, 10, none⟩ (.slice none 0 0)) F { c with ve := .slice none 0 0 } P { st with ev := [] } nd nm := by
  have hf : Fr (F 0) w (w.setCell ⟨c.wb, 10, none⟩ (.slice none 0 0)) := ((Fr.refl (fun k => k = c.wb) w).setB 10 _).mono fun k _ q => by rw [q]; exact h.own0
  have h' := h.part 0 hf
  exact ⟨h'.lt, h'.dis, h'.own0, h'.own1, fun _ => blk_set (h.blk id) 10 _, fun _ => h'.clk (by decide), fun _ => h'.tab (by decide), fun _ => h'.chs (by decide), fun _ => h'.tim (by decide), fun _ => h'.ctx (by decide), fun _ => h'.dls (by decide), fun _ => h'.lks (by decide), fun _ => h'.prg (by decide), fun _ => Sl.nil _ _ _ _, fun _ => h'.cas (by decide), fun _ => h'.pool (by decide), h'.chn, h'.tml, h'.cxl, h'.pad⟩
theorem WP.stepped {w : World} {S : Nat → Prop} {F : Nat → Nat → Prop} {c : Cfg} {P : Pg} {st : WS} {nd nm : Nat} (h : WP H0 w F c P st nd nm) (hs : st.steps < 10000) : WP H0 (w.setCell ⟨c.wb, 9, none⟩ (inV ((st.steps + 1 : Nat) : Int))) F c P { st with steps := st.steps + 1 } nd nm := by
  have hf : Fr (F 0) w (w.setCell ⟨c.wb, 9, none⟩ (inV ((st.steps + 1 : Nat) : Int))) := ((Fr.refl (fun k => k = c.wb) w).setB 9 _).mono fun k _ q => by rw [q]; exact h.own0
  have h' := h.part 0 hf
  exact ⟨h'.lt, h'.dis, h'.own0, h'.own1, fun _ => blk_set (h.blk id) 9 _, fun _ => h'.clk (by decide), fun _ => h'.tab (by decide), fun _ => h'.chs (by decide), fun _ => h'.tim (by decide), fun _ => h'.ctx (by decide), fun _ => h'.dls (by decide), fun _ => h'.lks (by decide), fun _ => h'.prg (by decide), fun _ => h'.evs (by decide), fun _ => h'.cas (by decide), fun _ => h'.pool (by decide), h'.chn, h'.tml, h'.cxl, ⟨by show st.steps + 1 ≤ 10000; omega, h'.pad.2.1, h'.pad.2.2⟩⟩
theorem step_some {P : List (List Ins)} {st s : WS} {e : En} (h : st.step P e = some s) : st.few = true ∧ ∃ s1 : WS, s1.steps < 10000 ∧ s1.ev.length ≤ 1000000 ∧ s = { s1 with steps := s1.steps + 1 } ∧
    ((e.1 = 1 ∧ ({ st with ev := [] } : WS).run P e.2.1 e.2.2 = some s1) ∨ (e.1 = 2 ∧ 0 ≤ e.2.1 ∧ e.2.2 = 0 ∧ ({ st with ev := [], now := addT st.now e.2.1 } : WS).fires 9 = some s1) ∨
      (entryOk e.1 e.2.1 e.2.2 = false ∧ s1 = ({ st with ev := [] } : WS).tell 8 0 0 0 0)) := by
  unfold WS.step at h
  split at h
  · cases h
  · next hg =>
    dsimp only at h
    refine ⟨by simpa using hg, ?_⟩
    split at h
    · cases h
    · next s1 hs1 =>
      split at h
      · cases h
      · next hq =>
        cases h
        refine ⟨s1, by omega, by omega, rfl, ?_⟩
        by_cases e1 : e.1 = 1
        · rw [if_pos e1] at hs1
          exact .inl ⟨e1, hs1⟩
        · rw [if_neg e1] at hs1
          by_cases e2 : e.1 = 2 ∧ 0 ≤ e.2.1 ∧ e.2.2 = 0
          · rw [if_pos e2] at hs1
            exact .inr (.inl ⟨e2.1, e2.2.1, e2.2.2, hs1⟩)
          · rw [if_neg e2] at hs1
            refine .inr (.inr ⟨?_, (Option.some.inj hs1).symm⟩)
            unfold entryOk
            simp only [Bool.or_eq_false_iff, beq_eq_false_iff_ne]
            refine ⟨e1, ?_⟩
            cases q : ((e.1 == 2 && decide (0 ≤ e.2.1)) && e.2.2 == 0)
            · rfl
            · simp only [Bool.and_eq_true, beq_iff_eq, decide_eq_true_eq] at q
              exact absurd ⟨q.1.1, q.1.2, q.2⟩ e2
/-- What Step needs to know of the programs. -/
structure PgOk (KO : Int → Prop) (L : List (List Ins)) (draw : Int) : Prop where
  k : ∀ p ∈ L, ∀ y ∈ p, mineB y.1.1 = false → KO y.1.1
set_option maxHeartbeats 2000000 in
theorem step_end {w1 w3 : World} {S1 : Nat → Prop} {wb : Nat} {P : Pg} {s1 : WS} {nd nm : Nat} (hst : s1.steps < 10000) (h : WAt w3 S1 wb P s1 nd nm) : ∃ (ve : Value) (cb : Nat), w3.cell? ⟨wb, 9, none⟩ = some (inV (s1.steps : Int)) ∧ w3.frozen? ⟨wb, 9, none⟩ = false ∧ (w3.setCell ⟨wb, 9, none⟩ (inV ((s1.steps : Int) + 1))).cell? ⟨wb, 10, none⟩ = some ve ∧ WAt (w3.setCell ⟨wb, 9, none⟩ (inV ((s1.steps : Int) + 1))) S1 wb P { s1 with steps := s1.steps + 1 } nd nm ∧ Rd (w3.setCell ⟨wb, 9, none⟩ (inV ((s1.steps : Int) + 1))) 6 ve s1.ev.length (evs s1.ev) ∧ Fr S1 w3 (w3.setCell ⟨wb, 9, none⟩ (inV ((s1.steps : Int) + 1))) := by
  obtain ⟨F, c, h, rfl, hS⟩ := h
  have h' := h.stepped (S := S1) hst
  rw [show ((s1.steps + 1 : Nat) : Int) = (s1.steps : Int) + 1 by omega] at h'
  refine ⟨c.ve, 0, blk_cell (h.blk id) 9 rfl, blk_froz (h.blk id) 9, blk_cell (h'.blk id) 10 rfl, ⟨F, c, h', rfl, hS⟩, (h'.evs id).rd, ((Fr.refl (fun k => k = c.wb) w3).setB 9 _).mono fun k _ q => (hS k).2 ⟨0, by rw [q]; exact h.own0⟩⟩
def costN (k : Int) : Nat := if k = 2 then 100 else 10
set_option maxHeartbeats 2000000 in
theorem world_step {KO : Int → Prop} (hD : DoC KO) {w : World} {S : Nat → Prop} {wb : Nat} {P : Pg} {st s : WS} {nd nm : Nat} (h : WAt w S wb P st nd nm) (e : En) (hok : PgOk KO P.1 e.2.2) (hs : st.step P.1 e = some s) (hnd : nd ≤ 80000000000) (hnm : nm < 600000) :
    Calls Tryz.prog 12 #[ptV wb, .agg #[inV e.1, inV e.2.1, inV e.2.2]] w fun en w' => ∃ (B' : Nat → Nat) (v : Value) (S' : Nat → Prop), en = .returned v ∧ Fr S w w' ∧ WAt w' S' wb (P.1, B') s (nd + 10000) (nm + costN e.1) ∧ (∀ k, S' k → S k ∨ w.heap.size ≤ k) ∧ Sl w' (fun k => w.heap.size ≤ k ∧ k < w'.heap.size ∧ ¬ S' k) 43 6 v s.ev.length (evs s.ev) := by
  obtain ⟨hfew, s1, hst, hev, rfl, hcase⟩ := step_some hs
  obtain ⟨k, m, dr⟩ := e
  dsimp only at hcase hok ⊢
  obtain ⟨F, c, h, rfl, hS⟩ := h
  have hev' := h.evnil (S := S)
  have hf0 : Fr S w (w.setCell ⟨c.wb, 10, none⟩ (.slice none 0 0)) := ((Fr.refl (fun k => k = c.wb) w).setB 10 _).mono fun k _ q => (hS k).2 ⟨0, by rw [q]; exact h.own0⟩
  have c10 := blk_cell (h.blk id) 10 rfl
  have f10 := blk_froz (h.blk id) 10
  have hwb := h.lt _ _ h.own0
  have hSlt : ∀ q, S q → q < w.heap.size := fun q a => by obtain ⟨p, b⟩ := (hS q).1 a; exact h.lt p q b
  obtain ⟨w0, hw0⟩ : ∃ w0, w0 = w.setCell ⟨c.wb, 10, none⟩ (.slice none 0 0) := ⟨_, rfl⟩
  rw [← hw0] at hev' hf0
  have hz0 : w0.heap.size = w.heap.size := by rw [hw0]; simp
  obtain ⟨w1, hw1⟩ : ∃ w1, w1 = w0.alloc (.cells #[inV k, inV m, inV dr] 38) := ⟨_, rfl⟩
  have hfa : Fr Nob w0 w1 := by rw [hw1]; exact (Fr.refl Nob w0).alloc _
  have hf01 : Fr S w w1 := hf0.trans hfa fun _ _ q => q.elim
  have ha1 : WAt w1 S c.wb P { st with ev := [] } nd nm := WAt.fr0 ⟨F, { c with ve := .slice none 0 0 }, hev', rfl, hS⟩ hfa
  have hb1 : w1.heap[w.heap.size]? = some (.cells #[inV k, inV m, inV dr] 38 (0, 0)) := by rw [hw1, ← hz0]; exact heap_alloc_new _ _
  have Hw0 := Lib.hid hw0; have Hw1 := Lib.hid hw1; have Hf01 := Lib.hid hf01; have Ha1 := Lib.hid ha1; have Hb1 := Lib.hid hb1; have Hcase := Lib.hid hcase; have HSlt := Lib.hid hSlt; have Hst := Lib.hid hst; have Hfew := Lib.hid hfew; have Hev := Lib.hid hev; have Hok := Lib.hid hok
  have c10' : (w.alloc (.cells #[inV k, inV m, inV dr] 38)).cell? ⟨c.wb, 10, none⟩ = some c.ve := ((Fr.refl Nob w).alloc _).cell (fun q => q) c10
  have f10' : (w.alloc (.cells #[inV k, inV m, inV dr] 38)).frozen? ⟨c.wb, 10, none⟩ = false := by rw [((Fr.refl Nob w).alloc (.cells #[inV k, inV m, inV dr] 38)).frozen (fun q => q) hwb]; exact f10
  clear h hS hev' hf0 hz0 hfa hw0 hw1 hf01 ha1 hb1 hcase hSlt hs hst hfew hev hok c10 f10
  go_enter Tryz.func12, Tryz.ntmps12
  go_wp2_with fail
  rw [← Hw0.out, ← Hw1.out]
  refine (script_check w1 k m dr).mono ?_
  rintro e w2 ⟨rfl, hf2⟩
  have hb2 := hf2.blk (fun q => q) Hb1.out
  have k0 := blk_cell hb2 0 rfl; have k1 := blk_cell hb2 1 rfl; have k2 := blk_cell hb2 2 rfl
  have Ha2 := Lib.hid (Ha1.out.fr0 hf2)
  have Hf2 := Lib.hid hf2
  clear hf2 hb2 c10' f10'
  rcases Hcase.out with ⟨rfl, hrun⟩ | ⟨rfl, hm0, rfl, hadv⟩ | ⟨hbad, hs1⟩
  · have hok : entryOk 1 m dr = true := by simp [entryOk]
    rw [hok]
    have Hrun := Lib.hid (world_run hD Ha2.out Hfew.out (by omega) (by omega) m dr hrun Hok.out.k)
    clear hrun hok
    go_wp2_with fail
    refine Hrun.out.mono ?_
    rintro e w3 ⟨rfl, B', hnx⟩
    obtain ⟨S3, hf3, ha3, hs3⟩ := hnx
    obtain ⟨ve, _, c9, f9, c10, ha4, hrd, hf34⟩ := step_end (w1 := w2) Hst.out ha3
    have hw1 : IntKind.i64.wrap ((s1.steps : Int) + 1) = (s1.steps : Int) + 1 := IntWalk.i64_in _ (by have := Hst.out; omega)
    have Hcl := Lib.hid (clone_evs _ ve (evs s1.ev) s1.ev.length (by have := Hev.out; omega) hrd (evs_one _))
    have Hf3 := Lib.hid hf3; have Ha4 := Lib.hid ha4; have Hs3 := Lib.hid hs3; have Hf34 := Lib.hid hf34
    clear hf3 ha3 hs3 ha4 hrd hf34
    go_wp2_with fail
    obtain ⟨w4, hw4⟩ : ∃ w4, w4 = w3.setCell ⟨c.wb, 9, none⟩ (inV ((s1.steps : Int) + 1)) := ⟨_, rfl⟩
    rw [← hw4] at Hcl Ha4 Hf34 ⊢
    refine Hcl.out.mono ?_
    rintro e w5 ⟨v5, rfl, hf5, hs5⟩
    obtain ⟨A5, c5, rfl⟩ := hs5.slice
    have Hf5 := Lib.hid hf5; have Hs5 := Lib.hid hs5
    clear hf5 hs5 hw4 c9 f9 c10
    go_wp2_with fail
    go_ret
    have hz := Hf01.out.size; have hz2 := Hf2.out.size; have hz3 := Hf3.out.size; have hz4 := Hf34.out.size; have hz5 := Hf5.out.size
    refine ⟨_, _, S3, rfl, (((Hf01.out.trans Hf2.out (fun _ _ q => q.elim)).trans0 Hf3.out).trans Hf34.out fun q hq a => by rcases Hs3.out q a with b | b; exact b; omega).trans Hf5.out (fun _ _ q => q.elim), (Ha4.out.fr0 Hf5.out).mono (by omega) (by unfold costN; first | (simp; done) | omega | (split <;> omega)), fun q a => by rcases Hs3.out q a with b | b; exact .inl b; exact .inr (by omega), Hs5.out.mono fun q hq a => ⟨by omega, hq, fun b => by have := Ha4.out.lt q b; omega⟩⟩
  · have hok : entryOk 2 m 0 = true := by simp [entryOk, hm0]
    rw [hok]
    have Hadv := Lib.hid (world_advance Ha2.out m hm0 hadv (by omega) (by omega))
    clear hadv hok
    go_wp2_with fail
    refine Hadv.out.mono ?_
    rintro e w3 ⟨rfl, hnx⟩
    obtain ⟨S3, hf3, ha3, hs3⟩ := hnx
    obtain ⟨ve, _, c9, f9, c10, ha4, hrd, hf34⟩ := step_end (w1 := w2) Hst.out ha3
    have hw1 : IntKind.i64.wrap ((s1.steps : Int) + 1) = (s1.steps : Int) + 1 := IntWalk.i64_in _ (by have := Hst.out; omega)
    have Hcl := Lib.hid (clone_evs _ ve (evs s1.ev) s1.ev.length (by have := Hev.out; omega) hrd (evs_one _))
    have Hf3 := Lib.hid hf3; have Ha4 := Lib.hid ha4; have Hs3 := Lib.hid hs3; have Hf34 := Lib.hid hf34
    clear hf3 ha3 hs3 ha4 hrd hf34
    go_wp2_with fail
    obtain ⟨w4, hw4⟩ : ∃ w4, w4 = w3.setCell ⟨c.wb, 9, none⟩ (inV ((s1.steps : Int) + 1)) := ⟨_, rfl⟩
    rw [← hw4] at Hcl Ha4 Hf34 ⊢
    refine Hcl.out.mono ?_
    rintro e w5 ⟨v5, rfl, hf5, hs5⟩
    obtain ⟨A5, c5, rfl⟩ := hs5.slice
    have Hf5 := Lib.hid hf5; have Hs5 := Lib.hid hs5
    clear hf5 hs5 hw4 c9 f9 c10
    go_wp2_with fail
    go_ret
    have hz := Hf01.out.size; have hz2 := Hf2.out.size; have hz3 := Hf3.out.size; have hz4 := Hf34.out.size; have hz5 := Hf5.out.size
    refine ⟨_, _, S3, rfl, (((Hf01.out.trans Hf2.out (fun _ _ q => q.elim)).trans0 Hf3.out).trans Hf34.out fun q hq a => by rcases Hs3.out q a with b | b; exact b; omega).trans Hf5.out (fun _ _ q => q.elim), (Ha4.out.fr0 Hf5.out).mono (by omega) (by unfold costN; first | (simp; done) | omega | (split <;> omega)), fun q a => by rcases Hs3.out q a with b | b; exact .inl b; exact .inr (by omega), Hs5.out.mono fun q hq a => ⟨by omega, hq, fun b => by have := Ha4.out.lt q b; omega⟩⟩
  · rw [hbad]
    have Htell := Lib.hid ((Nx.refl Ha2.out).tell 8 0 0 0 0 (by simp))
    rw [← hs1] at Htell
    clear hbad hs1
    go_wp2_with fail
    refine (Htell.out _ (Fr.refl _ _)).mono ?_
    rintro e w3 ⟨rfl, hnx⟩
    obtain ⟨S3, hf3, ha3, hs3⟩ := hnx
    obtain ⟨ve, _, c9, f9, c10, ha4, hrd, hf34⟩ := step_end (w1 := w2) Hst.out ha3
    have hw1 : IntKind.i64.wrap ((s1.steps : Int) + 1) = (s1.steps : Int) + 1 := IntWalk.i64_in _ (by have := Hst.out; omega)
    have Hcl := Lib.hid (clone_evs _ ve (evs s1.ev) s1.ev.length (by have := Hev.out; omega) hrd (evs_one _))
    have Hf3 := Lib.hid hf3; have Ha4 := Lib.hid ha4; have Hs3 := Lib.hid hs3; have Hf34 := Lib.hid hf34
    clear hf3 ha3 hs3 ha4 hrd hf34
    go_wp2_with fail
    obtain ⟨w4, hw4⟩ : ∃ w4, w4 = w3.setCell ⟨c.wb, 9, none⟩ (inV ((s1.steps : Int) + 1)) := ⟨_, rfl⟩
    rw [← hw4] at Hcl Ha4 Hf34 ⊢
    refine Hcl.out.mono ?_
    rintro e w5 ⟨v5, rfl, hf5, hs5⟩
    obtain ⟨A5, c5, rfl⟩ := hs5.slice
    have Hf5 := Lib.hid hf5; have Hs5 := Lib.hid hs5
    clear hf5 hs5 hw4 c9 f9 c10
    go_wp2_with fail
    go_ret
    have hz := Hf01.out.size; have hz2 := Hf2.out.size; have hz3 := Hf3.out.size; have hz4 := Hf34.out.size; have hz5 := Hf5.out.size
    refine ⟨_, _, S3, rfl, (((Hf01.out.trans Hf2.out (fun _ _ q => q.elim)).trans0 Hf3.out).trans Hf34.out fun q hq a => by rcases Hs3.out q a with b | b; exact b; omega).trans Hf5.out (fun _ _ q => q.elim), (Ha4.out.fr0 Hf5.out).mono (by omega) (by unfold costN; first | (simp; done) | omega | (split <;> omega)), fun q a => by rcases Hs3.out q a with b | b; exact .inl b; exact .inr (by omega), Hs5.out.mono fun q hq a => ⟨by omega, hq, fun b => by have := Ha4.out.lt q b; omega⟩⟩
end Go.Proofs.YtcffplgimbbflaaGreat
