/- TopBehind answers true whatever its inputs are: no condition. -/
import Derived.Test.YtcffplgimbbflaaGreatBhQ1
set_option linter.unusedVariables false
set_option linter.unusedSimpArgs false
namespace Go.Proofs.YtcffplgimbbflaaGreat
open Go.RowKit
set_option maxRecDepth 100000
theorem actAsk_some {st s : WS} {y : Ins} {r : Nat → Int} {o : Option (Nat → Int)} (h : st.actAsk y r = some (s, o)) : ∃ (i : Nat) (z : CxS), r y.1.2.1.toNat = (i : Int) ∧ st.cx[i]? = some z ∧ s = st ∧
    ((y.1.1 = 27 ∧ o = some (updR r y.1.2.2.1.toNat z.err)) ∨ (y.1.1 = 28 ∧ o = some (updR r y.1.2.2.1.toNat z.cause)) ∨ (y.1.1 = 29 ∧ z.ch = none ∧ o = some (updR r y.1.2.2.1.toNat (-1))) ∨ (y.1.1 = 29 ∧ ∃ j : Nat, z.ch = some j ∧ o = some (updR r y.1.2.2.1.toNat j)) ∨
     (y.1.1 ≠ 27 ∧ y.1.1 ≠ 28 ∧ y.1.1 ≠ 29 ∧ o = some (updR (updR r y.1.2.2.1.toNat z.when') y.1.2.2.2.toNat (bitI z.has)))) := by
  unfold WS.actAsk at h
  dsimp only at h
  split at h
  · cases h
  · next h0 =>
    split at h
    · cases h
    · next z hz =>
      obtain ⟨i, hi⟩ : ∃ i : Nat, r y.1.2.1.toNat = (i : Int) := ⟨(r y.1.2.1.toNat).toNat, by omega⟩
      rw [hi, show ((i : Int)).toNat = i by omega] at hz
      refine ⟨i, z, hi, hz, ?_⟩
      split at h
      · next e => cases h; exact ⟨rfl, .inl ⟨e, rfl⟩⟩
      · next e1 =>
        split at h
        · next e => cases h; exact ⟨rfl, .inr (.inl ⟨e, rfl⟩)⟩
        · next e2 =>
          split at h
          · next e =>
            split at h
            · next hc => cases h; exact ⟨rfl, .inr (.inr (.inl ⟨e, hc, rfl⟩))⟩
            · next j hc => cases h; exact ⟨rfl, .inr (.inr (.inr (.inl ⟨e, j, hc, rfl⟩)))⟩
          · next e3 => cases h; exact ⟨rfl, .inr (.inr (.inr (.inr ⟨e1, e2, e3, rfl⟩)))⟩
section
variable {w : World} {S : Nat → Prop} {F : Nat → Nat → Prop} {c : Cfg} {P : Pg} {st : WS} {nd nm : Nat} (h : WP H0 w F c P st nd nm) (hS : ∀ k, S k ↔ Un F k) {ab : Nat} {x : Ax} (hwb : c.wb = x.wb) (ha : ActAt w ab x x.u 0 false) (hab : ¬ S ab) (A B C : Nat) (hA : A < 8) (hB : B < 8) (hC : C < 8) (ea : x.a = (A : Int)) (eb : x.b = (B : Int)) (ec : x.c = (C : Int)) (i : Nat) (hi : x.u A = (i : Int)) (z : CxS) (hz : st.cx[i]? = some z)
include h hS hwb ha hab hA hB ea eb hi hz
set_option maxHeartbeats 1000000 in
theorem act_ask27 (eo : x.o = 27) :
    Calls Tryz.prog 96 #[ptV ab] w fun e w' => e = .returned (.tuple #[]) ∧ Ay w S ab x P st nd nm (some (updR x.u B z.err)) w' := by
  have hal := ha.lt
  have hr := h.cxl.get hz
  have HA := Lib.hid (fun W (hW : Fr Nob w W) => act_a (ha.fr hW (fun q => q)) A hA ea)
  rw [hi] at HA
  have HC := Lib.hid (fun W (hW : Fr Nob w W) => (h.fr0 hW).ctx (fun q => q))
  have hbk := h.blk (fun q => q)
  rw [hwb] at hbk
  have k0 : ∀ W, Fr Nob w W → W.cell? ⟨ab, 0, none⟩ = some (ptV x.wb) ∧ W.cell? ⟨x.wb, 6, none⟩ = some (ptV c.xb) := fun W hW => ⟨xc0 (ha.fr hW (fun q => q)), blk_cell (hW.blk (fun q => q) hbk) 6 rfl⟩
  have K0 := Lib.hid k0
  have k2 : ∀ W, Fr Nob w W → W.cell? ⟨ab, 2, none⟩ = some (inV 27) := fun W hW => xcO (ha.fr hW (fun q => q)) eo
  have K2 := Lib.hid k2
  have hBi : (B : Int) < 8 := by omega
  have NX0 := Lib.hid (Nx.refl (show WAt w S x.wb P st nd nm from ⟨F, c, h, hwb, hS⟩))
  have Ha := Lib.hid ha; have Hr := Lib.hid hr
  clear h hS hwb ha hbk k0 k2 hr hz
  go_enter Tryz.func96, Tryz.ntmps96
  go_wp2_with fail
  have hf0 : Fr Nob w w := Fr.refl _ _
  go_region_held3 (fun W => W.cell? ⟨ab, 0, none⟩ = some (ptV x.wb) ∧ W.cell? ⟨x.wb, 6, none⟩ = some (ptV c.xb))
    ((refine K0.out _ ?_; first | with_reducible exact hf1 | with_reducible exact hf0.drew | exact hf0.drew))
    ((go_at_call 93; refine (HA.out w.drew hf0.drew).mono ?_; rintro e w1 ⟨rfl, hf1'⟩; have hf1 : Fr Nob w w1 := hf0.drew.trans0 hf1'; clear hf1'))
  have c2 := K2.out w1 hf1
  have Hf1 := Lib.hid hf1
  clear hf1 hf0
  go_wp2_with fail
  refine (cx_err (HC.out w1 Hf1.out) i _ Hr.out).mono ?_
  rintro e _ ⟨rfl, rfl⟩
  dsimp only [toR]
  go_wp2_with fail
  refine (act_bad).mono ?_
  rintro e wz0 ⟨rfl, rfl⟩
  have Ha1 := Lib.hid (Ha.out.fr Hf1.out (fun q => q))
  clear c2
  go_wp2_with fail
  have c4 := xcE4 Ha1.out eb
  have cB := xcR Ha1.out B hB
  have fB := blk_froz Ha1.out (16 + B)
  go_region
  all_goals
    obtain ⟨wz, hwz⟩ : ∃ wz, wz = (w1.setCell ⟨ab, 16 + B, none⟩ (inV z.err)).drew := ⟨_, rfl⟩
    have haz : ActAt wz ab x (updR x.u B z.err) 0 false := by rw [hwz]; exact blk_drew' (xpR Ha1.out B hB _)
    have hfz : Fr (fun q => q = ab) w1 wz := by rw [hwz]; exact ((Fr.refl (fun q => q = ab) w1).setCell (p := ⟨ab, 16 + B, none⟩) (.inl rfl) _).drew
    try rw [← hwz]
    have Haz := Lib.hid haz; have Hfz := Lib.hid hfz
    clear hwz haz hfz c4 cB fB
    go_wp2_with fail
    go_end0
    exact ⟨rfl, Ay.both (NX0.out.fr0 Hf1.out) (Nat.le_refl _) (Nat.le_refl _) Hfz.out Haz.out hab hal⟩
set_option maxHeartbeats 1000000 in
theorem act_ask28 (eo : x.o = 28) :
    Calls Tryz.prog 96 #[ptV ab] w fun e w' => e = .returned (.tuple #[]) ∧ Ay w S ab x P st nd nm (some (updR x.u B z.cause)) w' := by
  have hal := ha.lt
  have hr := h.cxl.get hz
  have HA := Lib.hid (fun W (hW : Fr Nob w W) => act_a (ha.fr hW (fun q => q)) A hA ea)
  rw [hi] at HA
  have HC := Lib.hid (fun W (hW : Fr Nob w W) => (h.fr0 hW).ctx (fun q => q))
  have hbk := h.blk (fun q => q)
  rw [hwb] at hbk
  have k0 : ∀ W, Fr Nob w W → W.cell? ⟨ab, 0, none⟩ = some (ptV x.wb) ∧ W.cell? ⟨x.wb, 6, none⟩ = some (ptV c.xb) := fun W hW => ⟨xc0 (ha.fr hW (fun q => q)), blk_cell (hW.blk (fun q => q) hbk) 6 rfl⟩
  have K0 := Lib.hid k0
  have k2 : ∀ W, Fr Nob w W → W.cell? ⟨ab, 2, none⟩ = some (inV 28) := fun W hW => xcO (ha.fr hW (fun q => q)) eo
  have K2 := Lib.hid k2
  have hBi : (B : Int) < 8 := by omega
  have NX0 := Lib.hid (Nx.refl (show WAt w S x.wb P st nd nm from ⟨F, c, h, hwb, hS⟩))
  have Ha := Lib.hid ha; have Hr := Lib.hid hr
  clear h hS hwb ha hbk k0 k2 hr hz
  go_enter Tryz.func96, Tryz.ntmps96
  go_wp2_with fail
  have hf0 : Fr Nob w w := Fr.refl _ _
  go_region_held3 (fun W => W.cell? ⟨ab, 0, none⟩ = some (ptV x.wb) ∧ W.cell? ⟨x.wb, 6, none⟩ = some (ptV c.xb))
    ((refine K0.out _ ?_; first | with_reducible exact hf1 | with_reducible exact hf0.drew | exact hf0.drew))
    ((go_at_call 93; refine (HA.out w.drew hf0.drew).mono ?_; rintro e w1 ⟨rfl, hf1'⟩; have hf1 : Fr Nob w w1 := hf0.drew.trans0 hf1'; clear hf1'))
  have c2 := K2.out w1 hf1
  have Hf1 := Lib.hid hf1
  clear hf1 hf0
  go_wp2_with fail
  refine (cx_cause (HC.out w1 Hf1.out) i _ Hr.out).mono ?_
  rintro e _ ⟨rfl, rfl⟩
  dsimp only [toR]
  go_wp2_with fail
  refine (act_bad).mono ?_
  rintro e wz0 ⟨rfl, rfl⟩
  have Ha1 := Lib.hid (Ha.out.fr Hf1.out (fun q => q))
  clear c2
  go_wp2_with fail
  have c4 := xcE4 Ha1.out eb
  have cB := xcR Ha1.out B hB
  have fB := blk_froz Ha1.out (16 + B)
  go_region
  all_goals
    obtain ⟨wz, hwz⟩ : ∃ wz, wz = (w1.setCell ⟨ab, 16 + B, none⟩ (inV z.cause)).drew := ⟨_, rfl⟩
    have haz : ActAt wz ab x (updR x.u B z.cause) 0 false := by rw [hwz]; exact blk_drew' (xpR Ha1.out B hB _)
    have hfz : Fr (fun q => q = ab) w1 wz := by rw [hwz]; exact ((Fr.refl (fun q => q = ab) w1).setCell (p := ⟨ab, 16 + B, none⟩) (.inl rfl) _).drew
    try rw [← hwz]
    have Haz := Lib.hid haz; have Hfz := Lib.hid hfz
    clear hwz haz hfz c4 cB fB
    go_wp2_with fail
    go_end0
    exact ⟨rfl, Ay.both (NX0.out.fr0 Hf1.out) (Nat.le_refl _) (Nat.le_refl _) Hfz.out Haz.out hab hal⟩
set_option maxHeartbeats 1000000 in
theorem act_ask29n (eo : x.o = 29) (hch : z.ch = none) :
    Calls Tryz.prog 96 #[ptV ab] w fun e w' => e = .returned (.tuple #[]) ∧ Ay w S ab x P st nd nm (some (updR x.u B (-1))) w' := by
  have hal := ha.lt
  have hr := h.cxl.get hz
  have HA := Lib.hid (fun W (hW : Fr Nob w W) => act_a (ha.fr hW (fun q => q)) A hA ea)
  rw [hi] at HA
  have HC := Lib.hid (fun W (hW : Fr Nob w W) => (h.fr0 hW).ctx (fun q => q))
  have hbk := h.blk (fun q => q)
  rw [hwb] at hbk
  have k0 : ∀ W, Fr Nob w W → W.cell? ⟨ab, 0, none⟩ = some (ptV x.wb) ∧ W.cell? ⟨x.wb, 6, none⟩ = some (ptV c.xb) := fun W hW => ⟨xc0 (ha.fr hW (fun q => q)), blk_cell (hW.blk (fun q => q) hbk) 6 rfl⟩
  have K0 := Lib.hid k0
  have k2 : ∀ W, Fr Nob w W → W.cell? ⟨ab, 2, none⟩ = some (inV 29) := fun W hW => xcO (ha.fr hW (fun q => q)) eo
  have K2 := Lib.hid k2
  have hBi : (B : Int) < 8 := by omega
  have NX0 := Lib.hid (Nx.refl (show WAt w S x.wb P st nd nm from ⟨F, c, h, hwb, hS⟩))
  have Ha := Lib.hid ha; have Hr := Lib.hid hr
  have HH := Lib.hid (fun W (hW : Fr Nob w W) => world_handle_none (h.fr0 hW))
  rw [hwb] at HH
  have hp : ptrO (toR c.B z).cb = none := by unfold toR; rw [hch]; rfl
  have Hp := Lib.hid hp
  clear hp
  clear h hS hwb ha hbk k0 k2 hr hz
  go_enter Tryz.func96, Tryz.ntmps96
  go_wp2_with fail
  have hf0 : Fr Nob w w := Fr.refl _ _
  go_region_held3 (fun W => W.cell? ⟨ab, 0, none⟩ = some (ptV x.wb) ∧ W.cell? ⟨x.wb, 6, none⟩ = some (ptV c.xb))
    ((refine K0.out _ ?_; first | with_reducible exact hf1 | with_reducible exact hf0.drew | exact hf0.drew))
    ((go_at_call 93; refine (HA.out w.drew hf0.drew).mono ?_; rintro e w1 ⟨rfl, hf1'⟩; have hf1 : Fr Nob w w1 := hf0.drew.trans0 hf1'; clear hf1'))
  have c2 := K2.out w1 hf1
  have Hf1 := Lib.hid hf1
  clear hf1 hf0
  go_wp2_with fail
  refine (cx_done (HC.out w1 Hf1.out) i _ Hr.out).mono ?_
  rintro e _ ⟨rfl, rfl⟩
  rw [Hp.out]
  have c0 := (K0.out w1 Hf1.out).1
  go_wp2_with fail
  refine (HH.out w1 Hf1.out).mono ?_
  rintro e _ ⟨rfl, rfl⟩
  clear c0
  go_wp2_with fail
  refine (act_bad).mono ?_
  rintro e wz0 ⟨rfl, rfl⟩
  have Ha1 := Lib.hid (Ha.out.fr Hf1.out (fun q => q))
  clear c2
  go_wp2_with fail
  have c4 := xcE4 Ha1.out eb
  have cB := xcR Ha1.out B hB
  have fB := blk_froz Ha1.out (16 + B)
  go_region
  all_goals
    obtain ⟨wz, hwz⟩ : ∃ wz, wz = (w1.setCell ⟨ab, 16 + B, none⟩ (inV (-1))).drew := ⟨_, rfl⟩
    have haz : ActAt wz ab x (updR x.u B (-1)) 0 false := by rw [hwz]; exact blk_drew' (xpR Ha1.out B hB _)
    have hfz : Fr (fun q => q = ab) w1 wz := by rw [hwz]; exact ((Fr.refl (fun q => q = ab) w1).setCell (p := ⟨ab, 16 + B, none⟩) (.inl rfl) _).drew
    try rw [← hwz]
    have Haz := Lib.hid haz; have Hfz := Lib.hid hfz
    clear hwz haz hfz c4 cB fB
    go_wp2_with fail
    go_end0
    exact ⟨rfl, Ay.both (NX0.out.fr0 Hf1.out) (Nat.le_refl _) (Nat.le_refl _) Hfz.out Haz.out hab hal⟩
set_option maxHeartbeats 1000000 in
theorem act_ask29 (eo : x.o = 29) (j : Nat) (hch : z.ch = some j) :
    Calls Tryz.prog 96 #[ptV ab] w fun e w' => e = .returned (.tuple #[]) ∧ Ay w S ab x P st nd nm (some (updR x.u B (j : Int))) w' := by
  have hal := ha.lt
  have hr := h.cxl.get hz
  have HA := Lib.hid (fun W (hW : Fr Nob w W) => act_a (ha.fr hW (fun q => q)) A hA ea)
  rw [hi] at HA
  have HC := Lib.hid (fun W (hW : Fr Nob w W) => (h.fr0 hW).ctx (fun q => q))
  have hbk := h.blk (fun q => q)
  rw [hwb] at hbk
  have k0 : ∀ W, Fr Nob w W → W.cell? ⟨ab, 0, none⟩ = some (ptV x.wb) ∧ W.cell? ⟨x.wb, 6, none⟩ = some (ptV c.xb) := fun W hW => ⟨xc0 (ha.fr hW (fun q => q)), blk_cell (hW.blk (fun q => q) hbk) 6 rfl⟩
  have K0 := Lib.hid k0
  have k2 : ∀ W, Fr Nob w W → W.cell? ⟨ab, 2, none⟩ = some (inV 29) := fun W hW => xcO (ha.fr hW (fun q => q)) eo
  have K2 := Lib.hid k2
  have hBi : (B : Int) < 8 := by omega
  have NX0 := Lib.hid (Nx.refl (show WAt w S x.wb P st nd nm from ⟨F, c, h, hwb, hS⟩))
  have Ha := Lib.hid ha; have Hr := Lib.hid hr
  have hjn : j < st.nch := h.cxl.2 z (List.mem_of_getElem? hz) j hch
  have HH := Lib.hid (fun W (hW : Fr Nob w W) => (show WAt W S x.wb P st nd nm from ⟨F, c, h.fr0 hW, hwb, hS⟩).chan hjn)
  have hp : ptrO (toR c.B z).cb = some ⟨P.2 j, 0, none⟩ := by unfold toR; rw [hch]; show some (⟨c.B j, 0, none⟩ : Addr) = _; rw [h.pad.2.2 j hjn]
  have Hp := Lib.hid hp
  clear hp
  clear h hS hwb ha hbk k0 k2 hr hz
  go_enter Tryz.func96, Tryz.ntmps96
  go_wp2_with fail
  have hf0 : Fr Nob w w := Fr.refl _ _
  go_region_held3 (fun W => W.cell? ⟨ab, 0, none⟩ = some (ptV x.wb) ∧ W.cell? ⟨x.wb, 6, none⟩ = some (ptV c.xb))
    ((refine K0.out _ ?_; first | with_reducible exact hf1 | with_reducible exact hf0.drew | exact hf0.drew))
    ((go_at_call 93; refine (HA.out w.drew hf0.drew).mono ?_; rintro e w1 ⟨rfl, hf1'⟩; have hf1 : Fr Nob w w1 := hf0.drew.trans0 hf1'; clear hf1'))
  have c2 := K2.out w1 hf1
  have Hf1 := Lib.hid hf1
  clear hf1 hf0
  go_wp2_with fail
  refine (cx_done (HC.out w1 Hf1.out) i _ Hr.out).mono ?_
  rintro e _ ⟨rfl, rfl⟩
  rw [Hp.out]
  have c0 := (K0.out w1 Hf1.out).1
  go_wp2_with fail
  refine (HH.out w1 Hf1.out).mono ?_
  rintro e _ ⟨rfl, rfl⟩
  clear c0
  go_wp2_with fail
  refine (act_bad).mono ?_
  rintro e wz0 ⟨rfl, rfl⟩
  have Ha1 := Lib.hid (Ha.out.fr Hf1.out (fun q => q))
  clear c2
  go_wp2_with fail
  have c4 := xcE4 Ha1.out eb
  have cB := xcR Ha1.out B hB
  have fB := blk_froz Ha1.out (16 + B)
  go_region
  all_goals
    obtain ⟨wz, hwz⟩ : ∃ wz, wz = (w1.setCell ⟨ab, 16 + B, none⟩ (inV (j : Int))).drew := ⟨_, rfl⟩
    have haz : ActAt wz ab x (updR x.u B (j : Int)) 0 false := by rw [hwz]; exact blk_drew' (xpR Ha1.out B hB _)
    have hfz : Fr (fun q => q = ab) w1 wz := by rw [hwz]; exact ((Fr.refl (fun q => q = ab) w1).setCell (p := ⟨ab, 16 + B, none⟩) (.inl rfl) _).drew
    try rw [← hwz]
    have Haz := Lib.hid haz; have Hfz := Lib.hid hfz
    clear hwz haz hfz c4 cB fB
    go_wp2_with fail
    go_end0
    exact ⟨rfl, Ay.both (NX0.out.fr0 Hf1.out) (Nat.le_refl _) (Nat.le_refl _) Hfz.out Haz.out hab hal⟩
set_option maxHeartbeats 1000000 in
theorem act_ask30 (hC8 : C < 8) (ec8 : x.c = (C : Int)) (n7 : x.o ≠ 27) (n8 : x.o ≠ 28) (n9 : x.o ≠ 29) :
    Calls Tryz.prog 96 #[ptV ab] w fun e w' => e = .returned (.tuple #[]) ∧ Ay w S ab x P st nd nm (some (updR (updR x.u B z.when') C (bitI z.has))) w' := by
  have hal := ha.lt
  have hr := h.cxl.get hz
  have HA := Lib.hid (fun W (hW : Fr Nob w W) => act_a (ha.fr hW (fun q => q)) A hA ea)
  rw [hi] at HA
  have HC := Lib.hid (fun W (hW : Fr Nob w W) => (h.fr0 hW).ctx (fun q => q))
  have hbk := h.blk (fun q => q)
  rw [hwb] at hbk
  have k0 : ∀ W, Fr Nob w W → W.cell? ⟨ab, 0, none⟩ = some (ptV x.wb) ∧ W.cell? ⟨x.wb, 6, none⟩ = some (ptV c.xb) := fun W hW => ⟨xc0 (ha.fr hW (fun q => q)), blk_cell (hW.blk (fun q => q) hbk) 6 rfl⟩
  have K0 := Lib.hid k0
  have k2 : ∀ W, Fr Nob w W → W.cell? ⟨ab, 2, none⟩ = some (inV x.o) := fun W hW => xc2 (ha.fr hW (fun q => q))
  have K2 := Lib.hid k2
  have hBi : (B : Int) < 8 := by omega
  have NX0 := Lib.hid (Nx.refl (show WAt w S x.wb P st nd nm from ⟨F, c, h, hwb, hS⟩))
  have Ha := Lib.hid ha; have Hr := Lib.hid hr
  have m7 : (x.o == 27) = false := beq_eq_false_iff_ne.2 n7
  have m8 : (x.o == 28) = false := beq_eq_false_iff_ne.2 n8
  have m9 : (x.o == 29) = false := beq_eq_false_iff_ne.2 n9
  have hCi : (C : Int) < 8 := by omega
  clear h hS hwb ha hbk k0 k2 hr hz
  go_enter Tryz.func96, Tryz.ntmps96
  go_wp2_with fail
  have hf0 : Fr Nob w w := Fr.refl _ _
  go_region_held3 (fun W => W.cell? ⟨ab, 0, none⟩ = some (ptV x.wb) ∧ W.cell? ⟨x.wb, 6, none⟩ = some (ptV c.xb))
    ((refine K0.out _ ?_; first | with_reducible exact hf1 | with_reducible exact hf0.drew | exact hf0.drew))
    ((go_at_call 93; refine (HA.out w.drew hf0.drew).mono ?_; rintro e w1 ⟨rfl, hf1'⟩; have hf1 : Fr Nob w w1 := hf0.drew.trans0 hf1'; clear hf1'))
  have c2 := K2.out w1 hf1
  have Hf1 := Lib.hid hf1
  clear hf1 hf0
  go_wp2_with fail
  refine (cx_until (HC.out w1 Hf1.out) i _ Hr.out).mono ?_
  rintro e w2 ⟨rfl, hf2⟩
  have Ha2 := Lib.hid (Ha.out.fr (Hf1.out.trans0 hf2) (fun q => q))
  have Hf2 := Lib.hid (Hf1.out.trans0 hf2)
  clear c2 hf2
  dsimp only [toR]
  have c4 := xcE4 Ha2.out eb
  have cB := xcR Ha2.out B hB
  have fB := blk_froz Ha2.out (16 + B)
  go_wp2_with fail
  go_region
  all_goals
    obtain ⟨wy, hwy⟩ : ∃ wy, wy = (w2.setCell ⟨ab, 16 + B, none⟩ (inV z.when')).drew := ⟨_, rfl⟩
    have hay : ActAt wy ab x (updR x.u B z.when') 0 false := by rw [hwy]; exact blk_drew' (xpR Ha2.out B hB _)
    have hfy : Fr (fun q => q = ab) w2 wy := by rw [hwy]; exact ((Fr.refl (fun q => q = ab) w2).setCell (p := ⟨ab, 16 + B, none⟩) (.inl rfl) _).drew
    try rw [← hwy]
    have Hay := Lib.hid hay; have Hfy := Lib.hid hfy
    clear hwy hay hfy c4 cB fB
    go_wp2_with fail
    have d5 := xcE5 Hay.out ec8
    have dC := xcR Hay.out C hC8
    have gC := blk_froz Hay.out (16 + C)
    have d5s := xcE5 (xpR Hay.out C hC8 (bitI z.has)) ec8
    go_region_held3 (fun W => W.cell? ⟨ab, 5, none⟩ = some (inV (C : Int)))
      ((first | with_reducible exact d5 | exact d5 | exact d5s))
      ((go_at_call 125; refine (world_bit wy.drew z.has).mono ?_; rintro e w9 ⟨rfl, rfl⟩))
    all_goals
      obtain ⟨wz, hwz⟩ : ∃ wz, wz = (wy.setCell ⟨ab, 16 + C, none⟩ (inV (bitI z.has))).drew := ⟨_, rfl⟩
      have haz : ActAt wz ab x (updR (updR x.u B z.when') C (bitI z.has)) 0 false := by rw [hwz]; exact blk_drew' (xpR Hay.out C hC8 _)
      have hfz : Fr (fun q => q = ab) wy wz := by rw [hwz]; exact ((Fr.refl (fun q => q = ab) wy).setCell (p := ⟨ab, 16 + C, none⟩) (.inl rfl) _).drew
      try rw [← hwz]
      have Haz := Lib.hid haz; have Hfz := Lib.hid hfz
      clear hwz haz hfz d5 dC gC d5s
      go_wp2_with fail
      refine (act_bad).mono ?_
      rintro e wz0 ⟨rfl, rfl⟩
      go_wp2_with fail
      refine bodyPost_ret (results_none Tryz.results96 _ _ _) rfl ⟨rfl, Ay.both (NX0.out.fr0 Hf2.out) (Nat.le_refl _) (Nat.le_refl _) (Hfy.out.trans0 Hfz.out) Haz.out hab hal⟩
end
/-- The contexts have turned. -/
theorem WP.fillCtx {w : World} {F : Nat → Nat → Prop} {c : Cfg} {P : Pg} {st : WS} {nd nm nm' : Nat} (h : WP (fun q => q = 5) w F c P st nd nm) (hnm : nm ≤ nm') {T : Nat → Prop} {cxr : List CxR} {cx : List CxS} {tr : List Nd} (ht : CxAt w T c.xb c.mb cxr tr nm') (hok : CxOk c.B st.nch cxr cx) (hT : ∀ p k, p ≠ 5 → F p k → T k → False) :
    WP H0 w (Go.Proofs.YtcffplgimbbflaaGreat.upd F 5 T) { c with cxr := cxr } P { st with cx := cx, tr := tr } nd nm' := by
  have key : ∀ p k, Go.Proofs.YtcffplgimbbflaaGreat.upd F 5 T p k → (p ≠ 5 ∧ F p k) ∨ (p = 5 ∧ T k) := fun p k q => by
    by_cases e : p = 5
    · subst e; rw [upd_same] at q; exact .inr ⟨rfl, q⟩
    · rw [upd_ne _ _ e] at q; exact .inl ⟨e, q⟩
  exact ⟨fun p k q => by
    rcases key p k q with q | q
    · exact h.lt p k q.2
    · exact ht.lt k q.2, fun p r k a b => by
    rcases key p k a with a | a
    · rcases key r k b with b | b
      · exact h.dis _ _ _ a.2 b.2
      · exact (hT p k a.1 a.2 b.2).elim
    · rcases key r k b with b | b
      · exact (hT r k b.1 b.2 a.2).elim
      · omega, h.own0, h.own1, fun _ => h.blk (by decide), fun _ => h.clk (by decide), fun _ => h.tab (by decide), fun _ => h.chs (by decide), fun _ => (h.tim (by decide)).mono hnm, fun _ => ht, fun _ => h.dls (by decide), fun _ => h.lks (by decide), fun _ => h.prg (by decide), fun _ => h.evs (by decide), fun _ => h.cas (by decide), fun _ => h.pool (by decide), h.chn, h.tml, hok, h.pad⟩
theorem CxOk.snoc0 {B : Nat → Nat} {n : Nat} {cxr : List CxR} {cx : List CxS} (h : CxOk B n cxr cx) (m : Nat) : CxOk B n (cxr ++ [⟨m, true, none, 0, 0, 0, false, false⟩]) (cx ++ [⟨m, true, none, 0, 0, 0, false, false⟩]) := by
  refine ⟨by rw [List.map_append, ← h.1]; rfl, fun x hx i hi => ?_⟩
  rcases List.mem_append.1 hx with q | q
  · exact h.2 x q i hi
  · simp at q; subst q; cases hi
section
variable {w : World} {S : Nat → Prop} {F : Nat → Nat → Prop} {c : Cfg} {P : Pg} {st : WS} {nd nm : Nat} (h : WP H0 w F c P st nd nm) (hS : ∀ k, S k ↔ Un F k) {ab : Nat} {x : Ax} (hwb : c.wb = x.wb) (ha : ActAt w ab x x.u 0 false) (hab : ¬ S ab) (A B C : Nat) (hA : A < 8) (hB : B < 8) (hC : C < 8) (ea : x.a = (A : Int)) (eb : x.b = (B : Int)) (ec : x.c = (C : Int)) (i : Nat) (hi : x.u B = (i : Int)) (z : CxS) (hz : st.cx[i]? = some z) (h64 : st.cx.length < 64) (h900 : st.tr.length < 900) (hnode : z.node < st.tr.length) (hnm : nm < 700000)
include h hS hwb ha hab hA hB hC ea eb ec hi hz h64 h900 hnode hnm
set_option maxHeartbeats 2000000 in
theorem act_without (eo : x.o = 25) :
    Calls Tryz.prog 91 #[ptV ab] w fun e w' => e = .returned (.tuple #[]) ∧ Ay w S ab x P { st with cx := st.cx ++ [⟨st.tr.length, true, none, 0, 0, 0, false, false⟩], tr := st.tr ++ [((z.node : Int), false)] } nd (nm + 1) (some (updR x.u A (st.cx.length : Int))) w' := by
  have hal := ha.lt
  have hr := h.cxl.get hz
  have HB := Lib.hid (fun W (hW : Fr Nob w W) => act_b (ha.fr hW (fun q => q)) B hB eb)
  rw [hi] at HB
  have HCc := Lib.hid (fun W (hW : Fr Nob w W) => act_c (ha.fr hW (fun q => q)) C hC ec)
  have HX := Lib.hid (fun W (hW : Fr Nob w W) => cx_without ((h.fr0 hW).ctx (fun q => q)) st.cx.length h.cxl.len h64 i _ hr hnode h900 (by omega))
  dsimp only [toR] at HX
  have hbk := h.blk (fun q => q)
  rw [hwb] at hbk
  have k0 : ∀ W, Fr Nob w W → W.cell? ⟨ab, 0, none⟩ = some (ptV x.wb) ∧ W.cell? ⟨x.wb, 6, none⟩ = some (ptV c.xb) := fun W hW => ⟨xc0 (ha.fr hW (fun q => q)), blk_cell (hW.blk (fun q => q) hbk) 6 rfl⟩
  have K0 := Lib.hid k0
  have k2 : ∀ W, Fr Nob w W → W.cell? ⟨ab, 2, none⟩ = some (inV 25) := fun W hW => xcO (ha.fr hW (fun q => q)) eo
  have K2 := Lib.hid k2
  have hAi : (A : Int) < 8 := by omega
  have Ha := Lib.hid ha; have H := Lib.hid h; have HS := Lib.hid hS; have Hwb := Lib.hid hwb
  have h5ab : ¬ F 5 ab := fun q => hab ((hS _).2 ⟨5, q⟩)
  have hln := h.cxl.len
  generalize hnn : st.cx.length = n at *
  have Hln := Lib.hid hln; have Hnn := Lib.hid hnn
  clear h hS hwb ha hbk k0 k2 hr hz hln hnn
  go_enter Tryz.func91, Tryz.ntmps91
  go_wp2_with fail
  have hf0 : Fr Nob w w := Fr.refl _ _
  go_region_held3 (fun W => W.cell? ⟨ab, 0, none⟩ = some (ptV x.wb) ∧ W.cell? ⟨x.wb, 6, none⟩ = some (ptV c.xb))
    ((refine K0.out _ ?_; first | with_reducible exact hf1 | with_reducible exact hf0.drew | exact hf0.drew))
    ((go_at_call 143; refine (HCc.out w.drew hf0.drew).mono ?_; rintro e w1 ⟨rfl, hf1'⟩; have hf1 : Fr Nob w w1 := hf0.drew.trans0 hf1'; clear hf1'))
  have c2 := K2.out w1 hf1
  have Hf1 := Lib.hid hf1
  clear hf1 hf0
  go_wp2_with fail
  refine (HB.out w1 Hf1.out).mono ?_
  rintro e w2 ⟨rfl, hf2⟩
  have Hf2 := Lib.hid (Hf1.out.trans0 hf2)
  clear hf2 c2
  go_wp2_with fail
  refine (HX.out w2 Hf2.out).mono ?_
  rintro e w3 ⟨S5, rfl, hf3, hc3, hs3⟩
  have Ha3 := Lib.hid ((Ha.out.fr Hf2.out (fun q => q)).fr hf3 h5ab)
  have Hf3 := Lib.hid hf3; have Hc3 := Lib.hid hc3; have Hs3 := Lib.hid hs3
  clear hf3 hc3 hs3
  go_wp2_with fail
  refine (act_bad).mono ?_
  rintro e _ ⟨rfl, rfl⟩
  go_wp2_with fail
  refine (cx_done Hc3.out n ⟨st.tr.length, true, none, 0, 0, 0, false, false⟩ (by rw [List.getElem?_append_right (by rw [Hln.out]; exact Nat.le_refl _), Hln.out, Nat.sub_self]; rfl)).mono ?_
  rintro e _ ⟨rfl, rfl⟩
  dsimp only [ptrO]
  go_wp2_with fail
  have c3 := xcE3 Ha3.out ea
  have cA := xcR Ha3.out A hA
  have fA := blk_froz Ha3.out (16 + A)
  go_region
  all_goals
    obtain ⟨wz, hwz⟩ : ∃ wz, wz = (w3.setCell ⟨ab, 16 + A, none⟩ (inV (n : Int))).drew := ⟨_, rfl⟩
    have haz : ActAt wz ab x (updR x.u A (n : Int)) 0 false := by rw [hwz]; exact blk_drew' (xpR Ha3.out A hA _)
    have hfz : Fr (fun q => q = ab) w3 wz := by rw [hwz]; exact ((Fr.refl (fun q => q = ab) w3).setCell (p := ⟨ab, 16 + A, none⟩) (.inl rfl) _).drew
    try rw [← hwz]
    have Haz := Lib.hid haz; have Hfz := Lib.hid hfz
    have z0 := xc0 haz
    clear hwz haz hfz c3 cA fA
    go_wp2_with fail
    refine (world_lapse_nil wz x.wb).mono ?_
    rintro e _ ⟨rfl, rfl⟩
    clear z0
    go_wp2_with fail
    go_end0
    have hz2 := Hf2.out.size; have hz3 := Hf3.out.size; have hzz := Hfz.out.size
    have hp := (H.out.fr0 Hf2.out).part 5 Hf3.out
    have h6 := hp.fillCtx (nm' := nm + 1) (by omega) Hc3.out (H.out.cxl.snoc0 st.tr.length) (fun p k n a q => by
      rcases Hs3.out k q with b | b
      · exact n (H.out.dis _ _ _ a b)
      · have := H.out.lt _ _ a; omega)
    have key6 : ∀ p k, Go.Proofs.YtcffplgimbbflaaGreat.upd F 5 S5 p k → S k ∨ w.heap.size ≤ k := fun p k q => by
      by_cases e : p = 5
      · subst e; rw [upd_same] at q
        rcases Hs3.out k q with b | b
        · exact .inl ((HS.out _).2 ⟨5, b⟩)
        · exact .inr (by omega)
      · rw [upd_ne _ _ e] at q; exact .inl ((HS.out _).2 ⟨p, q⟩)
    have h7 := h6.frame Hfz.out (fun _ q => q) (fun p k _ q e => by
      rcases key6 p k q with a | a
      · exact hab (by rw [← e]; exact a)
      · have e : k = ab := e
        omega)
    refine ⟨rfl, _, ?_, ⟨_, _, h7, Hwb.out, fun k => Iff.rfl⟩, fun k ⟨p, q⟩ => key6 p k q, Haz.out⟩
    exact (Hf2.out.none.trans0 (Hf3.out.mono fun k _ q => .inl ((HS.out k).2 ⟨5, q⟩))).trans0 (Hfz.out.mono fun k _ q => .inr q)
set_option maxHeartbeats 2000000 in
theorem act_cancels (eo : x.o = 22) (hn9 : st.nch < 90000) (herr : z.err = 0) :
    Calls Tryz.prog 91 #[ptV ab] w fun e w' => e = .returned (.tuple #[]) ∧ ∃ B', Ay w S ab x (P.1, B') { st with cx := st.cx ++ [⟨st.tr.length, false, some st.nch, 0, 0, z.when', z.has, false⟩], tr := st.tr ++ [((z.node : Int), true)], ch := Go.Proofs.YtcffplgimbbflaaGreat.upd st.ch st.nch (some chSignal), nch := st.nch + 1 } nd (nm + 1) (some (updR x.u A (st.cx.length : Int))) w' := by
  have hal := ha.lt
  have hr := h.cxl.get hz
  have HB := Lib.hid (fun W (hW : Fr Nob w W) => act_b (ha.fr hW (fun q => q)) B hB eb)
  rw [hi] at HB
  have HCc := Lib.hid (fun W (hW : Fr Nob w W) => act_c (ha.fr hW (fun q => q)) C hC ec)
  have HX := Lib.hid (fun W (hW : Fr Nob w W) => cx_cancels ((h.fr0 hW).ctx (fun q => q)) st.cx.length h.cxl.len h64 i _ hr hnode herr h900 (by omega))
  have hbk := h.blk (fun q => q)
  rw [hwb] at hbk
  have k0 : ∀ W, Fr Nob w W → W.cell? ⟨ab, 0, none⟩ = some (ptV x.wb) ∧ W.cell? ⟨x.wb, 6, none⟩ = some (ptV c.xb) := fun W hW => ⟨xc0 (ha.fr hW (fun q => q)), blk_cell (hW.blk (fun q => q) hbk) 6 rfl⟩
  have K0 := Lib.hid k0
  have k2 : ∀ W, Fr Nob w W → W.cell? ⟨ab, 2, none⟩ = some (inV 22) := fun W hW => xcO (ha.fr hW (fun q => q)) eo
  have K2 := Lib.hid k2
  have hAi : (A : Int) < 8 := by omega
  have Ha := Lib.hid ha; have H := Lib.hid h; have HS := Lib.hid hS; have Hwb := Lib.hid hwb
  have h5ab : ¬ F 5 ab := fun q => hab ((hS _).2 ⟨5, q⟩)
  have hln := h.cxl.len
  generalize hnn : st.cx.length = n at *
  have Hln := Lib.hid hln; have Hnn := Lib.hid hnn
  have hno : ¬ F 3 ab := fun q => hab ((hS _).2 ⟨3, q⟩)
  have hnw : ab ≠ c.wb := fun e => hab ((hS _).2 ⟨0, by rw [e]; exact h.own0⟩)
  clear h hS hwb ha hbk k0 k2 hr hz hln hnn
  go_enter Tryz.func91, Tryz.ntmps91
  go_wp2_with fail
  have hf0 : Fr Nob w w := Fr.refl _ _
  go_region_held3 (fun W => W.cell? ⟨ab, 0, none⟩ = some (ptV x.wb) ∧ W.cell? ⟨x.wb, 6, none⟩ = some (ptV c.xb))
    ((refine K0.out _ ?_; first | with_reducible exact hf1 | with_reducible exact hf0.drew | exact hf0.drew))
    ((go_at_call 143; refine (HCc.out w.drew hf0.drew).mono ?_; rintro e w1 ⟨rfl, hf1'⟩; have hf1 : Fr Nob w w1 := hf0.drew.trans0 hf1'; clear hf1'))
  have c2 := K2.out w1 hf1
  have Hf1 := Lib.hid hf1
  clear hf1 hf0
  go_wp2_with fail
  refine (HB.out w1 Hf1.out).mono ?_
  rintro e w2 ⟨rfl, hf2⟩
  have Hf2 := Lib.hid (Hf1.out.trans0 hf2)
  clear hf2 c2
  go_wp2_with fail
  refine (HX.out w2 Hf2.out).mono ?_
  rintro e w3 ⟨S5, T, cb, rfl, hf3, hc3, hch3, hT3, hST3, hs3⟩
  dsimp only [toR] at hc3
  have Ha3 := Lib.hid ((Ha.out.fr Hf2.out (fun q => q)).fr hf3 h5ab)
  have Hf3 := Lib.hid hf3; have Hc3 := Lib.hid hc3; have Hs3 := Lib.hid hs3; have Hch3 := Lib.hid hch3; have HT3 := Lib.hid hT3; have HST3 := Lib.hid hST3
  clear hf3 hc3 hs3 hch3 hT3 hST3
  go_wp2_with fail
  refine (act_bad).mono ?_
  rintro e _ ⟨rfl, rfl⟩
  go_wp2_with fail
  refine (cx_done Hc3.out n ⟨st.tr.length, false, some cb, 0, 0, z.when', z.has, false⟩ (by rw [List.getElem?_append_right (by rw [Hln.out]; exact Nat.le_refl _), Hln.out, Nat.sub_self]; rfl)).mono ?_
  rintro e _ ⟨rfl, rfl⟩
  dsimp only [ptrO]
  have Hz := Lib.hid ((H.out.fr0 Hf2.out).part 5 Hf3.out)
  have hop := open_raw (Hz.out.blk (by decide)) (Hz.out.chs (by decide)) (fun q => absurd (H.out.dis _ _ _ q H.out.own0) (by decide)) (by omega) cb
  rw [Hwb.out] at hop
  have Hop := Lib.hid hop
  clear hop
  have z0 := xc0 Ha3.out
  go_wp2_with fail
  refine Hop.out.mono ?_
  rintro e w5 ⟨v5, rfl, f5, b5, s5⟩
  have Ha5 := Lib.hid (ActAt.fr Ha3.out f5 (fun q => by rcases q with q | q; exact hnw q; exact hno q))
  have F5 := Lib.hid f5; have B5 := Lib.hid b5; have S5' := Lib.hid s5
  clear f5 b5 s5 z0
  go_wp2_with fail
  have c3 := xcE3 Ha5.out ea
  have cA := xcR Ha5.out A hA
  have fA := blk_froz Ha5.out (16 + A)
  go_region
  all_goals
    obtain ⟨wz, hwz⟩ : ∃ wz, wz = (w5.setCell ⟨ab, 16 + A, none⟩ (inV (n : Int))).drew := ⟨_, rfl⟩
    have haz : ActAt wz ab x (updR x.u A (n : Int)) 0 false := by rw [hwz]; exact blk_drew' (xpR Ha5.out A hA _)
    have hfz : Fr (fun q => q = ab) w5 wz := by rw [hwz]; exact ((Fr.refl (fun q => q = ab) w5).setCell (p := ⟨ab, 16 + A, none⟩) (.inl rfl) _).drew
    try rw [← hwz]
    have Haz := Lib.hid haz; have Hfz := Lib.hid hfz
    have z0 := xc0 haz
    clear hwz haz hfz c3 cA fA
    go_wp2_with fail
    refine (world_lapse_nil wz x.wb).mono ?_
    rintro e _ ⟨rfl, rfl⟩
    clear z0
    go_wp2_with fail
    go_end0
    have hz2 := Hf2.out.size; have hz3 := Hf3.out.size; have hz5 := F5.out.size; have hzz := Hfz.out.size
    have hTd : ∀ p k, F p k → T k → False := fun p k a q => by have := H.out.lt p k a; have := HT3.out k q; omega
    have h5 := Hz.out.addChan (w0 := w) (by decide) (by omega) Hch3.out hTd F5.out B5.out S5'.out
    have hc5 := Hc3.out.fr F5.out (fun k q e => by
      rcases Hs3.out k q with a | a
      · rcases e with e | e
        · exact absurd (H.out.dis _ _ _ a (by rw [e]; exact H.out.own0)) (by decide)
        · exact absurd (H.out.dis _ _ _ a e) (by decide)
      · rcases e with e | e
        · have := H.out.lt _ _ H.out.own0; omega
        · have := H.out.lt _ _ e; omega)
    have key5 : ∀ p k, Go.Proofs.YtcffplgimbbflaaGreat.upd (Go.Proofs.YtcffplgimbbflaaGreat.upd F 3 (And' (F 3) w3 w5)) 11 (fun k => F 11 k ∨ T k) p k → F p k ∨ w3.heap.size ≤ k ∨ T k := fun p k q => by
      by_cases e : p = 11
      · subst e; rw [upd_same] at q
        exact q.imp (fun q => q) fun q => .inr q
      · rw [upd_ne _ _ e] at q
        by_cases e3 : p = 3
        · subst e3; rw [upd_same] at q
          exact q.imp (fun q => q) fun q => .inl q.1
        · rw [upd_ne _ _ e3] at q; exact .inl q
    have h6 := h5.fillCtx (nm' := nm + 1) (by omega) hc5 (H.out.cxl.snoc st.tr.length z.when' z.has) (fun p k n a q => by
      rcases key5 p k a with a | a | a
      · rcases Hs3.out k q with b | b
        · exact n (H.out.dis _ _ _ a b)
        · have := H.out.lt _ _ a; omega
      · have := Hc3.out.lt k q; omega
      · exact HST3.out k q a)
    have key6 : ∀ p k, Go.Proofs.YtcffplgimbbflaaGreat.upd (Go.Proofs.YtcffplgimbbflaaGreat.upd (Go.Proofs.YtcffplgimbbflaaGreat.upd F 3 (And' (F 3) w3 w5)) 11 (fun k => F 11 k ∨ T k)) 5 S5 p k → S k ∨ w.heap.size ≤ k := fun p k q => by
      by_cases e : p = 5
      · subst e; rw [upd_same] at q
        rcases Hs3.out k q with b | b
        · exact .inl ((HS.out _).2 ⟨5, b⟩)
        · exact .inr (by omega)
      · rw [upd_ne _ _ e] at q
        rcases key5 p k q with a | a | a
        · exact .inl ((HS.out _).2 ⟨p, a⟩)
        · exact .inr (by omega)
        · have := HT3.out k a; exact .inr (by omega)
    have h7 := h6.frame Hfz.out (fun _ q => q) (fun p k _ q e => by
      rcases key6 p k q with a | a
      · exact hab (by rw [← e]; exact a)
      · have e : k = ab := e
        omega)
    refine ⟨rfl, _, _, ?_, ⟨_, _, h7, Hwb.out, fun k => Iff.rfl⟩, fun k ⟨p, q⟩ => key6 p k q, Haz.out⟩
    exact ((Hf2.out.none.trans0 (Hf3.out.mono fun k _ q => .inl ((HS.out k).2 ⟨5, q⟩))).trans0 (F5.out.mono fun k _ q => by
      rcases q with q | q
      · exact .inl ((HS.out k).2 ⟨0, by rw [q]; exact H.out.own0⟩)
      · exact .inl ((HS.out k).2 ⟨3, q⟩))).trans0 (Hfz.out.mono fun k _ q => .inr q)
end
theorem actCancel_some {st s : WS} {y : Ins} {r : Nat → Int} {o : Option (Nat → Int)} (h : st.actCancel y r = some (s, o)) : ∃ (i : Nat) (z : CxS) (j p : Nat) (cc : ChS), r y.1.2.1.toNat = (i : Int) ∧ 1 ≤ r y.1.2.2.1.toNat ∧ st.cx[i]? = some z ∧ z.free = false ∧ z.err = 0 ∧ z.ch = some j ∧ st.ch j = some cc ∧ st.tr[z.node]? = some ((p : Int), true) ∧ kids st.tr z.node = [] ∧ st.ev.length < 1000 ∧ o = some r ∧
    ({ st with cx := st.cx.set i { z with err := 1, cause := r y.1.2.2.1.toNat }, ch := Go.Proofs.YtcffplgimbbflaaGreat.upd st.ch j (some cc.endS), tr := st.tr.set z.node ((p : Int), false) }.tell 7 (-1) i 1 (r y.1.2.2.1.toNat)).wakes cc.endR = some s := by
  unfold WS.actCancel at h
  dsimp only at h
  split at h
  · cases h
  · next h0 =>
    obtain ⟨i, hi⟩ : ∃ i : Nat, r y.1.2.1.toNat = (i : Int) := ⟨(r y.1.2.1.toNat).toNat, by omega⟩
    rw [hi, show ((i : Int)).toNat = i by omega] at h
    split at h
    · cases h
    · next z hz =>
      split at h
      · cases h
      · next hf =>
        split at h
        · cases h
        · next s1 h1 =>
          cases h
          unfold WS.cancel at h1
          rw [hz] at h1
          dsimp only at h1
          split at h1
          · cases h1
          · next hfe =>
            split at h1
            · cases h1
            · next j hj =>
              split at h1
              · cases h1
              · next cc hcc =>
                split at h1
                · cases h1
                · next par linked htr =>
                  split at h1
                  · cases h1
                  · next hg =>
                    have g1 : kids st.tr z.node = [] := Classical.not_not.1 fun q => hg (.inl q)
                    have g2 : linked = true := by cases hl : linked; exact absurd (.inr (.inl (by rw [hl]; rfl))) hg; rfl
                    have g3 : 0 ≤ par := Int.not_lt.1 fun q => hg (.inr (.inr (.inl q)))
                    have g4 : ¬ 1000 ≤ st.ev.length := fun q => hg (.inr (.inr (.inr q)))
                    subst g2
                    have hp : par = (par.toNat : Int) := by omega
                    rw [hp] at htr h1
                    exact ⟨i, z, j, par.toNat, cc, hi, by omega, hz, by simpa using hf, Classical.not_not.1 fun q => hfe (.inr q), hj, hcc, htr, g1, by omega, rfl, h1⟩
section
variable {w : World} {S : Nat → Prop} {F : Nat → Nat → Prop} {c : Cfg} {P : Pg} {st : WS} {nd nm : Nat} (h : WP H0 w F c P st nd nm) (hS : ∀ k, S k ↔ Un F k) {ab : Nat} {x : Ax} (hwb : c.wb = x.wb) (ha : ActAt w ab x x.u 0 false) (hab : ¬ S ab)
include h hS hwb ha hab
set_option maxHeartbeats 4000000 in
theorem do_cancel (eo : x.o = 26) (A B : Nat) (hA : A < 8) (hB : B < 8) (ea : x.a = (A : Int)) (eb : x.b = (B : Int)) (i : Nat) (hi : x.u A = (i : Int)) (hc1 : 1 ≤ x.u B) (z : CxS) (hz : st.cx[i]? = some z) (hfree : z.free = false) (herr : z.err = 0) (j p : Nat) (hch : z.ch = some j) {cc : ChS} (hj : st.ch j = some cc) (hlink : st.tr[z.node]? = some ((p : Int), true)) (hkids : kids st.tr z.node = []) (hev : st.ev.length < 1000) (hnd : nd ≤ 100000000000)
    {s : WS} (hs : ({ st with cx := st.cx.set i { z with err := 1, cause := x.u B }, ch := Go.Proofs.YtcffplgimbbflaaGreat.upd st.ch j (some cc.endS), tr := st.tr.set z.node ((p : Int), false) }.tell 7 (-1) i 1 (x.u B)).wakes cc.endR = some s) :
    Calls Tryz.prog 59 #[ptV ab] w fun e w' => e = .returned (.tuple #[]) ∧ Ay w S ab x P s (nd + 1000) nm (some x.u) w' := by
  have hal := ha.lt
  have hr := h.cxl.get hz
  obtain ⟨hl, hwk⟩ := wakes_some hs
  have HA := Lib.hid (fun W (hW : Fr Nob w W) => act_a (ha.fr hW (fun q => q)) A hA ea)
  rw [hi] at HA
  have HB := Lib.hid (fun W (hW : Fr Nob w W) => act_b (ha.fr hW (fun q => q)) B hB eb)
  have dd : ∀ p q : Nat, p ≠ q → ∀ k, F p k → F q k → False := fun p q n k a b => n (h.dis _ _ _ a b)
  have HX := Lib.hid (fun W (hW : Fr Nob w W) => cx_over ((h.fr0 hW).ctx (fun q => q)) ((h.fr0 hW).tim (fun q => q)) ((h.fr0 hW).pool (fun q => q)) (dd 5 4 (by decide)) (dd 5 11 (by decide)) (dd 4 11 (by decide)) i _ hr hfree herr j (by unfold toR; rw [hch]; rfl) hj p hlink hkids (x.u B) hc1 cc.endR cc.endR.length rfl rfl)
  have hn2 := chn_upd h.chn hj cc.endS
  have hcx := h.cxl.set i z hz 1 (x.u B)
  have hbk := h.blk (fun q => q)
  rw [hwb] at hbk
  have k0 : ∀ W, Fr Nob w W → W.cell? ⟨ab, 0, none⟩ = some (ptV x.wb) ∧ W.cell? ⟨x.wb, 6, none⟩ = some (ptV c.xb) := fun W hW => ⟨xc0 (ha.fr hW (fun q => q)), blk_cell (hW.blk (fun q => q) hbk) 6 rfl⟩
  have c2 : w.cell? ⟨ab, 2, none⟩ = some (inV 26) := xcO ha eo
  have hsub : ∀ k, Or' (F 5) (F 11) k → S k := fun k q => by
    rcases q with q | q
    · exact (hS k).2 ⟨5, q⟩
    · exact (hS k).2 ⟨11, q⟩
  have hlt : ∀ k, S k → k < w.heap.size := WAt.lt (show WAt w S x.wb P st nd nm from ⟨F, c, h, hwb, hS⟩)
  have k1 : ∀ W, Fr (Or' (F 5) (F 11)) w W → W.cell? ⟨ab, 0, none⟩ = some (ptV x.wb) ∧ W.cell? ⟨x.wb, 6, none⟩ = some (ptV c.xb) := fun W hW => ⟨xc0 (ha.fr hW (fun q => hab (hsub _ q))), blk_cell (hW.blk (fun q => by
    rw [← hwb] at q
    rcases q with q | q
    · exact dd 5 0 (by decide) _ q h.own0
    · exact dd 11 0 (by decide) _ q h.own0) hbk) 6 rfl⟩
  have K0 := Lib.hid k0; have K1 := Lib.hid k1
  have H := Lib.hid h; have HS := Lib.hid hS; have Hwb := Lib.hid hwb; have Ha := Lib.hid ha; have Hwk := Lib.hid hwk; have Hn2 := Lib.hid hn2; have Hcx := Lib.hid hcx; have Hsub := Lib.hid hsub; have Hlt := Lib.hid hlt
  generalize hnw : cc.endR.length = nw at *
  have Hnw := Lib.hid hnw
  clear h hS hwb ha hbk k0 k1 hr hz hs hwk hn2 hcx hsub hlt hnw dd hfree herr hch hj hlink hkids
  go_enter Tryz.func59, Tryz.ntmps59
  go_wp2_with fail
  have hf0 : Fr Nob w w := Fr.refl _ _
  go_region_held3 (fun W => W.cell? ⟨ab, 0, none⟩ = some (ptV x.wb) ∧ W.cell? ⟨x.wb, 6, none⟩ = some (ptV c.xb))
    ((first | (refine K0.out _ ?_; first | with_reducible exact hcb | with_reducible exact hca | with_reducible exact hf0.drew) | (refine K1.out _ ?_; with_reducible exact hf4) | exact K0.out _ hf0.drew))
    ((first
      | (go_at_call 92; refine (HX.out w3 hcb).mono ?_; rintro e w4 ⟨ob, A4, cp4, rfl, hf4', hc4, hp4, hb4, hob4, hsl4⟩; have hf4 : Fr (Or' (F 5) (F 11)) w w4 := hcb.none.trans0 hf4'; have Hf4' := Lib.hid hf4'; have Hc4 := Lib.hid hc4; have Hp4 := Lib.hid hp4; have Hb4 := Lib.hid hb4; have Hob4 := Lib.hid hob4; have Hsl4 := Lib.hid hsl4; clear hf4' hc4 hp4 hb4 hob4 hsl4)
      | (go_at_call 93; refine (HA.out w.drew hf0.drew).mono ?_; rintro e w2 ⟨rfl, hca'⟩; have hca : Fr Nob w w2 := hf0.drew.trans0 hca'; clear hca')
      | (go_at_call 94; refine (HB.out w2 hca).mono ?_; rintro e w3 ⟨rfl, hcb'⟩; have hcb : Fr Nob w w3 := hca.trans0 hcb'; clear hcb')))
  all_goals
    have Hf4 := Lib.hid hf4; have Hcb := Lib.hid hcb
    have Ha4 := Lib.hid (Ha.out.fr hf4 (fun q => hab (Hsub.out _ q)))
    clear hf4 hcb hca hf0
    go_wp2_with fail
    refine (act_bad).mono ?_
    rintro e _ ⟨rfl, rfl⟩
    have h' := (H.out.fr0 Hcb.out).part2 5 11 Hf4'.out
    have hw4 : WAt w4 S x.wb P { st with cx := st.cx.set i { z with err := 1, cause := x.u B }, ch := Go.Proofs.YtcffplgimbbflaaGreat.upd st.ch j (some cc.endS), tr := st.tr.set z.node ((p : Int), false) } nd nm := ⟨F, { c with cxr := c.cxr.set i { toR c.B z with err := 1, cause := x.u B } }, ⟨h'.lt, h'.dis, h'.own0, h'.own1, fun _ => h'.blk (by decide), fun _ => h'.clk (by decide), fun _ => h'.tab (by decide), fun _ => h'.chs (by decide), fun _ => h'.tim (by decide), fun _ => Hc4.out, fun _ => h'.dls (by decide), fun _ => h'.lks (by decide), fun _ => h'.prg (by decide), fun _ => h'.evs (by decide), fun _ => h'.cas (by decide), fun _ => Hp4.out, Hn2.out, h'.tml, Hcx.out, h'.pad⟩, Hwb.out, HS.out⟩
    have Hw4 := Lib.hid hw4
    have hz3 := Hcb.out.size
    have hz4 := Hf4'.out.size
    have hzo := lt_of_block Hb4.out
    have z0 := xc0 Ha4.out
    clear h' hw4
    go_wp2_with fail
    refine (world_lapse Hw4.out (by show st.ev.length < 1000000; omega) (i : Int) 1 (x.u B) cc.endR nw Hnw.out Hwk.out ob A4 cp4 Hb4.out (fun q => by have := Hlt.out ob q; have := Hob4.out; omega) Hsl4.out (fun k a b => by have := Hlt.out k a; have := b.1; omega) (fun k b => by have := b.2; omega) (by omega)).mono ?_
    rintro e w5 ⟨rfl, hn5⟩
    have Hn5 := Lib.hid hn5
    clear hn5 z0
    go_wp2_with fail
    go_end0
    refine ⟨rfl, Ay.of (Nx.step (Hf4.out.mono fun k _ q => Hsub.out k q) (fun k q => .inl q) Hn5.out) (by omega) (Nat.le_refl _) Ha.out hab⟩
end
theorem actCx_some {st s : WS} {y : Ins} {r : Nat → Int} {o : Option (Nat → Int)} (h : st.actCx y r = some (s, o)) : ∃ (i : Nat) (z : CxS), r y.1.2.2.1.toNat = (i : Int) ∧ st.cx[i]? = some z ∧ st.cx.length < 64 ∧ st.tr.length < 900 ∧ st.nch < 90000 ∧ z.err = 0 ∧ z.node < st.tr.length ∧ o = some (updR r y.1.2.1.toNat (st.cx.length : Int)) ∧
    ((y.1.1 = 25 ∧ s = { st with cx := st.cx ++ [⟨st.tr.length, true, none, 0, 0, 0, false, false⟩], tr := st.tr ++ [((z.node : Int), false)] }) ∨
     (y.1.1 ≠ 25 ∧ s = { st with cx := st.cx ++ [⟨st.tr.length, false, some st.nch, 0, 0, z.when', z.has, false⟩], tr := st.tr ++ [((z.node : Int), true)], ch := Go.Proofs.YtcffplgimbbflaaGreat.upd st.ch st.nch (some chSignal), nch := st.nch + 1 })) := by
  unfold WS.actCx at h
  split at h
  · cases h
  · next s1 n1 h1 =>
    cases h
    unfold WS.newCx at h1
    split at h1
    · cases h1
    · next hg =>
      obtain ⟨i, hi⟩ : ∃ i : Nat, r y.1.2.2.1.toNat = (i : Int) := ⟨(r y.1.2.2.1.toNat).toNat, by omega⟩
      rw [hi, show ((i : Int)).toNat = i by omega] at h1
      split at h1
      · cases h1
      · next z hz =>
        split at h1
        · cases h1
        · next he =>
          have e1 : z.err = 0 := Classical.not_not.1 fun q => he (.inl q)
          have e2 : z.node < st.tr.length := Nat.lt_of_not_le fun q => he (.inr q)
          by_cases e : y.1.1 = 25
          · simp [e] at h1
            obtain ⟨rfl, rfl⟩ := h1
            exact ⟨i, z, hi, hz, by omega, by omega, by omega, e1, e2, rfl, .inl ⟨e, rfl⟩⟩
          · simp [e] at h1
            obtain ⟨rfl, rfl⟩ := h1
            exact ⟨i, z, hi, hz, by omega, by omega, by omega, e1, e2, rfl, .inr ⟨e, rfl⟩⟩
set_option maxHeartbeats 1000000 in
theorem do_without : DoC (fun op => op = 25) := by
  intro w S P st nd nm ab x h ha hab id y hx hreg hfew hnd hnm hins h16 hcs s o hs e
  have h1 := h
  obtain ⟨F, c, hw, hwb, hS⟩ := h1
  obtain ⟨A, hA, hyA, hyBC⟩ := regs_of hreg
  have ea := hx.a.trans hyA
  have tn : ∀ n : Nat, (n : Int).toNat = n := fun n => by omega
  have ho := hx.o
  have eo := ho.trans e
  have hc : st.actCx y x.u = some (s, o) := by simpa [WS.act, e] using hs
  obtain ⟨B, C, hB, hC, hyB, hyC⟩ := hyBC (by omega) (by omega)
  have eb := hx.b.trans hyB
  have ecc := hx.c.trans hyC
  obtain ⟨i, z, hi, hz, h64, h900, hn9, herr, hnode, rfl, hcase⟩ := actCx_some hc
  have hs1 := hcase.resolve_right fun q => q.1 e
  obtain ⟨_, rfl⟩ := hs1
  rw [hyB, tn] at hi
  rw [hyA, tn]
  have c2 := xcO ha eo
  have Hcall := Lib.hid (act_without hw hS hwb ha hab A B C hA hB hC ea eb ecc i hi z hz h64 h900 hnode (by omega) eo)
  clear hc eo hcase hz
  clear hs hx hreg hfew h ha hins hcs
  go_enter Tryz.func59, Tryz.ntmps59
  go_wp2_with fail
  refine Hcall.out.mono ?_
  rintro e w2 ⟨rfl, hay⟩
  have Hay := Lib.hid hay
  clear hay c2
  go_wp2_with fail
  go_end0
  exact ⟨rfl, P.2, Ay.later (Fr.refl _ _) Hay.out (by omega) (by omega)⟩
set_option maxHeartbeats 1000000 in
theorem do_cancels : DoC (fun op => op = 22) := by
  intro w S P st nd nm ab x h ha hab id y hx hreg hfew hnd hnm hins h16 hcs s o hs e
  have h1 := h
  obtain ⟨F, c, hw, hwb, hS⟩ := h1
  obtain ⟨A, hA, hyA, hyBC⟩ := regs_of hreg
  have ea := hx.a.trans hyA
  have tn : ∀ n : Nat, (n : Int).toNat = n := fun n => by omega
  have ho := hx.o
  have eo := ho.trans e
  have hc : st.actCx y x.u = some (s, o) := by simpa [WS.act, e] using hs
  obtain ⟨B, C, hB, hC, hyB, hyC⟩ := hyBC (by omega) (by omega)
  have eb := hx.b.trans hyB
  have ecc := hx.c.trans hyC
  obtain ⟨i, z, hi, hz, h64, h900, hn9, herr, hnode, rfl, hcase⟩ := actCx_some hc
  have hs1 := hcase.resolve_left fun q => by omega
  obtain ⟨_, rfl⟩ := hs1
  rw [hyB, tn] at hi
  rw [hyA, tn]
  have c2 := xcO ha eo
  have Hcall := Lib.hid (act_cancels hw hS hwb ha hab A B C hA hB hC ea eb ecc i hi z hz h64 h900 hnode (by omega) eo hn9 herr)
  clear hc eo hcase hz
  clear hs hx hreg hfew h ha hins hcs
  go_enter Tryz.func59, Tryz.ntmps59
  go_wp2_with fail
  refine Hcall.out.mono ?_
  rintro e w2 ⟨rfl, hay⟩
  have Hay := Lib.hid hay
  clear hay c2
  go_wp2_with fail
  go_end0
  obtain ⟨B', q⟩ := Hay.out
  exact ⟨rfl, B', Ay.later (Fr.refl _ _) q (by omega) (by omega)⟩
set_option maxHeartbeats 1000000 in
theorem do_over : DoC (fun op => op = 26) := by
  intro w S P st nd nm ab x h ha hab id y hx hreg hfew hnd hnm hins h16 hcs s o hs e
  have h1 := h
  obtain ⟨F, c, hw, hwb, hS⟩ := h1
  obtain ⟨A, hA, hyA, hyBC⟩ := regs_of hreg
  have ea := hx.a.trans hyA
  have tn : ∀ n : Nat, (n : Int).toNat = n := fun n => by omega
  have ho := hx.o
  have eo := ho.trans e
  have hc : st.actCancel y x.u = some (s, o) := by simpa [WS.act, e] using hs
  obtain ⟨B, C, hB, hC, hyB, hyC⟩ := hyBC (by omega) (by omega)
  have eb := hx.b.trans hyB
  have ecc := hx.c.trans hyC
  obtain ⟨i, z, j, p, cc, hi, hc1, hz, hfree, herr, hch, hj, hlink, hkids, hev, rfl, hwk⟩ := actCancel_some hc
  rw [hyA, tn] at hi
  rw [hyB, tn] at hc1 hwk
  refine (do_cancel hw hS hwb ha hab eo A B hA hB ea eb i hi hc1 z hz hfree herr j p hch hj hlink hkids hev hnd hwk).mono ?_
  rintro e w2 ⟨rfl, hay⟩
  exact ⟨rfl, P.2, Ay.later (Fr.refl _ _) hay (by omega) (by omega)⟩
set_option maxHeartbeats 1000000 in
theorem do_ask27 : DoC (fun op => op = 27) := by
  intro w S P st nd nm ab x h ha hab id y hx hreg hfew hnd hnm hins h16 hcs s o hs e
  have h1 := h
  obtain ⟨F, c, hw, hwb, hS⟩ := h1
  obtain ⟨A, hA, hyA, hyBC⟩ := regs_of hreg
  have ea := hx.a.trans hyA
  have tn : ∀ n : Nat, (n : Int).toNat = n := fun n => by omega
  have ho := hx.o
  have eo := ho.trans e
  have hc : st.actAsk y x.u = some (s, o) := by simpa [WS.act, e] using hs
  obtain ⟨B, C, hB, hC, hyB, hyC⟩ := hyBC (by omega) (by omega)
  have eb := hx.b.trans hyB
  have ecc := hx.c.trans hyC
  obtain ⟨i, z, hi, hz, rfl, hcase⟩ := actAsk_some hc
  rw [hyA, tn] at hi
  rw [hyB, hyC, tn, tn] at hcase
  have c2 := xcO ha eo
  have ho2 : o = some (updR x.u B z.err) := by
    rcases hcase with ⟨a, b⟩ | ⟨a, b⟩ | ⟨a, _⟩ | ⟨a, _⟩ | ⟨a, a2, a3, b⟩
    all_goals first | exact b | (exact absurd e (by omega)) | (exact absurd e a) | (exact absurd e a2)
  subst ho2
  have Hcall := Lib.hid (act_ask27 hw hS hwb ha hab A B hA hB ea eb i hi z hz eo)
  clear hc eo hcase hz
  clear hs hx hreg hfew h ha hins hcs
  go_enter Tryz.func59, Tryz.ntmps59
  go_wp2_with fail
  refine Hcall.out.mono ?_
  rintro e w2 ⟨rfl, hay⟩
  have Hay := Lib.hid hay
  clear hay c2
  go_wp2_with fail
  go_end0
  exact ⟨rfl, P.2, Ay.later (Fr.refl _ _) Hay.out (by omega) (by omega)⟩
set_option maxHeartbeats 1000000 in
theorem do_ask28 : DoC (fun op => op = 28) := by
  intro w S P st nd nm ab x h ha hab id y hx hreg hfew hnd hnm hins h16 hcs s o hs e
  have h1 := h
  obtain ⟨F, c, hw, hwb, hS⟩ := h1
  obtain ⟨A, hA, hyA, hyBC⟩ := regs_of hreg
  have ea := hx.a.trans hyA
  have tn : ∀ n : Nat, (n : Int).toNat = n := fun n => by omega
  have ho := hx.o
  have eo := ho.trans e
  have hc : st.actAsk y x.u = some (s, o) := by simpa [WS.act, e] using hs
  obtain ⟨B, C, hB, hC, hyB, hyC⟩ := hyBC (by omega) (by omega)
  have eb := hx.b.trans hyB
  have ecc := hx.c.trans hyC
  obtain ⟨i, z, hi, hz, rfl, hcase⟩ := actAsk_some hc
  rw [hyA, tn] at hi
  rw [hyB, hyC, tn, tn] at hcase
  have c2 := xcO ha eo
  have ho2 : o = some (updR x.u B z.cause) := by
    rcases hcase with ⟨a, b⟩ | ⟨a, b⟩ | ⟨a, _⟩ | ⟨a, _⟩ | ⟨a, a2, a3, b⟩
    all_goals first | exact b | (exact absurd e (by omega)) | (exact absurd e a) | (exact absurd e a2)
  subst ho2
  have Hcall := Lib.hid (act_ask28 hw hS hwb ha hab A B hA hB ea eb i hi z hz eo)
  clear hc eo hcase hz
  clear hs hx hreg hfew h ha hins hcs
  go_enter Tryz.func59, Tryz.ntmps59
  go_wp2_with fail
  refine Hcall.out.mono ?_
  rintro e w2 ⟨rfl, hay⟩
  have Hay := Lib.hid hay
  clear hay c2
  go_wp2_with fail
  go_end0
  exact ⟨rfl, P.2, Ay.later (Fr.refl _ _) Hay.out (by omega) (by omega)⟩
set_option maxHeartbeats 1000000 in
theorem do_ask29 : DoC (fun op => op = 29) := by
  intro w S P st nd nm ab x h ha hab id y hx hreg hfew hnd hnm hins h16 hcs s o hs e
  have h1 := h
  obtain ⟨F, c, hw, hwb, hS⟩ := h1
  obtain ⟨A, hA, hyA, hyBC⟩ := regs_of hreg
  have ea := hx.a.trans hyA
  have tn : ∀ n : Nat, (n : Int).toNat = n := fun n => by omega
  have ho := hx.o
  have eo := ho.trans e
  have hc : st.actAsk y x.u = some (s, o) := by simpa [WS.act, e] using hs
  obtain ⟨B, C, hB, hC, hyB, hyC⟩ := hyBC (by omega) (by omega)
  have eb := hx.b.trans hyB
  have ecc := hx.c.trans hyC
  obtain ⟨i, z, hi, hz, rfl, hcase⟩ := actAsk_some hc
  rw [hyA, tn] at hi
  rw [hyB, hyC, tn, tn] at hcase
  have c2 := xcO ha eo
  have hd : (z.ch = none ∧ o = some (updR x.u B (-1))) ∨ ∃ j : Nat, z.ch = some j ∧ o = some (updR x.u B j) := by
    rcases hcase with ⟨a, b⟩ | ⟨a, b⟩ | ⟨a, b⟩ | ⟨a, b⟩ | ⟨a, a2, a3, b⟩
    · omega
    · omega
    · exact .inl b
    · exact .inr b
    · exact absurd e a3
  rcases hd with ⟨hch, rfl⟩ | ⟨j, hch, rfl⟩
  · have Hcall := Lib.hid (act_ask29n hw hS hwb ha hab A B hA hB ea eb i hi z hz eo hch)
    clear hc eo hcase hz
    clear hs hx hreg hfew h ha hins hcs
    go_enter Tryz.func59, Tryz.ntmps59
    go_wp2_with fail
    refine Hcall.out.mono ?_
    rintro e w2 ⟨rfl, hay⟩
    have Hay := Lib.hid hay
    clear hay c2
    go_wp2_with fail
    go_end0
    exact ⟨rfl, P.2, Ay.later (Fr.refl _ _) Hay.out (by omega) (by omega)⟩
  · have Hcall := Lib.hid (act_ask29 hw hS hwb ha hab A B hA hB ea eb i hi z hz eo j hch)
    clear hc eo hcase hz
    clear hs hx hreg hfew h ha hins hcs
    go_enter Tryz.func59, Tryz.ntmps59
    go_wp2_with fail
    refine Hcall.out.mono ?_
    rintro e w2 ⟨rfl, hay⟩
    have Hay := Lib.hid hay
    clear hay c2
    go_wp2_with fail
    go_end0
    exact ⟨rfl, P.2, Ay.later (Fr.refl _ _) Hay.out (by omega) (by omega)⟩
set_option maxHeartbeats 1000000 in
theorem do_ask30 : DoC (fun op => op = 30) := by
  intro w S P st nd nm ab x h ha hab id y hx hreg hfew hnd hnm hins h16 hcs s o hs e
  have h1 := h
  obtain ⟨F, c, hw, hwb, hS⟩ := h1
  obtain ⟨A, hA, hyA, hyBC⟩ := regs_of hreg
  have ea := hx.a.trans hyA
  have tn : ∀ n : Nat, (n : Int).toNat = n := fun n => by omega
  have ho := hx.o
  have eo := ho.trans e
  have hc : st.actAsk y x.u = some (s, o) := by simpa [WS.act, e] using hs
  obtain ⟨B, C, hB, hC, hyB, hyC⟩ := hyBC (by omega) (by omega)
  have eb := hx.b.trans hyB
  have ecc := hx.c.trans hyC
  obtain ⟨i, z, hi, hz, rfl, hcase⟩ := actAsk_some hc
  rw [hyA, tn] at hi
  rw [hyB, hyC, tn, tn] at hcase
  have c2 := xcO ha eo
  have ho2 : o = some (updR (updR x.u B z.when') C (bitI z.has)) := by
    rcases hcase with ⟨a, b⟩ | ⟨a, b⟩ | ⟨a, _⟩ | ⟨a, _⟩ | ⟨a, a2, a3, b⟩
    · omega
    · omega
    · omega
    · omega
    · exact b
  subst ho2
  have Hcall := Lib.hid (act_ask30 hw hS hwb ha hab A B C hA hB ea eb i hi z hz hC ecc (by omega) (by omega) (by omega))
  clear hc eo hcase hz
  clear hs hx hreg hfew h ha hins hcs
  go_enter Tryz.func59, Tryz.ntmps59
  go_wp2_with fail
  refine Hcall.out.mono ?_
  rintro e w2 ⟨rfl, hay⟩
  have Hay := Lib.hid hay
  clear hay c2
  go_wp2_with fail
  go_end0
  exact ⟨rfl, P.2, Ay.later (Fr.refl _ _) Hay.out (by omega) (by omega)⟩
def pB (c o : Int) : List Ins := [ins 22 1 0 0, ins 25 2 1 0, ins 22 3 2 0, ins 1 4 c 0, ins 26 1 4 0, ins 27 1 5 0, ins 6 5 0 0, ins 27 3 5 0, ins 6 5 0 0, ins 28 1 5 0, ins 6 5 0 0, ins 29 2 5 0, ins 6 5 0 0, ins 1 4 o 0, ins 26 3 4 0, ins 28 3 5 0, ins 6 5 0 0, ins 28 1 5 0, ins 6 5 0 0, ins 30 3 5 6, ins 6 6 0 0]
def evB (c o : Int) : List Ev := [(4, 7, -1, 1, 1, c), (6, 1, 0, 1, 0, 0), (8, 1, 0, 0, 0, 0), (10, 1, 0, c, 0, 0), (12, 1, 0, -1, 0, 0), (14, 7, -1, 3, 1, o), (16, 1, 0, o, 0, 0), (18, 1, 0, c, 0, 0), (20, 1, 0, 0, 0, 0), (21, 4, 0, 0, 0, 0)]
theorem playB (k j : Nat) : (plays [pB ((k + 3 : Nat) : Int) ((j + 3 : Nat) : Int)] ws0 (runsE 22)).map (fun x => x.2) = some (evB ((k + 3 : Nat) : Int) ((j + 3 : Nat) : Int)) := by kernel_rfl
theorem goodBh (c o : Int) : progB (pB c o) = true := rfl
theorem WAt.len {w : World} {S : Nat → Prop} {wb : Nat} {P : Pg} {st : WS} {nd nm : Nat} (h : WAt w S wb P st nd nm) {i : Nat} {c : ChS} (hi : st.ch i = some c) (hn : i < st.nch) (n : Nat) (hl : c.lenR = n) : Calls Tryz.prog 16 #[ptV (P.2 i)] w fun e w' => e = .returned (inV (n : Int)) ∧ w = w' := by
  obtain ⟨F, c', h, rfl, hS⟩ := h
  rw [← h.pad.2.2 i hn]
  exact pool_len (h.pool id) i hi n hl
theorem WAt.cap {w : World} {S : Nat → Prop} {wb : Nat} {P : Pg} {st : WS} {nd nm : Nat} (h : WAt w S wb P st nd nm) {i : Nat} {c : ChS} (hi : st.ch i = some c) (hn : i < st.nch) (n : Nat) (hl : c.capR = n) : Calls Tryz.prog 17 #[ptV (P.2 i)] w fun e w' => e = .returned (inV (n : Int)) ∧ w = w' := by
  obtain ⟨F, c', h, rfl, hS⟩ := h
  rw [← h.pad.2.2 i hn]
  exact pool_cap (h.pool id) i hi n hl
/-- Operations that TopBehind needs. -/
def K3 (op : Int) : Prop := op = 22 ∨ op = 25 ∨ op = 26 ∨ op = 27 ∨ op = 28 ∨ op = 29 ∨ op = 30
theorem doc3 : DoC K3 := by
  intro w S P st nd nm ab x a b c id y d e f g1 g2 g3 g4 g5 s o g6 g7
  rcases g7 with q | q | q | q | q | q | q
  · exact do_cancels a b c d e f g1 g2 g3 g4 g5 g6 q
  · exact do_without a b c d e f g1 g2 g3 g4 g5 g6 q
  · exact do_over a b c d e f g1 g2 g3 g4 g5 g6 q
  · exact do_ask27 a b c d e f g1 g2 g3 g4 g5 g6 q
  · exact do_ask28 a b c d e f g1 g2 g3 g4 g5 g6 q
  · exact do_ask29 a b c d e f g1 g2 g3 g4 g5 g6 q
  · exact do_ask30 a b c d e f g1 g2 g3 g4 g5 g6 q
theorem nocs_bh (c o : Int) : NoCs [pB c o] := noCs_of rfl
theorem ok_bh (c o : Int) (dr : Int) : PgOk K3 [pB c o] dr := by
  refine ⟨fun p hp y hy hm => ?_, fun p hp y hy _ _ _ _ _ => (nocs_bh c o p hp y hy).1⟩
  simp only [List.mem_singleton] at hp
  subst hp
  have : ∀ y ∈ pB c o, mineB y.1.1 = true ∨ K3 y.1.1 := by
    intro y hy
    simp only [pB, List.mem_cons, List.not_mem_nil, or_false] at hy
    unfold K3
    rcases hy with rfl | rfl | rfl | rfl | rfl | rfl | rfl | rfl | rfl | rfl | rfl | rfl | rfl | rfl | rfl | rfl | rfl | rfl | rfl | rfl | rfl
    all_goals first | (left; rfl) | (right; omega) | (right; simp)
  rcases this y hy with h | h
  · rw [h] at hm; cases hm
  · exact h
theorem starts_bh (c o : Int) : ∀ p ∈ [pB c o], progB p = true ∧ ∀ y ∈ p, startsI y < [pB c o].length := by
  intro p hp
  simp only [List.mem_singleton] at hp
  subst hp
  refine ⟨goodBh c o, fun y hy => ?_⟩
  simp only [pB, List.mem_cons, List.not_mem_nil, or_false] at hy
  rcases hy with rfl | rfl | rfl | rfl | rfl | rfl | rfl | rfl | rfl | rfl | rfl | rfl | rfl | rfl | rfl | rfl | rfl | rfl | rfl | rfl | rfl <;> simp [startsI, ins]
/-- The lapses of a row of events. -/
def lapL (l : List Ev) : List Ev := l.filter fun x => x.2.1 == 7
theorem lapL_take {l : List Ev} {k : Nat} {x : Ev} (h : l[k]? = some x) : lapL (l.take (k + 1)) = lapL (l.take k) ++ (if x.2.1 = 7 then [x] else []) := by
  rw [List.take_add_one, h]
  unfold lapL
  rw [List.filter_append]
  congr 1
  by_cases e : x.2.1 = 7
  · simp [e]
  · simp [e]
theorem playB2 {c o : Int} (hc : 3 ≤ c) (ho : 3 ≤ o) : ∃ s, plays [pB c o] ws0 (runsE 22) = some (s, evB c o) := by
  obtain ⟨k, rfl⟩ : ∃ k : Nat, c = ((k + 3 : Nat) : Int) := ⟨(c - 3).toNat, by omega⟩
  obtain ⟨j, rfl⟩ : ∃ j : Nat, o = ((j + 3 : Nat) : Int) := ⟨(o - 3).toNat, by omega⟩
  have h := playB k j
  cases hp : plays [pB ((k + 3 : Nat) : Int) ((j + 3 : Nat) : Int)] ws0 (runsE 22) with
  | none => rw [hp] at h; cases h
  | some x =>
    rw [hp] at h
    obtain ⟨s, l⟩ := x
    simp only [Option.map_some, Option.some.injEq] at h
    subst h
    exact ⟨s, rfl⟩
theorem topBehind_bad (a b : Int) (w : World) (h : a < 3 ∨ 1000 < a ∨ b < 3 ∨ 1000 < b) :
    Calls Tryz.prog 4 #[inV a, inV b] w fun e w' => e = .returned (.bool true) ∧ Below w.heap.size w w' := by
  have Haw := Lib.hid (top_awake w)
  by_cases h0 : a < 3
  · go_enter Tryz.func4, Tryz.ntmps4
    go_wp2_with fail
    refine Haw.out.mono ?_
    rintro e w' ⟨rfl, hf⟩
    go_wp2_with fail
    go_ret
    exact ⟨rfl, hf.below (Nat.le_refl _) fun _ q => q.elim⟩
  · skip
    by_cases h1 : 1000 < a
    · go_enter Tryz.func4, Tryz.ntmps4
      go_wp2_with fail
      refine Haw.out.mono ?_
      rintro e w' ⟨rfl, hf⟩
      go_wp2_with fail
      go_ret
      exact ⟨rfl, hf.below (Nat.le_refl _) fun _ q => q.elim⟩
    · skip
      by_cases h2 : b < 3
      · go_enter Tryz.func4, Tryz.ntmps4
        go_wp2_with fail
        refine Haw.out.mono ?_
        rintro e w' ⟨rfl, hf⟩
        go_wp2_with fail
        go_ret
        exact ⟨rfl, hf.below (Nat.le_refl _) fun _ q => q.elim⟩
      · skip
        have h3 : 1000 < b := by omega
        clear h
        go_enter Tryz.func4, Tryz.ntmps4
        go_wp2_with fail
        refine Haw.out.mono ?_
        rintro e w' ⟨rfl, hf⟩
        go_wp2_with fail
        go_ret
        exact ⟨rfl, hf.below (Nat.le_refl _) fun _ q => q.elim⟩
end Go.Proofs.YtcffplgimbbflaaGreat
