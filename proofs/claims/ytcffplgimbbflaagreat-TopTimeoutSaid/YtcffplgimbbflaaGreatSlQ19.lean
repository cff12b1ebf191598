/- Who waits on a channel, from outside; what two laws need. -/
import Derived.Test.YtcffplgimbbflaaGreatSlQ18
set_option linter.unusedVariables false
set_option linter.unusedSimpArgs false
namespace Go.Proofs.YtcffplgimbbflaaGreat
open Go.RowKit
set_option maxRecDepth 100000
theorem xcR {w : World} {ab : Nat} {x : Ax} {r : Nat → Int} {how : Int} {pk : Bool} (h : ActAt w ab x r how pk) (y : Nat) (hy : y < 8) : w.cell? ⟨ab, 16 + y, none⟩ = some (inV (r y)) := by
  have : y = 0 ∨ y = 1 ∨ y = 2 ∨ y = 3 ∨ y = 4 ∨ y = 5 ∨ y = 6 ∨ y = 7 := by omega
  rcases this with rfl | rfl | rfl | rfl | rfl | rfl | rfl | rfl
  · exact xc16 h
  · exact xc17 h
  · exact xc18 h
  · exact xc19 h
  · exact xc20 h
  · exact xc21 h
  · exact xc22 h
  · exact xc23 h
theorem xcE3 {w : World} {ab : Nat} {x : Ax} {r : Nat → Int} {how : Int} {pk : Bool} {A : Nat} (h : ActAt w ab x r how pk) (e : x.a = (A : Int)) : w.cell? ⟨ab, 3, none⟩ = some (inV (A : Int)) := by rw [← e]; exact xc3 h
theorem xcE4 {w : World} {ab : Nat} {x : Ax} {r : Nat → Int} {how : Int} {pk : Bool} {A : Nat} (h : ActAt w ab x r how pk) (e : x.b = (A : Int)) : w.cell? ⟨ab, 4, none⟩ = some (inV (A : Int)) := by rw [← e]; exact xc4 h
theorem xcE5 {w : World} {ab : Nat} {x : Ax} {r : Nat → Int} {how : Int} {pk : Bool} {A : Nat} (h : ActAt w ab x r how pk) (e : x.c = (A : Int)) : w.cell? ⟨ab, 5, none⟩ = some (inV (A : Int)) := by rw [← e]; exact xc5 h
theorem blk_drew' {w : World} {ab : Nat} {x : Ax} {r : Nat → Int} {how : Int} {pk : Bool} (h : ActAt w ab x r how pk) : ActAt w.drew ab x r how pk := h
/-- The world has turned, then the instruction's block. -/
theorem Ay.both {w w1 w' : World} {S : Nat → Prop} {ab : Nat} {x : Ax} {P : Pg} {s : WS} {nd nm nd' nm' : Nat} (hn : Nx w S x.wb P s nd nm w1) (h1 : nd ≤ nd') (h2 : nm ≤ nm') {r : Nat → Int} (hf : Fr (fun q => q = ab) w1 w') (ha : ActAt w' ab x r 0 false) (hab : ¬ S ab) (hal : ab < w.heap.size) : Ay w S ab x P s nd' nm' (some r) w' := by
  obtain ⟨S', hf1, hw, hs⟩ := hn
  exact ⟨S', (hf1.mono fun k _ q => .inl q).trans hf fun k _ q => .inr q, (hw.fr hf fun k a e => by
    rcases hs k a with q | q
    · exact hab (e ▸ q)
    · omega).mono h1 h2, hs, ha⟩
/-- A channel of the world, by its place. -/
theorem WAt.chan {w : World} {S : Nat → Prop} {wb : Nat} {P : Pg} {st : WS} {nd nm : Nat} (h : WAt w S wb P st nd nm) {i : Nat} (hi : i < st.nch) : Calls Tryz.prog 78 #[ptV wb, ptV (P.2 i)] w fun e w' => e = .returned (inV (i : Int)) ∧ w = w' := by
  obtain ⟨F, c, h, rfl, hS⟩ := h
  have hx := h.chn i
  rw [decide_eq_true hi] at hx
  obtain ⟨cc, hc⟩ := Option.isSome_iff_exists.1 hx
  have hB := h.pad.2.2 i hi
  have hb := (h.pool (fun q => q)).block i hc
  rw [hB] at hb
  refine (world_handle h (P.2 i) hb).mono ?_
  rintro e w' ⟨⟨r, rfl, hr⟩, rfl⟩
  exact ⟨by rw [hr i hi hB], rfl⟩
theorem wake1_nch {st s : WS} {x : Wk} (h : st.wake1 x = some s) : s.nch = st.nch := by
  obtain ⟨x0, k, v, ok, pn⟩ := x
  obtain ⟨i, rfl, t, d, cs, hi, _, hc⟩ := wake1_some h
  rcases hc with ⟨_, rfl⟩ | ⟨_, _, _, _, _, _, _, _, _, _, _, l, _, rfl⟩
  · rfl
  · rfl
theorem wake_nch {l : List Wk} {st s : WS} (h : st.wake l = some s) : s.nch = st.nch := by
  induction l generalizing st with
  | nil => simp only [WS.wake, Option.some.injEq] at h; rw [h]
  | cons x l ih =>
    simp only [WS.wake] at h
    split at h
    · cases h
    · next s1 h1 => rw [ih h, wake1_nch h1]
/-- The world behind a call, beside other memory. -/
theorem Nx.act {w w1 : World} {S : Nat → Prop} {wb : Nat} {P : Pg} {st : WS} {nd nm : Nat} (hn : Nx w S wb P st nd nm w1) {ab : Nat} {x : Ax} {r : Nat → Int} {how : Int} {pk : Bool} (ha : ActAt w ab x r how pk) (hab : ¬ S ab) : ActAt w1 ab x r how pk := by
  obtain ⟨_, f, _⟩ := hn; exact ha.fr f hab
theorem Nx.chan {w w1 : World} {S : Nat → Prop} {wb : Nat} {P : Pg} {st : WS} {nd nm : Nat} (hn : Nx w S wb P st nd nm w1) (i : Nat) (hi : i < st.nch) : ∀ W, Fr Nob w1 W → Calls Tryz.prog 78 #[ptV wb, ptV (P.2 i)] W fun e w' => e = .returned (inV (i : Int)) ∧ W = w' := fun W hW => by
  obtain ⟨S', f, a, s⟩ := hn; exact (a.fr0 hW).chan hi
theorem Nx.went {w w1 : World} {S : Nat → Prop} {wb : Nat} {P : Pg} {st : WS} {nd nm : Nat} (hn : Nx w S wb P st nd nm w1) (ch who v : Int) (got : Bool) (hw : -1 ≤ who) (hnd : nd ≤ 1000000000000) : ∀ W, Fr Nob w1 W → Calls Tryz.prog 77 #[ptV wb, inV ch, inV who, inV v, .bool got] W fun e w' => e = .returned (.tuple #[]) ∧ Nx w S wb P st (nd + 1) nm w' := fun W hW => by
  obtain ⟨S', f, a, s⟩ := hn
  refine (world_went (a.fr0 hW) ch who v got hw hnd).mono ?_
  rintro e w' ⟨he, h'⟩
  exact ⟨he, Nx.step f s (Nx.from0 hW h')⟩
theorem Nx.wake {w w1 : World} {S : Nat → Prop} {wb : Nat} {P : Pg} {st : WS} {nd nm : Nat} (hn : Nx w S wb P st nd nm w1) (l : List Wk) (n : Nat) (hl : l.length = n) {s : WS} (hs : st.wake l = some s) {T : Nat → Prop} {A : Option Addr} {cp : Nat} (hsl : Sl w T 225 5 (.slice A n cp) n (wks l)) (hd : ∀ k, S k → T k → False) (hT : ∀ k, T k → k < w.heap.size) (hnd : nd + n ≤ 1000000000000) :
    Calls Tryz.prog 80 #[ptV wb, .slice A n cp] w1 fun e w' => e = .returned (.tuple #[]) ∧ Nx w S wb P s (nd + n) nm w' := by
  have hsl1 := hn.beside hsl hd
  obtain ⟨S', f, a, s'⟩ := hn
  refine (world_wake a l n hl hs (.slice A n cp) hsl1 (fun k p q => ?_) (fun k q => ?_) hnd).mono ?_
  · rcases s' k p with e | e
    · exact hd k e q
    · have := hT k q; omega
  · have := hT k q; have := f.size; omega
  · rintro e w' ⟨he, h'⟩
    exact ⟨he, Nx.step f s' h'⟩
theorem Nx.wake0 {w w1 : World} {S : Nat → Prop} {wb : Nat} {P : Pg} {st : WS} {nd nm : Nat} (hn : Nx w S wb P st nd nm w1) (hnd : nd ≤ 1000000000000) :
    Calls Tryz.prog 80 #[ptV wb, .slice none 0 0] w1 fun e w' => e = .returned (.tuple #[]) ∧ Nx w S wb P st nd nm w' :=
  hn.wake [] 0 rfl rfl (T := fun _ => False) (Sl.nil _ _ _ _) (fun _ _ q => q) (fun _ q => q.elim) (by omega)
section
variable {w : World} {S : Nat → Prop} {P : Pg} {st : WS} {nd nm : Nat} {ab : Nat} {x : Ax} (h : WAt w S x.wb P st nd nm) {r : Nat → Int} (ha : ActAt w ab x r 0 false) (hab : ¬ S ab)
include h ha hab
set_option maxHeartbeats 2000000 in
theorem act_take (B C : Nat) (hB : B < 8) (hC : C < 8) (eb : x.b = (B : Int)) (ec : x.c = (C : Int)) (hid : -1 ≤ x.id) (hnd : nd ≤ 100000001000) {i : Nat} {cc : ChS} (hi : st.ch i = some cc) (v : Int) (ok : Bool) (l : List Wk) (n : Nat) (hn : l.length = n) {T : Nat → Prop} {A : Option Addr} {cp : Nat} (hsl : Sl w T 225 5 (.slice A n cp) n (wks l)) (hd : ∀ k, S k → T k → False) (hT : ∀ k, T k → k < w.heap.size) {s : WS} {o : Option (Nat → Int)} (hs : st.take r B C v ok l = some (s, o)) :
    Calls Tryz.prog 136 #[ptV ab, ptV (P.2 i), inV v, .bool ok, .slice A n cp] w fun e w' => e = .returned (.tuple #[]) ∧ Ay w S ab x P s (nd + 1001) nm o w' := by
  have hal := ha.lt
  unfold WS.take at hs
  split at hs
  · cases hs
  · next s1 hwk =>
    cases hs
    obtain ⟨hl, hwk⟩ := wakes_some hwk
    rw [hn] at hl
    have hsn := wake_nch hwk
    have hil : i < st.nch := by
      obtain ⟨F, c, h, _, _⟩ := h
      have := h.chn i; rw [hi] at this; simpa using this.symm
    have Hcap : Hid (Calls Tryz.prog 17 #[ptV (P.2 i)] w fun e w' => e = .returned (inV (cc.capR : Int)) ∧ w = w') := Lib.hid (by
      obtain ⟨F, c, h, _, _⟩ := h
      rw [← h.pad.2.2 i hil]
      exact pool_cap (h.pool (fun q => q)) i hi _ rfl)
    generalize cc.capR = cap at *
    have H := Lib.hid h; have Ha := Lib.hid ha; have Hwk := Lib.hid hwk; have Hsl := Lib.hid hsl; have Hd := Lib.hid hd; have HT := Lib.hid hT; have Hn := Lib.hid hn; have Hid' := Lib.hid hid
    have NX0 := Lib.hid (Nx.refl h)
    have hBi : (B : Int) < 8 := by omega
    have hCi : (C : Int) < 8 := by omega
    have hilt : i < s.nch := by rw [hsn]; exact hil
    clear h hwk hsl hd hT hn hi hid
    clear ha
    go_enter Tryz.func136, Tryz.ntmps136
    go_wp2_with fail
    refine Hcap.out.mono ?_
    rintro e w1 ⟨rfl, rfl⟩
    by_cases hcap : cap = 0
    · subst hcap
      cases ok with
      | true =>
        have a01 := xc0 (NX0.out.act Ha.out hab)
        go_wp2_with fail
        refine (NX0.out.wake l n Hn.out Hwk.out Hsl.out Hd.out HT.out (by omega)).mono ?_
        rintro e w1 ⟨rfl, hn1⟩
        have NX1 := Lib.hid hn1
        clear a01 hn1
        have HH2 := Lib.hid (NX1.out.chan i hilt)
        have HW2 := Lib.hid (NX1.out.went (i : Int) x.id v true Hid'.out (by omega))
        have ha2 := NX1.out.act Ha.out hab
        have key2 : ∀ W, Fr Nob w w ∧ ActAt W ab x r 0 false → W.cell? ⟨ab, 0, none⟩ = some (ptV x.wb) ∧ W.cell? ⟨ab, 1, none⟩ = some (inV x.id) := fun W hW => ⟨xc0 hW.2, xc1 hW.2⟩
        have Key2 := Lib.hid key2
        have Hb2 := Lib.hid ha2
        clear ha2 key2
        go_wp2_with fail
        have hf0 : Fr Nob w1 w1 := Fr.refl _ _
        go_region_held3 (fun W => W.cell? ⟨ab, 0, none⟩ = some (ptV x.wb) ∧ W.cell? ⟨ab, 1, none⟩ = some (inV x.id))
          ((refine Key2.out _ ⟨Fr.refl _ _, ?_⟩; first | with_reducible exact ha2 | with_reducible exact Hb2.out | exact blk_drew' Hb2.out))
          ((first
            | (go_at_call 77; refine (HW2.out w1.drew hf0.drew).mono ?_; rintro e w2 ⟨rfl, hn2⟩; have ha2 := hn2.act Ha.out hab; have NX2 := Lib.hid hn2; clear hn2)
            | (go_at_call 78; refine (HH2.out w1.drew hf0.drew).mono ?_; rintro e w8 ⟨rfl, rfl⟩)))
        clear ha2
        have a03 := xc0 (NX2.out.act Ha.out hab)
        go_wp2_with fail
        refine (NX2.out.wake0 (by omega)).mono ?_
        rintro e w3 ⟨rfl, hn3⟩
        have NX3 := Lib.hid hn3
        clear a03 hn3
        have HAz := Lib.hid (NX3.out.act Ha.out hab)
        go_wp2_with fail
        have c4 := xcE4 HAz.out eb
        have c5 := xcE5 HAz.out ec
        have cB := xcR HAz.out B hB
        have fB := blk_froz HAz.out (16 + B)
        have cC := xcR HAz.out C hC
        have fC := blk_froz HAz.out (16 + C)
        have cC2 := xcR (xpR HAz.out B hB v) C hC
        have fC2 := blk_froz (xpR HAz.out B hB v) (16 + C)
        have cB2 := xcR (xpR HAz.out C hC 0) B hB
        have fB2 := blk_froz (xpR HAz.out C hC 0) (16 + B)
        go_region
        all_goals
          obtain ⟨wy, hwy⟩ : ∃ wy, wy = ((w3.setCell ⟨ab, 16 + B, none⟩ (inV v)).setCell ⟨ab, 16 + C, none⟩ (inV 0)).drew := ⟨_, rfl⟩
          rw [← hwy]
          have hay : ActAt wy ab x (updR (updR r B v) C 0) 0 false := by rw [hwy]; exact blk_drew' (xpR (xpR HAz.out B hB v) C hC 0)
          have hfy : Fr (fun q => q = ab) w3 wy := by rw [hwy]; exact (((Fr.refl (fun q => q = ab) w3).setCell (p := ⟨ab, 16 + B, none⟩) (.inl rfl) _).setCell (p := ⟨ab, 16 + C, none⟩) (.inl rfl) _).drew
          have Hay := Lib.hid hay; have Hfy := Lib.hid hfy
          clear hwy hay hfy c4 c5 cB fB cC fC cC2 fC2 cB2 fB2
          go_wp2_with fail
          have d5 := xcE5 Hay.out ec
          have dC := xcR Hay.out C hC
          have gC := blk_froz Hay.out (16 + C)
          have d5s := xcE5 (xpR Hay.out C hC (bitI true)) ec
          go_region_held3 (fun W => W.cell? ⟨ab, 5, none⟩ = some (inV (C : Int)))
            ((first | with_reducible exact d5 | exact d5 | exact d5s))
            ((go_at_call 125; refine (world_bit wy.drew true).mono ?_; rintro e w9 ⟨rfl, rfl⟩))
          all_goals
            obtain ⟨wz, hwz⟩ : ∃ wz, wz = (wy.setCell ⟨ab, 16 + C, none⟩ (inV (bitI true))).drew := ⟨_, rfl⟩
            have haz : ActAt wz ab x (updR (updR (updR r B v) C 0) C (bitI true)) 0 false := by rw [hwz]; exact blk_drew' (xpR Hay.out C hC (bitI true))
            have hfz : Fr (fun q => q = ab) wy wz := by rw [hwz]; exact ((Fr.refl (fun q => q = ab) wy).setCell (p := ⟨ab, 16 + C, none⟩) (.inl rfl) _).drew
            try rw [← hwz]
            have Haz := Lib.hid haz; have Hfz := Lib.hid hfz
            clear hwz haz hfz d5 dC gC d5s
            go_wp2_with fail
            go_end0
            exact ⟨rfl, Ay.both NX3.out (by omega) (Nat.le_refl _) (Hfy.out.trans0 Hfz.out) Haz.out hab hal⟩
      | false =>
        have a01 := xc0 (NX0.out.act Ha.out hab)
        go_wp2_with fail
        refine (NX0.out.wake l n Hn.out Hwk.out Hsl.out Hd.out HT.out (by omega)).mono ?_
        rintro e w1 ⟨rfl, hn1⟩
        have NX1 := Lib.hid hn1
        clear a01 hn1
        have a03 := xc0 (NX1.out.act Ha.out hab)
        go_wp2_with fail
        refine (NX1.out.wake0 (by omega)).mono ?_
        rintro e w3 ⟨rfl, hn3⟩
        have NX3 := Lib.hid hn3
        clear a03 hn3
        have HAz := Lib.hid (NX3.out.act Ha.out hab)
        go_wp2_with fail
        have c4 := xcE4 HAz.out eb
        have c5 := xcE5 HAz.out ec
        have cB := xcR HAz.out B hB
        have fB := blk_froz HAz.out (16 + B)
        have cC := xcR HAz.out C hC
        have fC := blk_froz HAz.out (16 + C)
        have cC2 := xcR (xpR HAz.out B hB v) C hC
        have fC2 := blk_froz (xpR HAz.out B hB v) (16 + C)
        have cB2 := xcR (xpR HAz.out C hC 0) B hB
        have fB2 := blk_froz (xpR HAz.out C hC 0) (16 + B)
        go_region
        all_goals
          obtain ⟨wy, hwy⟩ : ∃ wy, wy = ((w3.setCell ⟨ab, 16 + B, none⟩ (inV v)).setCell ⟨ab, 16 + C, none⟩ (inV 0)).drew := ⟨_, rfl⟩
          rw [← hwy]
          have hay : ActAt wy ab x (updR (updR r B v) C 0) 0 false := by rw [hwy]; exact blk_drew' (xpR (xpR HAz.out B hB v) C hC 0)
          have hfy : Fr (fun q => q = ab) w3 wy := by rw [hwy]; exact (((Fr.refl (fun q => q = ab) w3).setCell (p := ⟨ab, 16 + B, none⟩) (.inl rfl) _).setCell (p := ⟨ab, 16 + C, none⟩) (.inl rfl) _).drew
          have Hay := Lib.hid hay; have Hfy := Lib.hid hfy
          clear hwy hay hfy c4 c5 cB fB cC fC cC2 fC2 cB2 fB2
          go_wp2_with fail
          have d5 := xcE5 Hay.out ec
          have dC := xcR Hay.out C hC
          have gC := blk_froz Hay.out (16 + C)
          have d5s := xcE5 (xpR Hay.out C hC (bitI false)) ec
          go_region_held3 (fun W => W.cell? ⟨ab, 5, none⟩ = some (inV (C : Int)))
            ((first | with_reducible exact d5 | exact d5 | exact d5s))
            ((go_at_call 125; refine (world_bit wy.drew false).mono ?_; rintro e w9 ⟨rfl, rfl⟩))
          all_goals
            obtain ⟨wz, hwz⟩ : ∃ wz, wz = (wy.setCell ⟨ab, 16 + C, none⟩ (inV (bitI false))).drew := ⟨_, rfl⟩
            have haz : ActAt wz ab x (updR (updR (updR r B v) C 0) C (bitI false)) 0 false := by rw [hwz]; exact blk_drew' (xpR Hay.out C hC (bitI false))
            have hfz : Fr (fun q => q = ab) wy wz := by rw [hwz]; exact ((Fr.refl (fun q => q = ab) wy).setCell (p := ⟨ab, 16 + C, none⟩) (.inl rfl) _).drew
            try rw [← hwz]
            have Haz := Lib.hid haz; have Hfz := Lib.hid hfz
            clear hwz haz hfz d5 dC gC d5s
            go_wp2_with fail
            go_end0
            exact ⟨rfl, Ay.both NX3.out (by omega) (Nat.le_refl _) (Hfy.out.trans0 Hfz.out) Haz.out hab hal⟩
    · have hcap' : ¬ (cap : Int) = 0 := by omega
      cases ok with
      | true =>
        have HH2 := Lib.hid (NX0.out.chan i hil)
        have HW2 := Lib.hid (NX0.out.went (i : Int) x.id v true Hid'.out (by omega))
        have ha2 := NX0.out.act Ha.out hab
        have key2 : ∀ W, Fr Nob w w ∧ ActAt W ab x r 0 false → W.cell? ⟨ab, 0, none⟩ = some (ptV x.wb) ∧ W.cell? ⟨ab, 1, none⟩ = some (inV x.id) := fun W hW => ⟨xc0 hW.2, xc1 hW.2⟩
        have Key2 := Lib.hid key2
        have Hb2 := Lib.hid ha2
        clear ha2 key2
        go_wp2_with fail
        have hf0 : Fr Nob w w := Fr.refl _ _
        go_region_held3 (fun W => W.cell? ⟨ab, 0, none⟩ = some (ptV x.wb) ∧ W.cell? ⟨ab, 1, none⟩ = some (inV x.id))
          ((refine Key2.out _ ⟨Fr.refl _ _, ?_⟩; first | with_reducible exact ha2 | with_reducible exact Hb2.out | exact blk_drew' Hb2.out))
          ((first
            | (go_at_call 77; refine (HW2.out w.drew hf0.drew).mono ?_; rintro e w2 ⟨rfl, hn2⟩; have ha2 := hn2.act Ha.out hab; have NX2 := Lib.hid hn2; clear hn2)
            | (go_at_call 78; refine (HH2.out w.drew hf0.drew).mono ?_; rintro e w8 ⟨rfl, rfl⟩)))
        clear ha2
        have a03 := xc0 (NX2.out.act Ha.out hab)
        go_wp2_with fail
        refine (NX2.out.wake l n Hn.out Hwk.out Hsl.out Hd.out HT.out (by omega)).mono ?_
        rintro e w3 ⟨rfl, hn3⟩
        have NX3 := Lib.hid hn3
        clear a03 hn3
        have HAz := Lib.hid (NX3.out.act Ha.out hab)
        go_wp2_with fail
        have c4 := xcE4 HAz.out eb
        have c5 := xcE5 HAz.out ec
        have cB := xcR HAz.out B hB
        have fB := blk_froz HAz.out (16 + B)
        have cC := xcR HAz.out C hC
        have fC := blk_froz HAz.out (16 + C)
        have cC2 := xcR (xpR HAz.out B hB v) C hC
        have fC2 := blk_froz (xpR HAz.out B hB v) (16 + C)
        have cB2 := xcR (xpR HAz.out C hC 0) B hB
        have fB2 := blk_froz (xpR HAz.out C hC 0) (16 + B)
        go_region
        all_goals
          obtain ⟨wy, hwy⟩ : ∃ wy, wy = ((w3.setCell ⟨ab, 16 + B, none⟩ (inV v)).setCell ⟨ab, 16 + C, none⟩ (inV 0)).drew := ⟨_, rfl⟩
          rw [← hwy]
          have hay : ActAt wy ab x (updR (updR r B v) C 0) 0 false := by rw [hwy]; exact blk_drew' (xpR (xpR HAz.out B hB v) C hC 0)
          have hfy : Fr (fun q => q = ab) w3 wy := by rw [hwy]; exact (((Fr.refl (fun q => q = ab) w3).setCell (p := ⟨ab, 16 + B, none⟩) (.inl rfl) _).setCell (p := ⟨ab, 16 + C, none⟩) (.inl rfl) _).drew
          have Hay := Lib.hid hay; have Hfy := Lib.hid hfy
          clear hwy hay hfy c4 c5 cB fB cC fC cC2 fC2 cB2 fB2
          go_wp2_with fail
          have d5 := xcE5 Hay.out ec
          have dC := xcR Hay.out C hC
          have gC := blk_froz Hay.out (16 + C)
          have d5s := xcE5 (xpR Hay.out C hC (bitI true)) ec
          go_region_held3 (fun W => W.cell? ⟨ab, 5, none⟩ = some (inV (C : Int)))
            ((first | with_reducible exact d5 | exact d5 | exact d5s))
            ((go_at_call 125; refine (world_bit wy.drew true).mono ?_; rintro e w9 ⟨rfl, rfl⟩))
          all_goals
            obtain ⟨wz, hwz⟩ : ∃ wz, wz = (wy.setCell ⟨ab, 16 + C, none⟩ (inV (bitI true))).drew := ⟨_, rfl⟩
            have haz : ActAt wz ab x (updR (updR (updR r B v) C 0) C (bitI true)) 0 false := by rw [hwz]; exact blk_drew' (xpR Hay.out C hC (bitI true))
            have hfz : Fr (fun q => q = ab) wy wz := by rw [hwz]; exact ((Fr.refl (fun q => q = ab) wy).setCell (p := ⟨ab, 16 + C, none⟩) (.inl rfl) _).drew
            try rw [← hwz]
            have Haz := Lib.hid haz; have Hfz := Lib.hid hfz
            clear hwz haz hfz d5 dC gC d5s
            go_wp2_with fail
            go_end0
            exact ⟨rfl, Ay.both NX3.out (by omega) (Nat.le_refl _) (Hfy.out.trans0 Hfz.out) Haz.out hab hal⟩
      | false =>
        have a03 := xc0 (NX0.out.act Ha.out hab)
        go_wp2_with fail
        refine (NX0.out.wake l n Hn.out Hwk.out Hsl.out Hd.out HT.out (by omega)).mono ?_
        rintro e w3 ⟨rfl, hn3⟩
        have NX3 := Lib.hid hn3
        clear a03 hn3
        have HAz := Lib.hid (NX3.out.act Ha.out hab)
        go_wp2_with fail
        have c4 := xcE4 HAz.out eb
        have c5 := xcE5 HAz.out ec
        have cB := xcR HAz.out B hB
        have fB := blk_froz HAz.out (16 + B)
        have cC := xcR HAz.out C hC
        have fC := blk_froz HAz.out (16 + C)
        have cC2 := xcR (xpR HAz.out B hB v) C hC
        have fC2 := blk_froz (xpR HAz.out B hB v) (16 + C)
        have cB2 := xcR (xpR HAz.out C hC 0) B hB
        have fB2 := blk_froz (xpR HAz.out C hC 0) (16 + B)
        go_region
        all_goals
          obtain ⟨wy, hwy⟩ : ∃ wy, wy = ((w3.setCell ⟨ab, 16 + B, none⟩ (inV v)).setCell ⟨ab, 16 + C, none⟩ (inV 0)).drew := ⟨_, rfl⟩
          rw [← hwy]
          have hay : ActAt wy ab x (updR (updR r B v) C 0) 0 false := by rw [hwy]; exact blk_drew' (xpR (xpR HAz.out B hB v) C hC 0)
          have hfy : Fr (fun q => q = ab) w3 wy := by rw [hwy]; exact (((Fr.refl (fun q => q = ab) w3).setCell (p := ⟨ab, 16 + B, none⟩) (.inl rfl) _).setCell (p := ⟨ab, 16 + C, none⟩) (.inl rfl) _).drew
          have Hay := Lib.hid hay; have Hfy := Lib.hid hfy
          clear hwy hay hfy c4 c5 cB fB cC fC cC2 fC2 cB2 fB2
          go_wp2_with fail
          have d5 := xcE5 Hay.out ec
          have dC := xcR Hay.out C hC
          have gC := blk_froz Hay.out (16 + C)
          have d5s := xcE5 (xpR Hay.out C hC (bitI false)) ec
          go_region_held3 (fun W => W.cell? ⟨ab, 5, none⟩ = some (inV (C : Int)))
            ((first | with_reducible exact d5 | exact d5 | exact d5s))
            ((go_at_call 125; refine (world_bit wy.drew false).mono ?_; rintro e w9 ⟨rfl, rfl⟩))
          all_goals
            obtain ⟨wz, hwz⟩ : ∃ wz, wz = (wy.setCell ⟨ab, 16 + C, none⟩ (inV (bitI false))).drew := ⟨_, rfl⟩
            have haz : ActAt wz ab x (updR (updR (updR r B v) C 0) C (bitI false)) 0 false := by rw [hwz]; exact blk_drew' (xpR Hay.out C hC (bitI false))
            have hfz : Fr (fun q => q = ab) wy wz := by rw [hwz]; exact ((Fr.refl (fun q => q = ab) wy).setCell (p := ⟨ab, 16 + C, none⟩) (.inl rfl) _).drew
            try rw [← hwz]
            have Haz := Lib.hid haz; have Hfz := Lib.hid hfz
            clear hwz haz hfz d5 dC gC d5s
            go_wp2_with fail
            go_end0
            exact ⟨rfl, Ay.both NX3.out (by omega) (Nat.le_refl _) (Hfy.out.trans0 Hfz.out) Haz.out hab hal⟩
end
theorem few_recvS (c : ChS) : c.recvS.rv.length ≤ c.rv.length ∧ c.recvS.sd.length ≤ c.sd.length := by
  unfold ChS.recvS
  split <;> simp_all
theorem actRecv_some {st s : WS} {id i : Nat} {cc : ChS} {b d : Nat} {r : Nat → Int} {o : Option (Nat → Int)} (h : st.actRecv id i cc b d r = some (s, o)) :
    (∃ v ok l, cc.recvR = (v, ok, true, l) ∧ ({ st with ch := Go.Proofs.YtcffplgimbbflaaGreat.upd st.ch i (some cc.recvS) } : WS).take r b d v ok l = some (s, o)) ∨
    (∃ v ok l, cc.recvR = (v, ok, false, l) ∧ s = { st with ch := Go.Proofs.YtcffplgimbbflaaGreat.upd st.ch i (some (cc.recvS.waitS ((id : Int), 0, 0) false)) } ∧ o = none) := by
  unfold WS.actRecv at h
  rcases hq : cc.recvR with ⟨v, ok, dn, l⟩
  simp only [hq] at h
  split at h
  · next e => subst e; exact .inl ⟨v, ok, l, rfl, h⟩
  · next e =>
    have e : dn = false := by simpa using e
    subst e
    cases h
    exact .inr ⟨v, ok, l, rfl, rfl, rfl⟩
theorem Ay.later {w w1 w' : World} {S : Nat → Prop} {ab : Nat} {x : Ax} {P : Pg} {s : WS} {nd nm nd' nm' : Nat} {o : Option (Nat → Int)} (hf : Fr S w w1) (h : Ay w1 S ab x P s nd nm o w') (h1 : nd ≤ nd') (h2 : nm ≤ nm') : Ay w S ab x P s nd' nm' o w' := by
  obtain ⟨S', f, a, s', q⟩ := h
  have hz := hf.size
  exact ⟨S', (hf.mono fun k _ q => .inl q).trans0 f, a.mono h1 h2, fun k q => (s' k q).imp (fun q => q) fun q => by omega, q⟩
section
variable {w : World} {S : Nat → Prop} {F : Nat → Nat → Prop} {c : Cfg} {P : Pg} {st : WS} {nd nm : Nat} (h : WP H0 w F c P st nd nm) (hS : ∀ k, S k ↔ Un F k) {ab : Nat} {x : Ax} (hwb : c.wb = x.wb) (ha : ActAt w ab x x.u 0 false) (hab : ¬ S ab)
include h hS hwb ha hab
set_option maxHeartbeats 2000000 in
theorem act_recv (B C : Nat) (hB : B < 8) (hC : C < 8) (eb : x.b = (B : Int)) (ec : x.c = (C : Int)) (id : Nat) (eid : x.id = (id : Int)) (hnd : nd ≤ 100000000000) {i : Nat} {cc : ChS} (hi : st.ch i = some cc) (few : cc.rv.length ≤ 900 ∧ cc.sd.length ≤ 900) {s : WS} {o : Option (Nat → Int)} (hs : st.actRecv id i cc B C x.u = some (s, o)) :
    Calls Tryz.prog 133 #[ptV ab, ptV (c.B i)] w fun e w' => e = .returned (.tuple #[]) ∧ Ay w S ab x P s (nd + 2000) nm o w' := by
  have hal := ha.lt
  have h11 : ¬ F 11 ab := fun q => hab ((hS _).2 ⟨11, q⟩)
  have hn2 := chn_upd h.chn hi
  have hil : i < st.nch := by have := h.chn i; rw [hi] at this; simpa using this.symm
  rcases actRecv_some hs with ⟨v, ok, l, hr, htk⟩ | ⟨v, ok, l, hr, rfl, rfl⟩
  · have HS := Lib.hid (fun W (hW : Fr Nob w W) => pool_recv ((h.fr0 hW).pool (fun q => q)) i hi v ok true l l.length hr rfl rfl)
    have H := Lib.hid h; have Ha := Lib.hid ha; have HhS := Lib.hid hS; have Hn2 := Lib.hid hn2; have Htk := Lib.hid htk; have Hwb := Lib.hid hwb
    obtain ⟨n, hn⟩ : ∃ n, l.length = n := ⟨_, rfl⟩
    rw [hn] at HS
    have Hn := Lib.hid hn
    have Eid := Lib.hid eid
    have HB := Lib.hid (h.pad.2.2 i hil)
    have hlt : ∀ k, S k → k < w.heap.size := WAt.lt (show WAt w S x.wb P st nd nm from ⟨F, c, h, hwb, hS⟩)
    have Hlt := Lib.hid hlt
    clear h ha hS hn2 htk hwb hs hr few hn eid hlt
    go_enter Tryz.func133, Tryz.ntmps133
    go_wp2_with fail
    refine (HS.out w (Fr.refl _ _)).mono ?_
    rintro e w2 ⟨A2, cp, rfl, hf2, hp2, hsl2⟩
    have h2 := H.out.pool0 hf2 hp2 (Hn2.out _)
    have hfS : Fr S w w2 := hf2.mono fun k _ q => (HhS.out k).2 ⟨11, q⟩
    have hw2 : WAt w2 S x.wb P _ nd nm := ⟨F, c, h2, Hwb.out, HhS.out⟩
    have ha2 := Ha.out.fr hf2 h11
    have Htake := Lib.hid (act_take hw2 ha2 hab B C hB hC eb ec (by rw [Eid.out]; omega) (by omega) (i := i) (upd_same _ _ _) v ok l n Hn.out (wakes_mono hsl2) (fun k a b => by have := Hlt.out k a; have := b.1; omega) (fun k b => b.2) Htk.out)
    rw [← HB.out] at Htake
    have HfS := Lib.hid hfS
    clear h2 hf2 hp2 hsl2 hw2 ha2 hfS
    go_wp2_with fail
    refine Htake.out.mono ?_
    rintro e w3 ⟨rfl, hay⟩
    have Hay := Lib.hid hay
    clear hay
    go_wp2_with fail
    refine bodyPost_ret (results_none Tryz.results133 _ _ _) rfl ?_
    exact ⟨rfl, Ay.later HfS.out Hay.out (by omega) (Nat.le_refl _)⟩
  · have hfw : cc.recvS.rv.length < 100000 ∧ cc.recvS.sd.length < 100000 := by have := few_recvS cc; omega
    have HS := Lib.hid (fun W (hW : Fr Nob w W) => pool_recv ((h.fr0 hW).pool (fun q => q)) i hi v ok false l l.length hr rfl rfl)
    have H := Lib.hid h; have Ha := Lib.hid ha; have HhS := Lib.hid hS; have Hn2 := Lib.hid hn2; have Hwb := Lib.hid hwb
    have Eid := Lib.hid eid; have Hfew := Lib.hid hfw
    generalize l.length = n at *
    clear h ha hS hn2 hwb hs hr few eid hfw
    go_enter Tryz.func133, Tryz.ntmps133
    go_wp2_with fail
    refine (HS.out w (Fr.refl _ _)).mono ?_
    rintro e w2 ⟨A2, cp, rfl, hf2, hp2, hsl2⟩
    have h2 := H.out.pool0 hf2 hp2 (Hn2.out _)
    have ha2 := Ha.out.fr hf2 h11
    have c26 := xc26 ha2
    have f26 := blk_froz ha2 26
    have H2 := Lib.hid h2; have Ha2 := Lib.hid ha2; have Hfw2 := Lib.hid hf2
    have d1 := xc1 (xpP ha2 true)
    clear h2 hf2 hp2 hsl2 ha2
    go_wp2_with fail
    obtain ⟨w3, hw3⟩ : ∃ w3, w3 = w2.setCell ⟨ab, 26, none⟩ (.bool true) := ⟨_, rfl⟩
    rw [← hw3]
    have ha3 : ActAt w3 ab x x.u 0 true := by rw [hw3]; exact xpP Ha2.out true
    have hf23 : Fr (fun k => k = ab) w2 w3 := by rw [hw3]; exact (Fr.refl (fun k => k = ab) w2).setCell (p := ⟨ab, 26, none⟩) (.inl rfl) _
    have h3 : WP H0 w3 F c P { st with ch := Go.Proofs.YtcffplgimbbflaaGreat.upd st.ch i (some cc.recvS) } nd nm := H2.out.frame hf23 (fun _ q => q) fun p k _ q e => hab (by rw [← e]; exact (HhS.out k).2 ⟨p, q⟩)
    have Ha3 := Lib.hid ha3; have H3 := Lib.hid h3; have Hf23 := Lib.hid hf23
    clear hw3 ha3 h3 hf23 c26 f26 d1
    have HWt : Hid (Calls Tryz.prog 171 #[ptV (c.B i), .agg #[inV x.id, inV 0, inV 0], .bool false] w3 fun e w' => e = .returned (inV (cc.recvS.waitR (x.id, 0, 0) false)) ∧ Fr (F 11) w3 w' ∧ Pool w' (And' (F 11) w3 w') c.B (Go.Proofs.YtcffplgimbbflaaGreat.upd (Go.Proofs.YtcffplgimbbflaaGreat.upd st.ch i (some cc.recvS)) i (some (cc.recvS.waitS (x.id, 0, 0) false)))) := Lib.hid (pool_wait (H3.out.pool (fun q => q)) i (upd_same _ _ _) (x.id, 0, 0) false _ rfl rfl Hfew.out)
    refine HWt.out.mono ?_
    rintro e w5 ⟨rfl, hf5, hp5⟩
    have Hp5 := Lib.hid hp5; have Hf5 := Lib.hid hf5
    clear hp5 hf5
    go_wp2_with fail
    go_end0
    have hz5 := Hf5.out.size
    have hz3 := Hf23.out.size
    have hz2 := Hfw2.out.size
    have hnx := WAt.pooled HhS.out H3.out Hf5.out Hp5.out (fun k q => by rcases q with q | q; have := H3.out.lt _ _ q; omega; exact q.2) (fun k q => by rcases q with q | q; exact .inl q; have := q.1; exact .inr (by omega)) (chn_upd (Hn2.out _) (upd_same _ _ _) _)
    rw [upd_upd, Hwb.out, Eid.out] at hnx
    obtain ⟨S5, g5, a5, s5⟩ := hnx
    refine ⟨rfl, S5, ?_, a5.mono (by omega) (Nat.le_refl _), fun k q => (s5 k q).imp (fun q => q) fun q => by omega, x.u, Ha3.out.fr g5 hab⟩
    exact ((Hfw2.out.mono fun k _ q => .inl ((HhS.out k).2 ⟨11, q⟩)).trans Hf23.out fun k _ q => .inr q).trans0 (g5.mono fun k _ q => .inl q)
end
theorem xcO {w : World} {ab : Nat} {x : Ax} {r : Nat → Int} {how : Int} {pk : Bool} {o : Int} (h : ActAt w ab x r how pk) (e : x.o = o) : w.cell? ⟨ab, 2, none⟩ = some (inV o) := by rw [← e]; exact xc2 h
/-- The block speaks of the instruction y of task id. -/
structure AxOf (x : Ax) (id : Nat) (y : Ins) : Prop where
  id : x.id = (id : Int)
  o : x.o = y.1.1
  a : x.a = y.1.2.1
  b : x.b = y.1.2.2.1
  c : x.c = y.1.2.2.2
  cv : x.cv = y.2.1
  d : x.d = y.2.2.2
theorem regs_of {y : Ins} (h : regsOk y = true) : ∃ A : Nat, A < 8 ∧ y.1.2.1 = (A : Int) ∧ (y.1.1 ≠ 8 → y.1.1 ≠ 9 → ∃ B C : Nat, B < 8 ∧ C < 8 ∧ y.1.2.2.1 = (B : Int) ∧ y.1.2.2.2 = (C : Int)) := by
  unfold regsOk at h
  simp only [Bool.and_eq_true, Bool.or_eq_true, beq_iff_eq] at h
  obtain ⟨A, hA, hA8⟩ := reg_of h.1
  refine ⟨A, hA8, hA, fun n8 n9 => ?_⟩
  rcases h.2 with (e | e) | e
  · exact absurd e n8
  · exact absurd e n9
  · obtain ⟨B, hB, hB8⟩ := reg_of e.1
    obtain ⟨C, hC, hC8⟩ := reg_of e.2
    exact ⟨B, C, hB8, hC8, hB, hC⟩
theorem actChan_some {st s : WS} {id : Nat} {y : Ins} {r : Nat → Int} {o : Option (Nat → Int)} (h : st.actChan id y r = some (s, o)) : ∃ i cc, st.chan (r y.1.2.1.toNat) = some (some i) ∧ st.ch i = some cc ∧
    ((y.1.1 = 13 ∧ s = st ∧ o = some (updR r y.1.2.2.1.toNat cc.lenR)) ∨ (y.1.1 = 14 ∧ s = st ∧ o = some (updR r y.1.2.2.1.toNat cc.capR)) ∨
     (y.1.1 = 10 ∧ st.actSend id i cc (r y.1.2.2.1.toNat) r = some (s, o)) ∨ (y.1.1 = 11 ∧ st.actRecv id i cc y.1.2.2.1.toNat y.1.2.2.2.toNat r = some (s, o))) := by
  unfold WS.actChan at h
  split at h
  · next i hc =>
    split at h
    · cases h
    · next cc hi =>
      refine ⟨i, cc, hc, hi, ?_⟩
      split at h
      · next e => cases h; exact .inl ⟨e, rfl, rfl⟩
      · split at h
        · next e => cases h; exact .inr (.inl ⟨e, rfl, rfl⟩)
        · split at h
          · next e => exact .inr (.inr (.inl ⟨e, h⟩))
          · split at h
            · next e => exact .inr (.inr (.inr ⟨e, h⟩))
            · cases h
  · cases h
section
variable {w : World} {S : Nat → Prop} {F : Nat → Nat → Prop} {c : Cfg} {P : Pg} {st : WS} {nd nm : Nat} (h : WP H0 w F c P st nd nm) (hS : ∀ k, S k ↔ Un F k) {ab : Nat} {x : Ax} (hwb : c.wb = x.wb) (ha : ActAt w ab x x.u 0 false) (hab : ¬ S ab)
include h hS hwb ha hab
set_option maxHeartbeats 2000000 in
theorem act_channel {id : Nat} {y : Ins} (hx : AxOf x id y) (hreg : regsOk y = true) (hfew : st.few = true) (hnd : nd ≤ 100000000000) {s : WS} {o : Option (Nat → Int)} (hs : st.actChan id y x.u = some (s, o)) :
    Calls Tryz.prog 87 #[ptV ab] w fun e w' => e = .returned (.tuple #[]) ∧ Ay w S ab x P s (nd + 2000) nm o w' := by
  have hal := ha.lt
  obtain ⟨i, cc, hch, hi, hcase⟩ := actChan_some hs
  have hil : i < st.nch := by have := h.chn i; rw [hi] at this; simpa using this.symm
  have few := few_of hfew hil hi
  obtain ⟨A, hA, hyA, hyBC⟩ := regs_of hreg
  obtain ⟨B, C, hB, hC, hyB, hyC⟩ := hyBC (by rcases hcase with q | q | q | q <;> omega) (by rcases hcase with q | q | q | q <;> omega)
  have ea := hx.a.trans hyA
  have eb := hx.b.trans hyB
  have ec := hx.c.trans hyC
  have ho := hx.o
  have tn : ∀ n : Nat, (n : Int).toNat = n := fun n => by omega
  rw [hyA, tn] at hch
  rw [hyB, hyC, tn, tn] at hcase
  have HA := Lib.hid (fun W (hW : Fr Nob w W) => act_a (ha.fr hW (fun q => q)) A hA ea)
  have HC0 := fun W (hW : Fr Nob w W) => world_channel (h.fr0 hW) (x.u A) (some i) hch
  rw [hwb] at HC0
  have HC : Hid (∀ W, Fr Nob w W → Calls Tryz.prog 32 #[ptV x.wb, inV (x.u A)] W fun e w' => e = .returned (.tuple #[ptV (c.B i), .bool true]) ∧ W = w') := Lib.hid HC0
  have K0 := Lib.hid (fun W (hW : Fr Nob w W) => xc0 (ha.fr hW (fun q => q)))
  have hBi : (B : Int) < 8 := by omega
  have Hw := Lib.hid (show WAt w S x.wb P st nd nm from ⟨F, c, h, hwb, hS⟩)
  have H := Lib.hid h; have HS := Lib.hid hS; have Hwb := Lib.hid hwb; have Ha := Lib.hid ha; have Hi := Lib.hid hi; have Few := Lib.hid few; have Eid := Lib.hid hx.id
  rcases hcase with ⟨e, rfl, rfl⟩ | ⟨e, rfl, rfl⟩ | ⟨e, hs⟩ | ⟨e, hs⟩
  · have eo := ho.trans e
    clear h hS hwb ha hi few hs hch hx hreg hfew hyBC hyA hyB hyC ho e HC0 tn hil
    go_enter Tryz.func87, Tryz.ntmps87
    go_wp2_with fail
    have hf0 : Fr Nob w w := Fr.refl _ _
    go_region_held3 (fun W => W.cell? ⟨ab, 0, none⟩ = some (ptV x.wb))
      ((first | with_reducible exact K0.out w hf0 | with_reducible exact K0.out _ hca | exact K0.out _ hf0.drew))
      ((first
        | (go_at_call 32; refine (HC.out w2 hca).mono ?_; rintro e w3 ⟨rfl, rfl⟩)
        | (go_at_call 93; refine (HA.out w.drew hf0.drew).mono ?_; rintro e w2 ⟨rfl, hca'⟩; have hca : Fr Nob w w2 := hf0.drew.trans0 hca'; clear hca')))
    have Hca := Lib.hid hca
    have c2 := xcO (Ha.out.fr hca (fun q => q)) eo
    clear hca hf0
    go_wp2_with fail
    have Ha2 := Lib.hid (Ha.out.fr Hca.out (fun q => q))
    have c4 := xcE4 Ha2.out eb
    have cB := xcR Ha2.out B hB
    have fB := blk_froz Ha2.out (16 + B)
    have d4 := xcE4 (xpR Ha2.out B hB (cc.lenR : Int)) eb
    have HL := Lib.hid (pool_len ((H.out.fr0 Hca.out).fr0 ((Fr.refl Nob w2).drew)|>.pool (fun q => q)) i Hi.out _ rfl)
    go_region_held3 (fun W => W.cell? ⟨ab, 4, none⟩ = some (inV (B : Int)))
      ((first | with_reducible exact c4 | exact c4 | exact d4))
      ((go_at_call 16; refine HL.out.mono ?_; rintro e w9 ⟨rfl, rfl⟩))
    all_goals
      obtain ⟨wz, hwz⟩ : ∃ wz, wz = (w2.setCell ⟨ab, 16 + B, none⟩ (inV (cc.lenR : Int))).drew := ⟨_, rfl⟩
      have haz : ActAt wz ab x (updR x.u B (cc.lenR : Int)) 0 false := by rw [hwz]; exact blk_drew' (xpR Ha2.out B hB _)
      have hfz : Fr (fun q => q = ab) w2 wz := by rw [hwz]; exact ((Fr.refl (fun q => q = ab) w2).setCell (p := ⟨ab, 16 + B, none⟩) (.inl rfl) _).drew
      try rw [← hwz]
      have Haz := Lib.hid haz; have Hfz := Lib.hid hfz
      clear hwz haz hfz c4 cB fB d4 c2
      go_wp2_with fail
      go_end0
      exact ⟨rfl, Ay.both (Nx.ofFr Hw.out Hca.out) (Nat.le_add_right _ _) (Nat.le_refl _) Hfz.out Haz.out hab hal⟩
  · have eo := ho.trans e
    clear h hS hwb ha hi few hs hch hx hreg hfew hyBC hyA hyB hyC ho e HC0 tn hil
    go_enter Tryz.func87, Tryz.ntmps87
    go_wp2_with fail
    have hf0 : Fr Nob w w := Fr.refl _ _
    go_region_held3 (fun W => W.cell? ⟨ab, 0, none⟩ = some (ptV x.wb))
      ((first | with_reducible exact K0.out w hf0 | with_reducible exact K0.out _ hca | exact K0.out _ hf0.drew))
      ((first
        | (go_at_call 32; refine (HC.out w2 hca).mono ?_; rintro e w3 ⟨rfl, rfl⟩)
        | (go_at_call 93; refine (HA.out w.drew hf0.drew).mono ?_; rintro e w2 ⟨rfl, hca'⟩; have hca : Fr Nob w w2 := hf0.drew.trans0 hca'; clear hca')))
    have Hca := Lib.hid hca
    have c2 := xcO (Ha.out.fr hca (fun q => q)) eo
    clear hca hf0
    go_wp2_with fail
    have Ha2 := Lib.hid (Ha.out.fr Hca.out (fun q => q))
    have c4 := xcE4 Ha2.out eb
    have cB := xcR Ha2.out B hB
    have fB := blk_froz Ha2.out (16 + B)
    have d4 := xcE4 (xpR Ha2.out B hB (cc.capR : Int)) eb
    have HL := Lib.hid (pool_cap ((H.out.fr0 Hca.out).fr0 ((Fr.refl Nob w2).drew)|>.pool (fun q => q)) i Hi.out _ rfl)
    go_region_held3 (fun W => W.cell? ⟨ab, 4, none⟩ = some (inV (B : Int)))
      ((first | with_reducible exact c4 | exact c4 | exact d4))
      ((go_at_call 17; refine HL.out.mono ?_; rintro e w9 ⟨rfl, rfl⟩))
    all_goals
      obtain ⟨wz, hwz⟩ : ∃ wz, wz = (w2.setCell ⟨ab, 16 + B, none⟩ (inV (cc.capR : Int))).drew := ⟨_, rfl⟩
      have haz : ActAt wz ab x (updR x.u B (cc.capR : Int)) 0 false := by rw [hwz]; exact blk_drew' (xpR Ha2.out B hB _)
      have hfz : Fr (fun q => q = ab) w2 wz := by rw [hwz]; exact ((Fr.refl (fun q => q = ab) w2).setCell (p := ⟨ab, 16 + B, none⟩) (.inl rfl) _).drew
      try rw [← hwz]
      have Haz := Lib.hid haz; have Hfz := Lib.hid hfz
      clear hwz haz hfz c4 cB fB d4 c2
      go_wp2_with fail
      go_end0
      exact ⟨rfl, Ay.both (Nx.ofFr Hw.out Hca.out) (Nat.le_add_right _ _) (Nat.le_refl _) Hfz.out Haz.out hab hal⟩
  · have eo := ho.trans e
    have Hs := Lib.hid hs
    clear h hS hwb ha hi few hs hch hx hreg hfew hyBC hyA hyB hyC ho e HC0 tn hil
    go_enter Tryz.func87, Tryz.ntmps87
    go_wp2_with fail
    have hf0 : Fr Nob w w := Fr.refl _ _
    go_region_held3 (fun W => W.cell? ⟨ab, 0, none⟩ = some (ptV x.wb))
      ((first | with_reducible exact K0.out w hf0 | with_reducible exact K0.out _ hca | exact K0.out _ hf0.drew))
      ((first
        | (go_at_call 32; refine (HC.out w2 hca).mono ?_; rintro e w3 ⟨rfl, rfl⟩)
        | (go_at_call 93; refine (HA.out w.drew hf0.drew).mono ?_; rintro e w2 ⟨rfl, hca'⟩; have hca : Fr Nob w w2 := hf0.drew.trans0 hca'; clear hca')))
    have Hca := Lib.hid hca
    have c2 := xcO (Ha.out.fr hca (fun q => q)) eo
    clear hca hf0
    go_wp2_with fail
    refine (act_send (H.out.fr0 Hca.out) HS.out Hwb.out (Ha.out.fr Hca.out (fun q => q)) hab A B hA hB ea eb id Eid.out hnd Hi.out Few.out (s := s) (o := o) Hs.out).mono ?_
    rintro e w4 ⟨rfl, hay⟩
    have Hay := Lib.hid hay
    clear hay c2
    go_wp2_with fail
    go_end0
    exact ⟨rfl, Ay.later Hca.out.none Hay.out (Nat.le_refl _) (Nat.le_refl _)⟩
  · have eo := ho.trans e
    have Hs := Lib.hid hs
    clear h hS hwb ha hi few hs hch hx hreg hfew hyBC hyA hyB hyC ho e HC0 tn hil
    go_enter Tryz.func87, Tryz.ntmps87
    go_wp2_with fail
    have hf0 : Fr Nob w w := Fr.refl _ _
    go_region_held3 (fun W => W.cell? ⟨ab, 0, none⟩ = some (ptV x.wb))
      ((first | with_reducible exact K0.out w hf0 | with_reducible exact K0.out _ hca | exact K0.out _ hf0.drew))
      ((first
        | (go_at_call 32; refine (HC.out w2 hca).mono ?_; rintro e w3 ⟨rfl, rfl⟩)
        | (go_at_call 93; refine (HA.out w.drew hf0.drew).mono ?_; rintro e w2 ⟨rfl, hca'⟩; have hca : Fr Nob w w2 := hf0.drew.trans0 hca'; clear hca')))
    have Hca := Lib.hid hca
    have c2 := xcO (Ha.out.fr hca (fun q => q)) eo
    clear hca hf0
    go_wp2_with fail
    refine (act_recv (H.out.fr0 Hca.out) HS.out Hwb.out (Ha.out.fr Hca.out (fun q => q)) hab B C hB hC eb ec id Eid.out hnd Hi.out Few.out (s := s) (o := o) Hs.out).mono ?_
    rintro e w4 ⟨rfl, hay⟩
    have Hay := Lib.hid hay
    clear hay c2
    go_wp2_with fail
    go_end0
    exact ⟨rfl, Ay.later Hca.out.none Hay.out (Nat.le_refl _) (Nat.le_refl _)⟩
end
theorem WP.made {w w' : World} {F : Nat → Nat → Prop} {c : Cfg} {P : Pg} {st : WS} {nd nm : Nat} (h : WP H0 w F c P st nd nm) (hf : Fr (fun k => k = c.wb) w w') (m : Nat) (hb : w'.heap[c.wb]? = some (worldO c { st with made := m })) : WP H0 w' F c P { st with made := m } nd nm := by
  have h' := h.frame (H' := fun q => q = 0) hf (fun _ q => q.elim) fun q k n a b => n (h.dis q 0 k a (by rw [b]; exact h.own0))
  exact ⟨h'.lt, h'.dis, h'.own0, h'.own1, fun _ => hb, fun _ => h'.clk (by decide), fun _ => h'.tab (by decide), fun _ => h'.chs (by decide), fun _ => h'.tim (by decide), fun _ => h'.ctx (by decide), fun _ => h'.dls (by decide), fun _ => h'.lks (by decide), fun _ => h'.prg (by decide), fun _ => h'.evs (by decide), fun _ => h'.cas (by decide), fun _ => h'.pool (by decide), h'.chn, h'.tml, h'.cxl, h'.pad⟩
/-- A channel beside the world gets a handle. -/
theorem WAt.open {w : World} {S : Nat → Prop} {wb : Nat} {P : Pg} {st : WS} {nd nm : Nat} (h : WAt w S wb P st nd nm) (hn : st.nch < 100000) {T : Nat → Prop} {b : Nat} {ch : ChS} (hc : ChanAt w T b ch) (hT : ∀ k, S k → T k → False) : ∀ W, Fr Nob w W → Calls Tryz.prog 131 #[ptV wb, ptV b] W fun e w' => e = .returned (inV (st.nch : Int)) ∧ ∃ S' : Nat → Prop, Fr S W w' ∧ WAt w' S' wb (P.1, Go.Proofs.YtcffplgimbbflaaGreat.upd P.2 st.nch b) (st.addCh ch) nd nm ∧ ∀ k, S' k → S k ∨ T k ∨ W.heap.size ≤ k := fun W hW => by
  obtain ⟨F, c, h1, hwb, hS⟩ := h.fr0 hW
  clear h
  rename WP _ _ _ _ _ _ _ _ => h
  subst hwb
  have hc := hc.fr0 hW
  have h30 : ¬ F 3 c.wb := fun q => absurd (h.dis _ _ _ q h.own0) (by decide)
  refine (open_raw (h.blk (fun q => q)) (h.chs (fun q => q)) h30 (by omega) b).mono ?_
  rintro e w' ⟨v', rfl, hf, hb, hs⟩
  have hw := h.addChan (w0 := W) ⟨fun q => q, fun q => q, fun q => q⟩ hn hc (fun p k a q => hT k ((hS k).2 ⟨p, a⟩) q) hf hb hs
  refine ⟨rfl, _, hf.mono fun k _ q => ?_, ⟨_, _, hw, rfl, fun k => Iff.rfl⟩, fun k q => ?_⟩
  · rcases q with q | q
    · exact (hS k).2 ⟨0, by rw [q]; exact h.own0⟩
    · exact (hS k).2 ⟨3, q⟩
  · obtain ⟨p, q⟩ := q
    by_cases e : p = 11
    · subst e; rw [upd_same] at q
      rcases q with q | q
      · exact .inl ((hS k).2 ⟨11, q⟩)
      · exact .inr (.inl q)
    · rw [upd_ne _ _ e] at q
      by_cases e3 : p = 3
      · subst e3; rw [upd_same] at q
        rcases q with q | q
        · exact .inl ((hS k).2 ⟨3, q⟩)
        · exact .inr (.inr q.1)
      · rw [upd_ne _ _ e3] at q; exact .inl ((hS k).2 ⟨p, q⟩)
section
variable {w : World} {S : Nat → Prop} {P : Pg} {st : WS} {nd nm : Nat} {ab : Nat} {x : Ax} (h : WAt w S x.wb P st nd nm) (ha : ActAt w ab x x.u 0 false) (hab : ¬ S ab)
include h ha hab
set_option maxHeartbeats 2000000 in
theorem act_spawn (A : Nat) (hA : A < 8) (ea : x.a = (A : Int)) {s : WS} (hs : st.start x.b x.u = some s) :
    Calls Tryz.prog 85 #[ptV ab] w fun e w' => e = .returned (.tuple #[]) ∧ Ay w S ab x P s nd nm (some (updR x.u A st.ts.length)) w' := by
  have hal := ha.lt
  have HS := Lib.hid (fun W (hW : Fr Nob w W) => world_start (h.fr0 hW) x.b x.u hs)
  have key : ∀ W, ActAt W ab x x.u 0 false → W.cell? ⟨ab, 0, none⟩ = some (ptV x.wb) ∧ W.cell? ⟨ab, 4, none⟩ = some (inV x.b) ∧ W.cell? ⟨ab, 8, none⟩ = some (inV (x.u 0)) ∧ W.cell? ⟨ab, 9, none⟩ = some (inV (x.u 1)) ∧ W.cell? ⟨ab, 10, none⟩ = some (inV (x.u 2)) ∧ W.cell? ⟨ab, 11, none⟩ = some (inV (x.u 3)) ∧ W.cell? ⟨ab, 12, none⟩ = some (inV (x.u 4)) ∧ W.cell? ⟨ab, 13, none⟩ = some (inV (x.u 5)) ∧ W.cell? ⟨ab, 14, none⟩ = some (inV (x.u 6)) ∧ W.cell? ⟨ab, 15, none⟩ = some (inV (x.u 7)) := fun W q => ⟨xc0 q, xc4 q, xc8 q, xc9 q, xc10 q, xc11 q, xc12 q, xc13 q, xc14 q, xc15 q⟩
  have Key := Lib.hid key
  have hAi : (A : Int) < 8 := by omega
  have Ha := Lib.hid ha
  generalize st.ts.length = n at *
  clear h hs key ha
  go_enter Tryz.func85, Tryz.ntmps85
  go_wp2_with fail
  go_region_held3 (fun W => W.cell? ⟨ab, 0, none⟩ = some (ptV x.wb) ∧ W.cell? ⟨ab, 4, none⟩ = some (inV x.b) ∧ W.cell? ⟨ab, 8, none⟩ = some (inV (x.u 0)) ∧ W.cell? ⟨ab, 9, none⟩ = some (inV (x.u 1)) ∧ W.cell? ⟨ab, 10, none⟩ = some (inV (x.u 2)) ∧ W.cell? ⟨ab, 11, none⟩ = some (inV (x.u 3)) ∧ W.cell? ⟨ab, 12, none⟩ = some (inV (x.u 4)) ∧ W.cell? ⟨ab, 13, none⟩ = some (inV (x.u 5)) ∧ W.cell? ⟨ab, 14, none⟩ = some (inV (x.u 6)) ∧ W.cell? ⟨ab, 15, none⟩ = some (inV (x.u 7)))
    ((refine Key.out _ ?_; first | with_reducible exact ha2 | with_reducible exact Ha.out | exact blk_drew' Ha.out))
    ((go_at_call 76; refine (HS.out w.drew ((Fr.refl Nob w).drew)).mono ?_; rintro e w2 ⟨rfl, hn2'⟩; have hn2 := Nx.from0 ((Fr.refl Nob w).drew) hn2'; have ha2 := hn2.act Ha.out hab; have Hn2 := Lib.hid hn2; clear hn2 hn2'))
  have Ha2 := Lib.hid ha2
  clear ha2
  go_wp2_with fail
  refine (act_bad).mono ?_
  rintro e w3 ⟨rfl, rfl⟩
  go_wp2_with fail
  have c3 := xcE3 Ha2.out ea
  have cA := xcR Ha2.out A hA
  have fA := blk_froz Ha2.out (16 + A)
  go_region
  all_goals
    obtain ⟨wz, hwz⟩ : ∃ wz, wz = (w2.setCell ⟨ab, 16 + A, none⟩ (inV (n : Int))).drew := ⟨_, rfl⟩
    have haz : ActAt wz ab x (updR x.u A (n : Int)) 0 false := by rw [hwz]; exact blk_drew' (xpR Ha2.out A hA _)
    have hfz : Fr (fun q => q = ab) w2 wz := by rw [hwz]; exact ((Fr.refl (fun q => q = ab) w2).setCell (p := ⟨ab, 16 + A, none⟩) (.inl rfl) _).drew
    rw [← hwz]
    have Haz := Lib.hid haz; have Hfz := Lib.hid hfz
    clear hwz haz hfz c3 cA fA
    go_wp2_with fail
    go_end0
    exact ⟨rfl, Ay.both Hn2.out (Nat.le_refl _) (Nat.le_refl _) Hfz.out Haz.out hab hal⟩
end
theorem few_made {st s : WS} {y : Ins} {r : Nat → Int} {o : Option (Nat → Int)} (h : st.actMake y r = some (s, o)) : ∃ k : Nat, y.1.2.2.1 = (k : Int) ∧ k ≤ 64 ∧ st.made < 64 ∧ st.nch < 90000 ∧ s = { st with ch := Go.Proofs.YtcffplgimbbflaaGreat.upd st.ch st.nch (some (chNew k)), nch := st.nch + 1, made := st.made + 1 } ∧ o = some (updR r y.1.2.1.toNat st.nch) := by
  unfold WS.actMake at h
  split at h
  · cases h
  · next hg =>
    cases h
    refine ⟨y.1.2.2.1.toNat, by omega, by omega, by omega, by omega, ?_, rfl⟩
    rfl
theorem xcE4' {w : World} {ab : Nat} {x : Ax} {r : Nat → Int} {how : Int} {pk : Bool} {v : Int} (h : ActAt w ab x r how pk) (e : x.b = v) : w.cell? ⟨ab, 4, none⟩ = some (inV v) := by rw [← e]; exact xc4 h
set_option maxHeartbeats 2000000 in
theorem act_create {w : World} {S : Nat → Prop} {P : Pg} {st : WS} {nd nm : Nat} {ab : Nat} {x : Ax} (h : WAt w S x.wb P st nd nm) (ha : ActAt w ab x x.u 0 false) (hab : ¬ S ab) (A : Nat) (hA : A < 8) (ea : x.a = (A : Int)) (k : Nat) (hk : k ≤ 64) (ek : x.b = (k : Int)) (hm : st.made < 64) (hn : st.nch < 90000) :
    Calls Tryz.prog 86 #[ptV ab] w fun e w' => e = .returned (.tuple #[]) ∧ ∃ B', Ay w S ab x (P.1, B') { st with ch := Go.Proofs.YtcffplgimbbflaaGreat.upd st.ch st.nch (some (chNew k)), nch := st.nch + 1, made := st.made + 1 } nd nm (some (updR x.u A st.nch)) w' := by
  have hal := ha.lt
  have hlt := h.lt
  have HN := Lib.hid (fun W => chan_new W k hk)
  have c4 := xcE4' ha ek
  have Ha := Lib.hid ha
  have hAi : (A : Int) < 8 := by omega
  have H := Lib.hid h; have Hlt := Lib.hid hlt; have Hn := Lib.hid hn
  have hmi : ¬ (64 : Int) ≤ (st.made : Int) := by omega
  have hmw : IntKind.i64.wrap ((st.made : Int) + 1) = (st.made : Int) + 1 := by rw [IntKind.wrap_i64]; omega
  clear h ha hlt ek
  go_enter Tryz.func86, Tryz.ntmps86
  go_wp2_with fail
  refine (HN.out w).mono ?_
  rintro e w1 ⟨b, T, rfl, hf1, hc1, hT1⟩
  obtain ⟨F, c, h1, hwb, hS⟩ := H.out.fr0 hf1
  have ha1 := Ha.out.fr hf1 (fun q => q)
  have hb1 := h1.blk (fun q => q)
  rw [hwb] at hb1
  have w4 := blk_cell hb1 4 rfl
  have f4 := blk_froz hb1 4
  have k0 := xc0 ha1
  have Hb1 := Lib.hid hb1; have H1 := Lib.hid h1; have Hwb := Lib.hid hwb; have HS := Lib.hid hS; have Ha1 := Lib.hid ha1; have Hc1 := Lib.hid hc1; have HT1 := Lib.hid hT1; have Hf1 := Lib.hid hf1
  clear c4 hb1 h1 hwb hS ha1 hc1 hT1 hf1
  go_wp2_with fail
  obtain ⟨w2, hw2⟩ : ∃ w2, w2 = w1.setCell ⟨x.wb, 4, none⟩ (.int .i64 ((st.made : Int) + 1)) := ⟨_, rfl⟩
  rw [← hw2]
  have hf12 : Fr (fun k => k = c.wb) w1 w2 := by rw [hw2]; exact (Fr.refl (fun k => k = c.wb) w1).setCell (p := ⟨x.wb, 4, none⟩) (.inl Hwb.out.symm) _
  have hb2 : w2.heap[c.wb]? = some (worldO c { st with made := st.made + 1 }) := by rw [hw2, Hwb.out]; exact blk_set Hb1.out 4 _
  have h2 := H1.out.made hf12 (st.made + 1) hb2
  have hwS : S c.wb := (HS.out _).2 ⟨0, H1.out.own0⟩
  have ha2 := Ha1.out.fr hf12 (fun e => hab (by rw [e]; exact hwS))
  have hc2 := Hc1.out.fr hf12 fun k q e => by have := HT1.out k q; have := Hlt.out _ hwS; omega
  have hw : WAt w2 S x.wb P { st with made := st.made + 1 } nd nm := ⟨F, c, h2, Hwb.out, HS.out⟩
  have Hopen := Lib.hid (hw.open (by show st.nch < 100000; have := Hn.out; omega) hc2 (fun k a q => by have := HT1.out k q; have := Hlt.out k a; omega))
  have Ha2 := Lib.hid ha2; have Hf12 := Lib.hid hf12; have HwS := Lib.hid hwS
  have Hz2 := Lib.hid hf12.size
  have Hz1 := Lib.hid Hf1.out.size
  clear hw2 hf12 hb2 h2 hwS ha2 hc2 hw w4 f4 k0 hmi hmw
  have hf0 : Fr Nob w2 w2 := Fr.refl _ _
  have K := Lib.hid (fun W (hW : ActAt W ab x x.u 0 false) => And.intro (xc0 hW) (xcE3 hW ea))
  go_region_held3 (fun W => W.cell? ⟨ab, 0, none⟩ = some (ptV x.wb) ∧ W.cell? ⟨ab, 3, none⟩ = some (inV (A : Int)))
    ((first | with_reducible exact k3s.out | with_reducible exact K.out _ ha3 | with_reducible exact K.out _ Ha2.out | exact K.out _ Ha2.out))
    ((go_at_call 131; refine (Hopen.out w2.drew hf0.drew).mono ?_; rintro e w3 ⟨rfl, S3, f3, a3, s3⟩; have ha3 : ActAt w3 ab x x.u 0 false := ActAt.fr (blk_drew' Ha2.out) f3 hab; have cA := xcR ha3 A hA; have fA := blk_froz ha3 (16 + A); have ha4 := xpR ha3 A hA (st.nch : Int); have k3s : Hid ((w3.setCell ⟨ab, 16 + A, none⟩ (inV (st.nch : Int))).cell? ⟨ab, 0, none⟩ = some (ptV x.wb) ∧ (w3.setCell ⟨ab, 16 + A, none⟩ (inV (st.nch : Int))).cell? ⟨ab, 3, none⟩ = some (inV (A : Int))) := Lib.hid ⟨xc0 ha4, xcE3 ha4 ea⟩; have A3 := Lib.hid a3; have F3 := Lib.hid f3; have S3' := Lib.hid s3; clear a3 f3 s3 ha4))
  all_goals
    go_wp2_with fail
    go_end0
    clear k3s cA fA
    obtain ⟨wz, hwz⟩ : ∃ wz, wz = w3.setCell ⟨ab, 16 + A, none⟩ (inV (st.nch : Int)) := ⟨_, rfl⟩
    have haz : ActAt wz ab x (updR x.u A (st.nch : Int)) 0 false := by rw [hwz]; exact xpR ha3 A hA _
    have hfz : Fr (fun q => q = ab) w3 wz := by rw [hwz]; exact (Fr.refl (fun q => q = ab) w3).setCell (p := ⟨ab, 16 + A, none⟩) (.inl rfl) _
    rw [← hwz]
    have hz1 := Hz1.out; have hz2 := Hz2.out
    have hs3 : ∀ q, S3 q → S q ∨ w.heap.size ≤ q := fun q hq => by
      rcases S3'.out q hq with e | e | e
      · exact .inl e
      · exact .inr (HT1.out q e)
      · have : w2.heap.size ≤ q := e
        exact .inr (by omega)
    have hf23 : Fr S w2 w3 := ((Fr.refl S w2).drew).trans0 F3.out
    refine ⟨rfl, _, S3, ?_, A3.out.fr hfz fun q a e => ?_, hs3, haz⟩
    · exact (((Hf1.out.none.trans0 (Hf12.out.mono fun q _ e => .inl (by rw [e]; exact HwS.out))).trans0 (hf23.mono fun q _ e => .inl e))).trans0 (hfz.mono fun q _ e => .inr e)
    · rcases hs3 q a with e2 | e2
      · exact hab (e ▸ e2)
      · omega
end Go.Proofs.YtcffplgimbbflaaGreat
