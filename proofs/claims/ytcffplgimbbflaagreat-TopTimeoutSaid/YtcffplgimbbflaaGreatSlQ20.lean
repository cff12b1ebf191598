/- Who waits on a channel, from outside; what two laws need. -/
import Derived.Test.YtcffplgimbbflaaGreatSlQ19
set_option linter.unusedVariables false
set_option linter.unusedSimpArgs false
namespace Go.Proofs.YtcffplgimbbflaaGreat
open Go.RowKit
set_option maxRecDepth 100000
theorem timer_some {st s : WS} {kind d : Int} (h : st.timer kind d = some s) : 0 ≤ st.now ∧ st.now ≤ maxT ∧ 1 ≤ d ∧ st.named < 64 ∧ st.tm.length < 900 ∧ ∃ l', heapAdd (heapDel st.hp st.tm.length) ((st.tm.length : Int), addT st.now d, ((st.seq + 1 : Nat) : Int)) = some l' ∧
    s = { st with tm := st.tm ++ [(kind, 0, st.nch, 1)], named := st.named + 1, ch := Go.Proofs.YtcffplgimbbflaaGreat.upd st.ch st.nch (some chTimed), nch := st.nch + 1, hp := l', seq := st.seq + 1, per := putP st.per st.tm.length (perOf kind d) } := by
  unfold WS.timer at h
  split at h
  · cases h
  · next hg =>
    split at h
    · cases h
    · next l' hl =>
      cases h
      exact ⟨by omega, by omega, by omega, by omega, by omega, l', hl, rfl⟩
theorem TmOk.snoc {B : Nat → Nat} {n b : Nat} {tmr : List Tr} {tm : List TmS} (h : TmOk B n tmr tm) (k d g : Int) : TmOk (Go.Proofs.YtcffplgimbbflaaGreat.upd B n b) (n + 1) (tmr ++ [(k, d, b, g)]) (tm ++ [(k, d, n, g)]) := by
  have h' := h.more (b := b)
  refine ⟨?_, fun x hx => ?_⟩
  · rw [List.map_append, ← h'.1]; simp [upd_same]
  · rcases List.mem_append.1 hx with q | q
    · exact h'.2 x q
    · simp at q; subst q; exact Nat.lt_succ_self _
theorem TmOk.len {B : Nat → Nat} {n : Nat} {tmr : List Tr} {tm : List TmS} (h : TmOk B n tmr tm) : tmr.length = tm.length := by rw [h.1, List.length_map]
section
variable {w : World} {S : Nat → Prop} {F : Nat → Nat → Prop} {c : Cfg} {P : Pg} {st : WS} {nd nm : Nat} (h : WP H0 w F c P st nd nm) (hS : ∀ k, S k ↔ Un F k) {ab : Nat} {x : Ax} (hwb : c.wb = x.wb) (ha : ActAt w ab x x.u 0 false) (hab : ¬ S ab)
include h hS hwb ha hab
set_option maxHeartbeats 2000000 in
theorem act_timer (kind : Int) (hk : (x.o = 17 ∧ kind = 1) ∨ (x.o = 18 ∧ kind = 2)) (A B C : Nat) (hA : A < 8) (hB : B < 8) (hC : C < 8) (ea : x.a = (A : Int)) (eb : x.b = (B : Int)) (ec : x.c = (C : Int)) (hnm : nm < 700000) (hn : st.nch < 90000) {s : WS} (hs : st.timer kind (x.u B) = some s) :
    Calls Tryz.prog 89 #[ptV ab] w fun e w' => e = .returned (.tuple #[]) ∧ ∃ B', Ay w S ab x (P.1, B') s nd (nm + 6) (some (updR (updR x.u A st.tm.length) C st.nch)) w' := by
  have hal := ha.lt
  obtain ⟨h0, h1, hd, hna, htl, l', hl', rfl⟩ := timer_some hs
  have h4ab : ¬ F 4 ab := fun q => hab ((hS _).2 ⟨4, q⟩)
  have hAi : (A : Int) < 8 := by omega
  have hCi : (C : Int) < 8 := by omega
  have htr := h.tml.len
  have HB := Lib.hid (fun W (hW : Fr Nob w W) => act_b (ha.fr hW (fun q => q)) B hB eb)
  have hNow := fun W (hW : Fr Nob w W) => world_now (show WAt W S x.wb P st nd nm from ⟨F, c, h.fr0 hW, hwb, hS⟩)
  have HNow := Lib.hid hNow
  have hb := h.blk (fun q => q)
  rw [hwb] at hb
  have k0 : ∀ W, Fr Nob w W → W.cell? ⟨ab, 0, none⟩ = some (ptV x.wb) ∧ W.cell? ⟨x.wb, 5, none⟩ = some (ptV c.mb) := fun W hW => ⟨xc0 (ha.fr hW (fun q => q)), blk_cell (hW.blk (fun q => q) hb) 5 rfl⟩
  have K0 := Lib.hid k0
  have H := Lib.hid h; have HS := Lib.hid hS; have Hwb := Lib.hid hwb; have Ha := Lib.hid ha
  have HTm := Lib.hid (fun W (hW : Fr Nob w W) => (h.fr0 hW).tim (fun q => q))
  rcases hk with ⟨eo, rfl⟩ | ⟨eo, rfl⟩
  · have HT := Lib.hid (fun W (hW : Fr Nob w W) => tim_timer (HTm.out W hW) st.tm.length htr htl hna st.now (x.u B) h0 h1 hd hnm hl')
    clear h hS hwb ha hNow hb k0 hs hl' htr h0 h1 hd
    go_enter Tryz.func89, Tryz.ntmps89
    go_wp2_with fail
    have hf0 : Fr Nob w w := Fr.refl _ _
    go_region_held3 (fun W => W.cell? ⟨ab, 0, none⟩ = some (ptV x.wb) ∧ W.cell? ⟨x.wb, 5, none⟩ = some (ptV c.mb))
      ((refine K0.out _ ?_; first | with_reducible exact hf0 | exact hf0.drew))
      ((go_at_call 52; refine (HNow.out w.drew hf0.drew).mono ?_; rintro e w2 ⟨rfl, rfl⟩))
    have c2 := xcO Ha.out eo
    go_wp2_with fail
    refine (HB.out w.drew hf0.drew).mono ?_
    rintro e w2 ⟨rfl, hf2⟩
    have Hf2 := Lib.hid (hf0.drew.trans0 hf2)
    clear hf0 hf2 c2
    go_wp2_with fail
    refine (HT.out w2 Hf2.out).mono ?_
    rintro e w3 ⟨cb, S4, T, rfl, hf3, ht3, hc3, hS4, hT, hST⟩
    have ha3 := (Ha.out.fr Hf2.out (fun q => q)).fr hf3 h4ab
    have Ha3 := Lib.hid ha3; have Hf3 := Lib.hid hf3; have Ht3 := Lib.hid ht3; have Hc3 := Lib.hid hc3; have HS4 := Lib.hid hS4; have HT' := Lib.hid hT; have HST := Lib.hid hST
    clear ha3 hf3 ht3 hc3 hS4 hT hST
    go_wp2_with fail
    have c3 := xcE3 Ha3.out ea
    have cA := xcR Ha3.out A hA
    have fA := blk_froz Ha3.out (16 + A)
    go_region
    all_goals
      obtain ⟨wz, hwz⟩ : ∃ wz, wz = (w3.setCell ⟨ab, 16 + A, none⟩ (inV (st.tm.length : Int))).drew := ⟨_, rfl⟩
      have haz : ActAt wz ab x (updR x.u A (st.tm.length : Int)) 0 false := by rw [hwz]; exact blk_drew' (xpR Ha3.out A hA _)
      have hfz : Fr (fun q => q = ab) w3 wz := by rw [hwz]; exact ((Fr.refl (fun q => q = ab) w3).setCell (p := ⟨ab, 16 + A, none⟩) (.inl rfl) _).drew
      rw [← hwz]
      have Haz := Lib.hid haz; have Hfz := Lib.hid hfz
      clear hwz haz hfz c3 cA fA
      have hz := ((H.out.fr0 Hf2.out).part 4 Hf3.out).frame Hfz.out (fun _ q => q) fun p k _ q e => hab ((HS.out _).2 ⟨p, by rw [← e]; exact q⟩)
      have hz2 := Hf2.out.size; have hz3 := Hf3.out.size; have hzz := Hfz.out.size
      have hno : ¬ F 3 ab := fun q => hab ((HS.out _).2 ⟨3, q⟩)
      have hnw : ab ≠ c.wb := fun e => hab ((HS.out _).2 ⟨0, by rw [e]; exact H.out.own0⟩)
      have htz := Ht3.out.fr Hfz.out fun k q e => by
        rcases HS4.out k q with q | q
        · exact h4ab (by rw [← e]; exact q)
        · have : w2.heap.size ≤ k := q
          have : k = ab := e
          omega
      have hcz := Hc3.out.fr Hfz.out fun k q e => by
        have := HT'.out k q
        have : k = ab := e
        omega
      have hop := fun W (hW : Fr Nob wz W) => open_raw ((hz.fr0 hW).blk (by decide)) ((hz.fr0 hW).chs (by decide)) (fun q => absurd (H.out.dis _ _ _ q H.out.own0) (by decide)) (by omega) cb
      rw [Hwb.out] at hop
      have Hz := Lib.hid hz; have Htz := Lib.hid htz; have Hcz := Lib.hid hcz; have Hop := Lib.hid hop
      clear hz htz hcz hop
      go_wp2_with fail
      have hf0 : Fr Nob wz wz := Fr.refl _ _
      have K := Lib.hid (fun W r (hW : ActAt W ab x r 0 false) => And.intro (xc0 hW) (xcE5 hW ec))
      go_region_held3 (fun W => W.cell? ⟨ab, 0, none⟩ = some (ptV x.wb) ∧ W.cell? ⟨ab, 5, none⟩ = some (inV (C : Int)))
        ((first | with_reducible exact k5s.out | with_reducible exact K.out _ _ ha5 | with_reducible exact K.out _ _ Haz.out | exact K.out _ _ Haz.out))
        ((go_at_call 131; refine (Hop.out wz.drew hf0.drew).mono ?_; rintro e w5 ⟨v5, rfl, f5, b5, s5⟩; have ha5 : ActAt w5 ab x _ 0 false := ActAt.fr (blk_drew' Haz.out) f5 (fun q => by rcases q with q | q; exact hnw q; exact hno q); have cC := xcR ha5 C hC; have fC := blk_froz ha5 (16 + C); have ha6 := xpR ha5 C hC (st.nch : Int); have k5s := Lib.hid (K.out _ _ ha6); have Ha6 := Lib.hid ha6; have F5 := Lib.hid f5; have B5 := Lib.hid b5; have S5 := Lib.hid s5; clear f5 b5 s5 ha6))
      all_goals
        go_wp2_with fail
        go_end0
        obtain ⟨wf, hwf⟩ : ∃ wf, wf = w5.setCell ⟨ab, 16 + C, none⟩ (inV (st.nch : Int)) := ⟨_, rfl⟩
        rw [← hwf]
        have haf : ActAt wf ab x (updR (updR x.u A (st.tm.length : Int)) C (st.nch : Int)) 0 false := by rw [hwf]; exact Ha6.out
        have hff : Fr (fun q => q = ab) w5 wf := by rw [hwf]; exact (Fr.refl (fun q => q = ab) w5).setCell (p := ⟨ab, 16 + C, none⟩) (.inl rfl) _
        have hTd : ∀ p k, F p k → T k → False := fun p k a q => by have := H.out.lt p k a; have := HT'.out k q; omega
        have h5 := (Hz.out.fr0 ((Fr.refl Nob wz).drew)).addChan (w0 := w) (by decide) (by omega) (Hcz.out.fr0 ((Fr.refl Nob wz).drew)) hTd F5.out B5.out S5.out
        have ht5 := (Htz.out.fr0 ((Fr.refl Nob wz).drew)).fr F5.out (fun k q e => by
          rcases HS4.out k q with a | a
          · rcases e with e | e
            · exact absurd (H.out.dis _ _ _ a (by rw [e]; exact H.out.own0)) (by decide)
            · exact absurd (H.out.dis _ _ _ a e) (by decide)
          · have a : w2.heap.size ≤ k := a
            rcases e with e | e
            · have := H.out.lt _ _ H.out.own0; omega
            · have := H.out.lt _ _ e; omega)
        have key5 : ∀ p k, Go.Proofs.YtcffplgimbbflaaGreat.upd (Go.Proofs.YtcffplgimbbflaaGreat.upd F 3 (And' (F 3) wz.drew w5)) 11 (fun k => F 11 k ∨ T k) p k → F p k ∨ wz.heap.size ≤ k ∨ T k := fun p k q => by
          by_cases e : p = 11
          · subst e; rw [upd_same] at q
            exact q.imp (fun q => q) fun q => .inr q
          · rw [upd_ne _ _ e] at q
            by_cases e3 : p = 3
            · subst e3; rw [upd_same] at q
              exact q.imp (fun q => q) fun q => .inl q.1
            · rw [upd_ne _ _ e3] at q; exact .inl q
        have h6 := h5.fillTim (nm' := nm + 6) (by omega) ht5 (H.out.tml.snoc 1 0 1) (fun p k n a q => by
          rcases key5 p k a with a | a | a
          · rcases HS4.out k q with b | b
            · exact n (H.out.dis _ _ _ a b)
            · have b : w2.heap.size ≤ k := b
              have := H.out.lt _ _ a; omega
          · have := Htz.out.lt k q; omega
          · exact HST.out k q a)
        have key6 : ∀ p k, Go.Proofs.YtcffplgimbbflaaGreat.upd (Go.Proofs.YtcffplgimbbflaaGreat.upd (Go.Proofs.YtcffplgimbbflaaGreat.upd F 3 (And' (F 3) wz.drew w5)) 11 (fun k => F 11 k ∨ T k)) 4 S4 p k → S k ∨ w.heap.size ≤ k := fun p k q => by
          by_cases e : p = 4
          · subst e; rw [upd_same] at q
            rcases HS4.out k q with b | b
            · exact .inl ((HS.out _).2 ⟨4, b⟩)
            · have b : w2.heap.size ≤ k := b
              exact .inr (by omega)
          · rw [upd_ne _ _ e] at q
            rcases key5 p k q with a | a | a
            · exact .inl ((HS.out _).2 ⟨p, a⟩)
            · exact .inr (by omega)
            · have := HT'.out k a; exact .inr (by omega)
        have h7 := h6.frame hff (fun _ q => q) (fun p k _ q e => by
          rcases key6 p k q with a | a
          · exact hab (by rw [← e]; exact a)
          · have e : k = ab := e
            omega)
        refine ⟨rfl, _, _, ?_, ⟨_, _, h7, Hwb.out, fun k => Iff.rfl⟩, fun k ⟨p, q⟩ => key6 p k q, haf⟩
        have g1 : Fr (fun k => S k ∨ k = ab) w w3 := Hf2.out.none.trans0 (Hf3.out.mono fun k _ q => .inl ((HS.out k).2 ⟨4, q⟩))
        have g2 : Fr (fun k => S k ∨ k = ab) wz w5 := ((Fr.refl (fun k => S k ∨ k = ab) wz).drew).trans0 (F5.out.mono fun k _ q => by
          rcases q with q | q
          · exact .inl ((HS.out k).2 ⟨0, by rw [q]; exact H.out.own0⟩)
          · exact .inl ((HS.out k).2 ⟨3, q⟩))
        exact ((g1.trans0 (Hfz.out.mono fun k _ q => .inr q)).trans0 g2).trans0 (hff.mono fun k _ q => .inr q)
  · have HT := Lib.hid (fun W (hW : Fr Nob w W) => tim_ticker (HTm.out W hW) st.tm.length htr htl hna st.now (x.u B) h0 h1 hd hnm hl')
    clear h hS hwb ha hNow hb k0 hs hl' htr h0 h1 hd
    go_enter Tryz.func89, Tryz.ntmps89
    go_wp2_with fail
    have hf0 : Fr Nob w w := Fr.refl _ _
    go_region_held3 (fun W => W.cell? ⟨ab, 0, none⟩ = some (ptV x.wb) ∧ W.cell? ⟨x.wb, 5, none⟩ = some (ptV c.mb))
      ((refine K0.out _ ?_; first | with_reducible exact hf0 | exact hf0.drew))
      ((go_at_call 52; refine (HNow.out w.drew hf0.drew).mono ?_; rintro e w2 ⟨rfl, rfl⟩))
    have c2 := xcO Ha.out eo
    go_wp2_with fail
    refine (HB.out w.drew hf0.drew).mono ?_
    rintro e w2 ⟨rfl, hf2⟩
    have Hf2 := Lib.hid (hf0.drew.trans0 hf2)
    clear hf0 hf2 c2
    go_wp2_with fail
    refine (HT.out w2 Hf2.out).mono ?_
    rintro e w3 ⟨cb, S4, T, rfl, hf3, ht3, hc3, hS4, hT, hST⟩
    have ha3 := (Ha.out.fr Hf2.out (fun q => q)).fr hf3 h4ab
    have Ha3 := Lib.hid ha3; have Hf3 := Lib.hid hf3; have Ht3 := Lib.hid ht3; have Hc3 := Lib.hid hc3; have HS4 := Lib.hid hS4; have HT' := Lib.hid hT; have HST := Lib.hid hST
    clear ha3 hf3 ht3 hc3 hS4 hT hST
    go_wp2_with fail
    have c3 := xcE3 Ha3.out ea
    have cA := xcR Ha3.out A hA
    have fA := blk_froz Ha3.out (16 + A)
    go_region
    all_goals
      obtain ⟨wz, hwz⟩ : ∃ wz, wz = (w3.setCell ⟨ab, 16 + A, none⟩ (inV (st.tm.length : Int))).drew := ⟨_, rfl⟩
      have haz : ActAt wz ab x (updR x.u A (st.tm.length : Int)) 0 false := by rw [hwz]; exact blk_drew' (xpR Ha3.out A hA _)
      have hfz : Fr (fun q => q = ab) w3 wz := by rw [hwz]; exact ((Fr.refl (fun q => q = ab) w3).setCell (p := ⟨ab, 16 + A, none⟩) (.inl rfl) _).drew
      rw [← hwz]
      have Haz := Lib.hid haz; have Hfz := Lib.hid hfz
      clear hwz haz hfz c3 cA fA
      have hz := ((H.out.fr0 Hf2.out).part 4 Hf3.out).frame Hfz.out (fun _ q => q) fun p k _ q e => hab ((HS.out _).2 ⟨p, by rw [← e]; exact q⟩)
      have hz2 := Hf2.out.size; have hz3 := Hf3.out.size; have hzz := Hfz.out.size
      have hno : ¬ F 3 ab := fun q => hab ((HS.out _).2 ⟨3, q⟩)
      have hnw : ab ≠ c.wb := fun e => hab ((HS.out _).2 ⟨0, by rw [e]; exact H.out.own0⟩)
      have htz := Ht3.out.fr Hfz.out fun k q e => by
        rcases HS4.out k q with q | q
        · exact h4ab (by rw [← e]; exact q)
        · have : w2.heap.size ≤ k := q
          have : k = ab := e
          omega
      have hcz := Hc3.out.fr Hfz.out fun k q e => by
        have := HT'.out k q
        have : k = ab := e
        omega
      have hop := fun W (hW : Fr Nob wz W) => open_raw ((hz.fr0 hW).blk (by decide)) ((hz.fr0 hW).chs (by decide)) (fun q => absurd (H.out.dis _ _ _ q H.out.own0) (by decide)) (by omega) cb
      rw [Hwb.out] at hop
      have Hz := Lib.hid hz; have Htz := Lib.hid htz; have Hcz := Lib.hid hcz; have Hop := Lib.hid hop
      clear hz htz hcz hop
      go_wp2_with fail
      have hf0 : Fr Nob wz wz := Fr.refl _ _
      have K := Lib.hid (fun W r (hW : ActAt W ab x r 0 false) => And.intro (xc0 hW) (xcE5 hW ec))
      go_region_held3 (fun W => W.cell? ⟨ab, 0, none⟩ = some (ptV x.wb) ∧ W.cell? ⟨ab, 5, none⟩ = some (inV (C : Int)))
        ((first | with_reducible exact k5s.out | with_reducible exact K.out _ _ ha5 | with_reducible exact K.out _ _ Haz.out | exact K.out _ _ Haz.out))
        ((go_at_call 131; refine (Hop.out wz.drew hf0.drew).mono ?_; rintro e w5 ⟨v5, rfl, f5, b5, s5⟩; have ha5 : ActAt w5 ab x _ 0 false := ActAt.fr (blk_drew' Haz.out) f5 (fun q => by rcases q with q | q; exact hnw q; exact hno q); have cC := xcR ha5 C hC; have fC := blk_froz ha5 (16 + C); have ha6 := xpR ha5 C hC (st.nch : Int); have k5s := Lib.hid (K.out _ _ ha6); have Ha6 := Lib.hid ha6; have F5 := Lib.hid f5; have B5 := Lib.hid b5; have S5 := Lib.hid s5; clear f5 b5 s5 ha6))
      all_goals
        go_wp2_with fail
        go_end0
        obtain ⟨wf, hwf⟩ : ∃ wf, wf = w5.setCell ⟨ab, 16 + C, none⟩ (inV (st.nch : Int)) := ⟨_, rfl⟩
        rw [← hwf]
        have haf : ActAt wf ab x (updR (updR x.u A (st.tm.length : Int)) C (st.nch : Int)) 0 false := by rw [hwf]; exact Ha6.out
        have hff : Fr (fun q => q = ab) w5 wf := by rw [hwf]; exact (Fr.refl (fun q => q = ab) w5).setCell (p := ⟨ab, 16 + C, none⟩) (.inl rfl) _
        have hTd : ∀ p k, F p k → T k → False := fun p k a q => by have := H.out.lt p k a; have := HT'.out k q; omega
        have h5 := (Hz.out.fr0 ((Fr.refl Nob wz).drew)).addChan (w0 := w) (by decide) (by omega) (Hcz.out.fr0 ((Fr.refl Nob wz).drew)) hTd F5.out B5.out S5.out
        have ht5 := (Htz.out.fr0 ((Fr.refl Nob wz).drew)).fr F5.out (fun k q e => by
          rcases HS4.out k q with a | a
          · rcases e with e | e
            · exact absurd (H.out.dis _ _ _ a (by rw [e]; exact H.out.own0)) (by decide)
            · exact absurd (H.out.dis _ _ _ a e) (by decide)
          · have a : w2.heap.size ≤ k := a
            rcases e with e | e
            · have := H.out.lt _ _ H.out.own0; omega
            · have := H.out.lt _ _ e; omega)
        have key5 : ∀ p k, Go.Proofs.YtcffplgimbbflaaGreat.upd (Go.Proofs.YtcffplgimbbflaaGreat.upd F 3 (And' (F 3) wz.drew w5)) 11 (fun k => F 11 k ∨ T k) p k → F p k ∨ wz.heap.size ≤ k ∨ T k := fun p k q => by
          by_cases e : p = 11
          · subst e; rw [upd_same] at q
            exact q.imp (fun q => q) fun q => .inr q
          · rw [upd_ne _ _ e] at q
            by_cases e3 : p = 3
            · subst e3; rw [upd_same] at q
              exact q.imp (fun q => q) fun q => .inl q.1
            · rw [upd_ne _ _ e3] at q; exact .inl q
        have h6 := h5.fillTim (nm' := nm + 6) (by omega) ht5 (H.out.tml.snoc 2 0 1) (fun p k n a q => by
          rcases key5 p k a with a | a | a
          · rcases HS4.out k q with b | b
            · exact n (H.out.dis _ _ _ a b)
            · have b : w2.heap.size ≤ k := b
              have := H.out.lt _ _ a; omega
          · have := Htz.out.lt k q; omega
          · exact HST.out k q a)
        have key6 : ∀ p k, Go.Proofs.YtcffplgimbbflaaGreat.upd (Go.Proofs.YtcffplgimbbflaaGreat.upd (Go.Proofs.YtcffplgimbbflaaGreat.upd F 3 (And' (F 3) wz.drew w5)) 11 (fun k => F 11 k ∨ T k)) 4 S4 p k → S k ∨ w.heap.size ≤ k := fun p k q => by
          by_cases e : p = 4
          · subst e; rw [upd_same] at q
            rcases HS4.out k q with b | b
            · exact .inl ((HS.out _).2 ⟨4, b⟩)
            · have b : w2.heap.size ≤ k := b
              exact .inr (by omega)
          · rw [upd_ne _ _ e] at q
            rcases key5 p k q with a | a | a
            · exact .inl ((HS.out _).2 ⟨p, a⟩)
            · exact .inr (by omega)
            · have := HT'.out k a; exact .inr (by omega)
        have h7 := h6.frame hff (fun _ q => q) (fun p k _ q e => by
          rcases key6 p k q with a | a
          · exact hab (by rw [← e]; exact a)
          · have e : k = ab := e
            omega)
        refine ⟨rfl, _, _, ?_, ⟨_, _, h7, Hwb.out, fun k => Iff.rfl⟩, fun k ⟨p, q⟩ => key6 p k q, haf⟩
        have g1 : Fr (fun k => S k ∨ k = ab) w w3 := Hf2.out.none.trans0 (Hf3.out.mono fun k _ q => .inl ((HS.out k).2 ⟨4, q⟩))
        have g2 : Fr (fun k => S k ∨ k = ab) wz w5 := ((Fr.refl (fun k => S k ∨ k = ab) wz).drew).trans0 (F5.out.mono fun k _ q => by
          rcases q with q | q
          · exact .inl ((HS.out k).2 ⟨0, by rw [q]; exact H.out.own0⟩)
          · exact .inl ((HS.out k).2 ⟨3, q⟩))
        exact ((g1.trans0 (Hfz.out.mono fun k _ q => .inr q)).trans0 g2).trans0 (hff.mono fun k _ q => .inr q)
end
theorem actStop_some {st s : WS} {y : Ins} {r : Nat → Int} {o : Option (Nat → Int)} (h : st.actStop y r = some (s, o)) : ∃ (i : Nat) (kind data : Int) (cj : Nat) (gen : Int) (cc : ChS), r y.1.2.1.toNat = (i : Int) ∧ st.tm[i]? = some (kind, data, cj, gen) ∧ kind ≠ 4 ∧ kind ≠ 0 ∧ st.ch cj = some cc ∧ st.tm.length ≤ 900 ∧
    s = { st with hp := heapDel st.hp i, per := delP st.per i, ch := Go.Proofs.YtcffplgimbbflaaGreat.upd st.ch cj (some cc.dropS) } ∧ o = some (updR r y.1.2.2.1.toNat (bitI (cc.dropR || heapHas st.hp i))) := by
  unfold WS.actStop at h
  dsimp only at h
  split at h
  · cases h
  · next h0 =>
    split at h
    · cases h
    · next kind data cj gen htm =>
      split at h
      · cases h
      · next hk =>
        split at h
        · cases h
        · next cc hc =>
          cases h
          obtain ⟨i, hi⟩ : ∃ i : Nat, r y.1.2.1.toNat = (i : Int) := ⟨(r y.1.2.1.toNat).toNat, by omega⟩
          rw [hi] at htm ⊢
          have tn : ((i : Int)).toNat = i := by omega
          rw [tn] at htm
          exact ⟨i, kind, data, cj, gen, cc, rfl, htm, by omega, by omega, hc, by omega, rfl, rfl⟩
theorem TmOk.get {B : Nat → Nat} {n : Nat} {tmr : List Tr} {tm : List TmS} (h : TmOk B n tmr tm) {i : Nat} {k d : Int} {j : Nat} {g : Int} (hi : tm[i]? = some (k, d, j, g)) : tmr[i]? = some (k, d, B j, g) := by
  rw [h.1, List.getElem?_map, hi]; rfl
section
variable {w : World} {S : Nat → Prop} {F : Nat → Nat → Prop} {c : Cfg} {P : Pg} {st : WS} {nd nm : Nat} (h : WP H0 w F c P st nd nm) (hS : ∀ k, S k ↔ Un F k) {ab : Nat} {x : Ax} (hwb : c.wb = x.wb) (ha : ActAt w ab x x.u 0 false) (hab : ¬ S ab)
include h hS hwb ha hab
set_option maxHeartbeats 2000000 in
theorem act_set (eo : x.o = 20) (A B : Nat) (hA : A < 8) (hB : B < 8) (ea : x.a = (A : Int)) (eb : x.b = (B : Int)) (hnm : nm < 700000) (htl : st.tm.length ≤ 900) {i : Nat} (hi : x.u A = (i : Int)) {kind data : Int} {cj : Nat} {gen : Int} (htm : st.tm[i]? = some (kind, data, cj, gen)) (hk4 : kind ≠ 4) (hk0 : kind ≠ 0) {cc : ChS} (hc : st.ch cj = some cc) :
    Calls Tryz.prog 90 #[ptV ab] w fun e w' => e = .returned (.tuple #[]) ∧ Ay w S ab x P { st with hp := heapDel st.hp i, per := delP st.per i, ch := Go.Proofs.YtcffplgimbbflaaGreat.upd st.ch cj (some cc.dropS) } nd (nm + 3) (some (updR x.u B (bitI (cc.dropR || heapHas st.hp i)))) w' := by
  have hal := ha.lt
  have hil := (List.getElem?_eq_some_iff.1 htm).1
  have htr := h.tml.get htm
  have HA := Lib.hid (fun W (hW : Fr Nob w W) => act_a (ha.fr hW (fun q => q)) A hA ea)
  rw [hi] at HA
  have hd : ∀ k, F 4 k → F 11 k → False := fun k a b => absurd (h.dis _ _ _ a b) (by decide)
  have HK := Lib.hid (fun W (hW : Fr Nob w W) => tim_kind ((h.fr0 hW).tim (fun q => q)) i _ htr)
  obtain ⟨b, hb⟩ : ∃ b, (cc.dropR || heapHas st.hp i) = b := ⟨_, rfl⟩
  have HT := Lib.hid (fun W (hW : Fr Nob w W) => tim_stop ((h.fr0 hW).tim (fun q => q)) ((h.fr0 hW).pool (fun q => q)) hd i (by omega) _ htr cj rfl hc hnm b hb)
  rw [hb]
  have hbk := h.blk (fun q => q)
  rw [hwb] at hbk
  have k0 := xc0 ha
  have k5 := blk_cell hbk 5 rfl
  have k2 : ∀ W, Fr Nob w W → W.cell? ⟨ab, 2, none⟩ = some (inV 20) := fun W hW => xcO (ha.fr hW (fun q => q)) eo
  have hBi : (B : Int) < 8 := by omega
  have H := Lib.hid h; have HS := Lib.hid hS; have Hwb := Lib.hid hwb; have Ha := Lib.hid ha; have K2 := Lib.hid k2; have Hc := Lib.hid hc
  have hn2 := chn_upd h.chn hc
  have Hn2 := Lib.hid hn2
  clear h hS hwb ha hbk k2 hb hc hn2 htm htr hi hd
  go_enter Tryz.func90, Tryz.ntmps90
  go_wp2_with fail
  refine (HA.out w (Fr.refl _ _)).mono ?_
  rintro e w1 ⟨rfl, hf1⟩
  have Hf1 := Lib.hid hf1
  clear hf1 k0 k5
  go_wp2_with fail
  refine (HK.out w1 Hf1.out).mono ?_
  rintro e w2 ⟨rfl, rfl⟩
  have k2 := K2.out w1 Hf1.out
  have q0 : (kind == 0) = false := by simpa using hk0
  have q4 : (kind == 4) = false := by simpa using hk4
  dsimp only
  go_wp2_with fail
  refine (HA.out w1 Hf1.out).mono ?_
  rintro e w3 ⟨rfl, hf3⟩
  have Hf3 := Lib.hid (Hf1.out.trans0 hf3)
  clear hf3 k2 q0 q4
  go_wp2_with fail
  refine (HT.out w3 Hf3.out).mono ?_
  rintro e w4 ⟨rfl, hf4, ht4, hp4⟩
  have hsub : ∀ k, Or' (F 4) (F 11) k → S k := fun k q => by
    rcases q with q | q
    · exact (HS.out k).2 ⟨4, q⟩
    · exact (HS.out k).2 ⟨11, q⟩
  have ha4 := (Ha.out.fr Hf3.out (fun q => q)).fr hf4 (fun q => hab (hsub _ q))
  have h' := (H.out.fr0 Hf3.out).part2 4 11 hf4
  have hw4 : WAt w4 S x.wb P { st with hp := heapDel st.hp i, per := delP st.per i, ch := Go.Proofs.YtcffplgimbbflaaGreat.upd st.ch cj (some cc.dropS) } nd (nm + 3) := ⟨F, c, ⟨h'.lt, h'.dis, h'.own0, h'.own1, fun _ => h'.blk (by decide), fun _ => h'.clk (by decide), fun _ => h'.tab (by decide), fun _ => h'.chs (by decide), fun _ => ht4, fun _ => (h'.ctx (by decide)).mono (by omega), fun _ => h'.dls (by decide), fun _ => h'.lks (by decide), fun _ => h'.prg (by decide), fun _ => h'.evs (by decide), fun _ => h'.cas (by decide), fun _ => hp4, Hn2.out _, h'.tml, h'.cxl, h'.pad⟩, Hwb.out, HS.out⟩
  have Ha4 := Lib.hid ha4
  have hn4 : Nx w S x.wb P _ nd (nm + 3) w4 := ⟨S, Hf3.out.none.trans0 (hf4.mono fun k _ q => hsub k q), hw4, fun k q => .inl q⟩
  have Hn4 := Lib.hid hn4
  have hf04 : Hid (Fr S w w4) := Lib.hid (Hf3.out.none.trans0 (hf4.mono fun k _ q => hsub k q))
  clear hf4 ht4 hp4 hsub ha4 h' hw4 hn4
  go_wp2_with fail
  have c4 := xcE4 Ha4.out eb
  have cB := xcR Ha4.out B hB
  have fB := blk_froz Ha4.out (16 + B)
  have d4 := xcE4 (xpR Ha4.out B hB (bitI b)) eb
  go_region_held3 (fun W => W.cell? ⟨ab, 4, none⟩ = some (inV (B : Int)))
    ((first | with_reducible exact c4 | exact c4 | exact d4))
    ((go_at_call 125; refine (world_bit w4.drew b).mono ?_; rintro e w9 ⟨rfl, rfl⟩))
  all_goals
    obtain ⟨wz, hwz⟩ : ∃ wz, wz = (w4.setCell ⟨ab, 16 + B, none⟩ (inV (bitI b))).drew := ⟨_, rfl⟩
    have haz : ActAt wz ab x (updR x.u B (bitI b)) 0 false := by rw [hwz]; exact blk_drew' (xpR Ha4.out B hB _)
    have hfz : Fr (fun q => q = ab) w4 wz := by rw [hwz]; exact ((Fr.refl (fun q => q = ab) w4).setCell (p := ⟨ab, 16 + B, none⟩) (.inl rfl) _).drew
    try rw [← hwz]
    have Haz := Lib.hid haz; have Hfz := Lib.hid hfz
    clear hwz haz hfz c4 cB fB d4
    go_wp2_with fail
    go_end0
    exact ⟨rfl, Ay.both Hn4.out (Nat.le_refl _) (Nat.le_refl _) Hfz.out Haz.out hab hal⟩
end
/-- A task's cases lie somewhere of their own. -/
theorem CasesAt.setC {w : World} {S S' : Nat → Prop} {tsv : List Tk} {ts : List TkS} (h : CasesAt w S tsv ts) (hs : ∀ k, S k → S' k) (i : Nat) (t : Nat → Int) (d : Bool) (cs : List ICs) (v : Value) (hv : Sl w S' 27 3 v cs.length (cs.flatMap icsEn)) (hn : cs = [] → v = .slice none 0 0) : CasesAt w S' (tsv.set i (t, d, v)) (ts.set i (t, d, cs)) := by
  refine ⟨by rw [List.length_set, List.length_set, h.1], fun j t' d' cs' hj => ?_⟩
  rw [List.getElem?_set] at hj
  split at hj
  · next e =>
    subst e
    split at hj
    · next hl =>
      simp only [Option.some.injEq, Prod.mk.injEq] at hj
      obtain ⟨rfl, rfl, rfl⟩ := hj
      exact ⟨v, by rw [List.getElem?_set_self (by rw [h.1]; exact hl)], hv, hn⟩
    · cases hj
  · next e =>
    obtain ⟨cv, a, b, c⟩ := h.2 j t' d' cs' hj
    exact ⟨cv, by rw [List.getElem?_set_ne e]; exact a, b.mono fun k _ q => hs k q, c⟩
/-- The table has turned, and cases more lie beside. -/
theorem WAt.parked {w w' : World} {S : Nat → Prop} {F : Nat → Nat → Prop} {c : Cfg} {P : Pg} {st : WS} {nd nm : Nat} (hS : ∀ k, S k ↔ Un F k) (h : WP H0 w F c P st nd nm) (hf : Fr (F 2) w w') {tsv : List Tk} {ts : List TkS} {line : List Int} (ht : TableAt w' (F 2) c.tb tsv line) {X : Nat → Prop} (hX : ∀ k, X k → w.heap.size ≤ k ∧ k < w'.heap.size) (hc : CasesAt w' (fun k => F 10 k ∨ X k) tsv ts) : Nx w S c.wb P { st with ts := ts, line := line } nd nm w' := by
  have h' := h.part 2 hf
  have hT : ∀ k, (F 10 k ∨ X k) → F 10 k ∨ w.heap.size ≤ k := fun k q => q.imp (fun q => q) fun q => (hX k q).1
  exact WAt.of hS (hf.mono fun k _ q => ⟨2, q⟩) (c' := { c with tsv := tsv }) (F' := Go.Proofs.YtcffplgimbbflaaGreat.upd F 10 (fun k => F 10 k ∨ X k)) ⟨fam_lt h.lt hf.size fun k q => by rcases q with q | q; have := h.lt 10 k q; have := hf.size; omega; exact (hX k q).2, fam_dis h.lt h.dis hT, h'.own0, h'.own1, fun _ => h'.blk (by decide), fun _ => h'.clk (by decide), fun _ => ht, fun _ => h'.chs (by decide), fun _ => h'.tim (by decide), fun _ => h'.ctx (by decide), fun _ => h'.dls (by decide), fun _ => h'.lks (by decide), fun _ => h'.prg (by decide), fun _ => h'.evs (by decide), fun _ => hc, fun _ => h'.pool (by decide), h'.chn, h'.tml, h'.cxl, h'.pad⟩ rfl (fam_un (fun p k q => ⟨p, q⟩) hT)
section
variable {w : World} {S : Nat → Prop} {wb : Nat} {P : Pg} {st : WS} {nd nm : Nat} (h : WAt w S wb P st nd nm)
include h
/-- A task's registers are put. -/
theorem WAt.tput {id : Nat} {pc : Int} {r : Nat → Int} {s : WS} (hs : st.put id pc r = some s) : ∃ tb, (∀ W, Fr Nob w W → W.cell? ⟨wb, 2, none⟩ = some (ptV tb)) ∧ ∀ W, Fr Nob w W → Calls Tryz.prog 62 #[ptV tb, inV (id : Int), inV pc, .agg (regR r)] W fun e w' => e = .returned (inV 0) ∧ Nx W S wb P s nd nm w' ∧ w'.cell? ⟨wb, 2, none⟩ = some (ptV tb) := by
  unfold WS.put at hs
  split at hs
  · cases hs
  · next t d cs hts =>
    split at hs
    · next hg =>
      cases hs
      obtain ⟨h2, rfl⟩ := hg
      obtain ⟨F, c, h, rfl, hS⟩ := h
      obtain ⟨cv, htsv, _, hnil⟩ := (h.cas (fun q => q)).2 id t d [] hts
      obtain rfl := hnil rfl
      refine ⟨c.tb, fun W hW => blk_cell (hW.blk (fun q => q) (h.blk (fun q => q))) 2 rfl, fun W hW => ?_⟩
      refine (put_ok ((h.fr0 hW).tab (fun q => q)) id t d htsv (by simp [h2]) pc r).mono ?_
      rintro e w' ⟨rfl, hf, ht⟩
      have hz := hW.size
      exact ⟨rfl, (WAt.tabled hS (h.fr0 hW) hf ht (fun k q => .inl q) (((h.fr0 hW).cas (fun q => q)).fr hf (fun k a b => absurd (h.dis _ _ _ a b) (by decide)) |>.set _ _ _)), hf.cell (fun q => absurd (h.dis _ _ _ q h.own0) (by decide)) (blk_cell (hW.blk (fun q => q) (h.blk (fun q => q))) 2 rfl)⟩
    · cases hs
/-- A task ends. -/
theorem WAt.tend {id : Nat} {how : Int} {s : WS} (hs : st.endT id how = some s) : ∃ tb, (∀ W, Fr Nob w W → W.cell? ⟨wb, 2, none⟩ = some (ptV tb)) ∧ ∀ W, Fr Nob w W → Calls Tryz.prog 60 #[ptV tb, inV (id : Int), inV how] W fun e w' => e = .returned (inV 0) ∧ Nx W S wb P s nd nm w' ∧ w'.cell? ⟨wb, 2, none⟩ = some (ptV tb) := by
  unfold WS.endT at hs
  split at hs
  · cases hs
  · next t d cs hts =>
    split at hs
    · cases hs
    · next hg =>
      cases hs
      have h2 : t 2 ≠ 2 := fun e => hg (.inl e)
      obtain rfl : cs = [] := Classical.byContradiction fun e => hg (.inr e)
      obtain ⟨F, c, h, rfl, hS⟩ := h
      obtain ⟨cv, htsv, _, hnil⟩ := (h.cas (fun q => q)).2 id t d [] hts
      obtain rfl := hnil rfl
      refine ⟨c.tb, fun W hW => blk_cell (hW.blk (fun q => q) (h.blk (fun q => q))) 2 rfl, fun W hW => ?_⟩
      refine (end_ok ((h.fr0 hW).tab (fun q => q)) id t d htsv (by simp [h2]) how).mono ?_
      rintro e w' ⟨rfl, hf, ht⟩
      have hz := hW.size
      exact ⟨rfl, (WAt.tabled hS (h.fr0 hW) hf ht (fun k q => .inl q) (((h.fr0 hW).cas (fun q => q)).fr hf (fun k a b => absurd (h.dis _ _ _ a b) (by decide)) |>.set _ _ _)), hf.cell (fun q => absurd (h.dis _ _ _ q h.own0) (by decide)) (blk_cell (hW.blk (fun q => q) (h.blk (fun q => q))) 2 rfl)⟩
/-- A task waits, maybe by the cases of a select. -/
theorem WAt.tpark {id : Nat} {op x y z : Int} {v : Value} {cs : List ICs} {df : Bool} {s : WS} (hs : st.park id ((op, x, y, z), v, cs, df) = some s) {pi : Nat} {p : List Ins} (hp : P.1[pi]? = some p) (hy : ((op, x, y, z), v, cs, df) ∈ p) : st.ev.length < 1000 ∧ ∃ s1 : WS, s = s1.tell 2 id 0 0 0 ∧ s1.ev = st.ev ∧ ∃ tb, (∀ W, Fr Nob w W → W.cell? ⟨wb, 2, none⟩ = some (ptV tb)) ∧ ∀ W, Fr Nob w W → Calls Tryz.prog 61 #[ptV tb, inV (id : Int), .agg #[inV op, inV x, inV y, inV z, v, .bool df]] W fun e w' => e = .returned (inV 0) ∧ Nx W S wb P s1 nd nm w' ∧ w'.cell? ⟨wb, 2, none⟩ = some (ptV tb) := by
  unfold WS.park at hs
  split at hs
  · cases hs
  · next t d cs0 hts =>
    split at hs
    · next hg =>
      obtain ⟨h2, rfl, hg1, hop⟩ := hg
      obtain ⟨hev, hs⟩ := tellO_some hs
      refine ⟨hev, _, hs, rfl, ?_⟩
      obtain ⟨F, c, h, rfl, hS⟩ := h
      obtain ⟨cv, htsv, _, hnil⟩ := (h.cas (fun q => q)).2 id t d [] hts
      obtain rfl := hnil rfl
      obtain ⟨rows, _, hrow⟩ := h.prg (fun q => q)
      obtain ⟨r, _, _, hins⟩ := hrow pi p hp
      obtain ⟨hsl, hvn⟩ := hins _ hy
      dsimp only at hsl hvn
      refine ⟨c.tb, fun W hW => blk_cell (hW.blk (fun q => q) (h.blk (fun q => q))) 2 rfl, fun W hW => ?_⟩
      have h' := h.fr0 hW
      by_cases hc : cs = []
      · subst hc
        obtain rfl := hvn rfl
        refine (park_ok (h'.tab (fun q => q)) id t d htsv op x y z df (by simp [h2]) hop hg1).mono ?_
        rintro e w' ⟨rfl, hf, ht⟩
        exact ⟨rfl, (WAt.tabled hS h' hf ht (fun k q => .inl q) ((h'.cas (fun q => q)).fr hf (fun k a b => absurd (h.dis _ _ _ a b) (by decide)) |>.set _ _ _)), hf.cell (fun q => absurd (h.dis _ _ _ q h.own0) (by decide)) (blk_cell (hW.blk (fun q => q) (h.blk (fun q => q))) 2 rfl)⟩
      · have hgd := hg1
        unfold goodB headB at hgd
        simp only [Bool.and_eq_true, decide_eq_true_eq, Bool.or_eq_true, beq_iff_eq] at hgd
        have h15 : op = 15 := by
          rcases hgd.1.1.1.1.1.2 with a | a
          · exact a
          · exact absurd (List.eq_nil_of_length_eq_zero a.1) hc
        have h16 := hgd.1.1.1.1.2
        subst h15
        obtain ⟨Y, yc, rfl⟩ := hsl.slice
        refine (park_okC (h'.tab (fun q => q)) id t d htsv x y z df cs cs.length rfl (by omega) (hsl.rd.fr hW) (by simp [h2]) hg1).mono ?_
        rintro e w' ⟨Q, qc, rfl, hf, ht, hq⟩
        have hcas := ((h'.cas (fun q => q)).fr hf (fun k a b => absurd (h.dis _ _ _ a b) (by decide))).setC (S' := fun k => F 10 k ∨ (W.heap.size ≤ k ∧ k < w'.heap.size)) (fun k a => .inl a) id (parkT t 15 x y z) df cs (.slice Q cs.length qc) (hq.mono fun k _ a => .inr a) (fun e => absurd e hc)
        exact ⟨rfl, WAt.parked hS h' hf ht (fun k a => a) hcas, hf.cell (fun q => absurd (h.dis _ _ _ q h.own0) (by decide)) (blk_cell (hW.blk (fun q => q) (h.blk (fun q => q))) 2 rfl)⟩
    · cases hs
end
/-- What concerns a task alone, plainly. -/
def WS.alone (st : WS) (id : Nat) (pc : Int) (r : Nat → Int) (told : Bool) (v : Int) (ended : Bool) : Option WS :=
  match st.put id pc r with
  | none => none
  | some s =>
    match (if told then s.tellO 1 id v 0 0 else some s) with
    | none => none
    | some s => if ended then (match s.endT id 0 with
      | none => none
      | some s => s.tellO 4 id 0 0 0) else some s
theorem Nx.tell {w w1 : World} {S : Nat → Prop} {wb : Nat} {P : Pg} {st : WS} {nd nm : Nat} (hn : Nx w S wb P st nd nm w1) (kind who a b d : Int) (hev : st.ev.length < 1000000) : ∀ W, Fr Nob w1 W → Calls Tryz.prog 28 #[ptV wb, inV kind, inV who, inV a, inV b, inV d] W fun e w' => e = .returned (.tuple #[]) ∧ Nx w S wb P (st.tell kind who a b d) nd nm w' := fun W hW => by
  obtain ⟨S', f, a', s⟩ := hn
  refine (world_tell (a'.fr0 hW) kind who a b d hev).mono ?_
  rintro e w' ⟨he, h'⟩
  exact ⟨he, Nx.step f s (Nx.from0 hW h')⟩
theorem Nx.tend {w w1 : World} {S : Nat → Prop} {wb : Nat} {P : Pg} {st s : WS} {nd nm : Nat} (hn : Nx w S wb P st nd nm w1) {id : Nat} {how : Int} (hs : st.endT id how = some s) : ∃ tb, (∀ W, Fr Nob w1 W → W.cell? ⟨wb, 2, none⟩ = some (ptV tb)) ∧ ∀ W, Fr Nob w1 W → Calls Tryz.prog 60 #[ptV tb, inV (id : Int), inV how] W fun e w' => e = .returned (inV 0) ∧ Nx w S wb P s nd nm w' := by
  obtain ⟨S', f, a', s'⟩ := hn
  obtain ⟨tb, h1, h2⟩ := a'.tend hs
  refine ⟨tb, h1, fun W hW => (h2 W hW).mono ?_⟩
  rintro e w' ⟨he, h', _⟩
  exact ⟨he, Nx.step f s' (Nx.from0 hW h')⟩
theorem Nx.blk {w w1 : World} {S : Nat → Prop} {wb : Nat} {P : Pg} {st : WS} {nd nm : Nat} (hn : Nx w S wb P st nd nm w1) {k : Nat} {o : Obj} (hk : ¬ S k) (hb : w.heap[k]? = some o) : w1.heap[k]? = some o := by
  obtain ⟨_, q, _⟩ := hn; exact q.blk hk hb
section
variable {w : World} {S : Nat → Prop} {wb : Nat} {P : Pg} {st : WS} {nd nm : Nat} (h : WAt w S wb P st nd nm)
include h
set_option maxHeartbeats 400000 in
theorem world_alone {id : Nat} {pc : Int} {r : Nat → Int} {told : Bool} {v : Int} {ended : Bool} {s : WS} (hs : st.alone id pc r told v ended = some s) :
    Calls Tryz.prog 58 #[ptV wb, inV (id : Int), .agg (outA pc r told v ended)] w fun e w' => e = .returned (.tuple #[]) ∧ Nx w S wb P s nd nm w' := by
  unfold WS.alone at hs
  split at hs
  · cases hs
  · next s1 hput =>
    obtain ⟨tb, hc, hcall⟩ := h.tput hput
    have hlt := h.lt
    have Hc := Lib.hid hc; have Hcall := Lib.hid hcall; have Hs := Lib.hid hs; have Hlt := Lib.hid hlt
    clear hs hput h hc hcall hlt
    go_enter Tryz.func58, Tryz.ntmps58
    go_wp2_with fail
    obtain ⟨w1, hw1⟩ : ∃ w1, w1 = w.alloc (.cells (outA pc r told v ended) 138) := ⟨_, rfl⟩
    rw [← hw1]
    obtain ⟨ob, hob⟩ : ∃ ob, ob = w.heap.size := ⟨_, rfl⟩
    rw [← hob]
    have hfw1 : Fr Nob w w1 := by rw [hw1]; exact (Fr.refl Nob w).alloc _
    have hbw1 : w1.heap[ob]? = some (.cells (outA pc r told v ended) 138 (0, 0)) := by rw [hw1, hob]; exact heap_alloc_new _ _
    have Hfw1 := Lib.hid hfw1; have Hbw1 := Lib.hid hbw1; have Hzw1 : Hid (w.heap.size = ob ∧ ob < w1.heap.size) := ⟨hob.symm, lt_of_block hbw1⟩
    clear hw1 hob hfw1 hbw1
    have hobS : ¬ S ob := fun q => by have := Hlt.out _ q; have := Hzw1.out; omega
    have key : ∀ W, Fr S w1 W → (W.heap[ob]? = some (.cells (outA pc r told v ended) 138 (0, 0))) := fun W hW => hW.blk hobS Hbw1.out
    have key0 : ∀ W, Fr Nob w1 W → W.cell? ⟨wb, 2, none⟩ = some (ptV tb) ∧ W.cell? ⟨ob, 0, none⟩ = some (inV pc) ∧ W.cell? ⟨ob, 1, none⟩ = some (inV (r 0)) ∧ W.cell? ⟨ob, 2, none⟩ = some (inV (r 1)) ∧ W.cell? ⟨ob, 3, none⟩ = some (inV (r 2)) ∧ W.cell? ⟨ob, 4, none⟩ = some (inV (r 3)) ∧ W.cell? ⟨ob, 5, none⟩ = some (inV (r 4)) ∧ W.cell? ⟨ob, 6, none⟩ = some (inV (r 5)) ∧ W.cell? ⟨ob, 7, none⟩ = some (inV (r 6)) ∧ W.cell? ⟨ob, 8, none⟩ = some (inV (r 7)) := fun W hW => by
      have q := hW.blk (fun q => q) Hbw1.out
      exact ⟨Hc.out W (Hfw1.out.trans0 hW), blk_cell q 0 rfl, blk_cell q 1 rfl, blk_cell q 2 rfl, blk_cell q 3 rfl, blk_cell q 4 rfl, blk_cell q 5 rfl, blk_cell q 6 rfl, blk_cell q 7 rfl, blk_cell q 8 rfl⟩
    have Key := Lib.hid key; have Key0 := Lib.hid key0
    clear key key0
    have hf0 : Fr Nob w1 w1 := Fr.refl _ _
    go_region_held3 (fun W => W.cell? ⟨wb, 2, none⟩ = some (ptV tb) ∧ W.cell? ⟨ob, 0, none⟩ = some (inV pc) ∧ W.cell? ⟨ob, 1, none⟩ = some (inV (r 0)) ∧ W.cell? ⟨ob, 2, none⟩ = some (inV (r 1)) ∧ W.cell? ⟨ob, 3, none⟩ = some (inV (r 2)) ∧ W.cell? ⟨ob, 4, none⟩ = some (inV (r 3)) ∧ W.cell? ⟨ob, 5, none⟩ = some (inV (r 4)) ∧ W.cell? ⟨ob, 6, none⟩ = some (inV (r 5)) ∧ W.cell? ⟨ob, 7, none⟩ = some (inV (r 6)) ∧ W.cell? ⟨ob, 8, none⟩ = some (inV (r 7)))
      ((first | with_reducible exact k2s.out | with_reducible exact Key0.out _ hf0 | exact Key0.out _ hf0.drew))
      ((go_at_call 62; refine (Hcall.out w1.drew (Hfw1.out.drew)).mono ?_; rintro e w2 ⟨rfl, hn2, hc2⟩; have hb2 : w2.heap[ob]? = some (.cells (outA pc r told v ended) 138 (0, 0)) := (by obtain ⟨_, q, _⟩ := hn2; exact q.blk (w := w1.drew) hobS Hbw1.out); have k2s : Hid (w2.cell? ⟨wb, 2, none⟩ = some (ptV tb) ∧ w2.cell? ⟨ob, 0, none⟩ = some (inV pc) ∧ w2.cell? ⟨ob, 1, none⟩ = some (inV (r 0)) ∧ w2.cell? ⟨ob, 2, none⟩ = some (inV (r 1)) ∧ w2.cell? ⟨ob, 3, none⟩ = some (inV (r 2)) ∧ w2.cell? ⟨ob, 4, none⟩ = some (inV (r 3)) ∧ w2.cell? ⟨ob, 5, none⟩ = some (inV (r 4)) ∧ w2.cell? ⟨ob, 6, none⟩ = some (inV (r 5)) ∧ w2.cell? ⟨ob, 7, none⟩ = some (inV (r 6)) ∧ w2.cell? ⟨ob, 8, none⟩ = some (inV (r 7))) := Lib.hid ⟨hc2, blk_cell hb2 0 rfl, blk_cell hb2 1 rfl, blk_cell hb2 2 rfl, blk_cell hb2 3 rfl, blk_cell hb2 4 rfl, blk_cell hb2 5 rfl, blk_cell hb2 6 rfl, blk_cell hb2 7 rfl, blk_cell hb2 8 rfl⟩; have Hn2 := Lib.hid hn2; have Hb2 := Lib.hid hb2; clear hn2 hc2 hb2))
    have hs := Hs.out
    cases told with
    | false =>
      simp only [if_neg (Bool.false_ne_true)] at hs
      have k9 := blk_cell Hb2.out 9 rfl
      have k11 := blk_cell Hb2.out 11 rfl
      cases ended with
      | false =>
        simp only [if_neg (Bool.false_ne_true), Option.some.injEq] at hs
        subst hs
        go_wp2_with fail
        go_end0
        exact ⟨rfl, Nx.from0 Hfw1.out.drew Hn2.out⟩
      | true =>
        simp only [if_true] at hs
        split at hs
        · cases hs
        · next s3 he =>
          obtain ⟨hev3, rfl⟩ := tellO_some hs
          obtain ⟨tb3, hc3, hcall3⟩ := Hn2.out.tend he
          have k3 := hc3 w2 (Fr.refl _ _)
          obtain rfl : tb3 = tb := by simpa using k3.symm.trans k2s.out.1
          have Hcall3 := Lib.hid hcall3
          clear hs hc3 hcall3 he
          go_wp2_with fail
          refine (Hcall3.out w2 (Fr.refl _ _)).mono ?_
          rintro e w5 ⟨rfl, hn5⟩
          have Ht5 := Lib.hid (hn5.tell 4 (id : Int) 0 0 0 (by omega))
          clear hn5 k3
          go_wp2_with fail
          refine (Ht5.out w5 (Fr.refl _ _)).mono ?_
          rintro e w6 ⟨rfl, hn6⟩
          have Hn6 := Lib.hid hn6
          clear hn6
          go_wp2_with fail
          go_end0
          exact ⟨rfl, Nx.from0 Hfw1.out.drew Hn6.out⟩
    | true =>
      simp only [if_true] at hs
      split at hs
      · cases hs
      · next s2 ht =>
        obtain ⟨hev2, rfl⟩ := tellO_some ht
        have Ht2 := Lib.hid (Hn2.out.tell 1 (id : Int) v 0 0 (by omega))
        have k9 := blk_cell Hb2.out 9 rfl
        have k10 := blk_cell Hb2.out 10 rfl
        clear ht
        go_wp2_with fail
        refine (Ht2.out w2 (Fr.refl _ _)).mono ?_
        rintro e w4 ⟨rfl, hn4⟩
        have hb4 := hn4.blk hobS (w := w1.drew) Hbw1.out
        have k11 := blk_cell hb4 11 rfl
        have Hn4 := Lib.hid hn4
        clear hn4 hb4 k9 k10
        cases ended with
        | false =>
          simp only [if_neg (Bool.false_ne_true), Option.some.injEq] at hs
          subst hs
          go_wp2_with fail
          go_end0
          exact ⟨rfl, Nx.from0 Hfw1.out.drew Hn4.out⟩
        | true =>
          simp only [if_true] at hs
          split at hs
          · cases hs
          · next s3 he =>
            obtain ⟨hev3, rfl⟩ := tellO_some hs
            obtain ⟨tb3, hc3, hcall3⟩ := Hn4.out.tend he
            have k3 := hc3 w4 (Fr.refl _ _)
            have Hcall3 := Lib.hid hcall3
            clear hs hc3 hcall3 he
            go_wp2_with fail
            refine (Hcall3.out w4 (Fr.refl _ _)).mono ?_
            rintro e w5 ⟨rfl, hn5⟩
            have Ht5 := Lib.hid (hn5.tell 4 (id : Int) 0 0 0 (by omega))
            clear hn5 k3
            go_wp2_with fail
            refine (Ht5.out w5 (Fr.refl _ _)).mono ?_
            rintro e w6 ⟨rfl, hn6⟩
            have Hn6 := Lib.hid hn6
            clear hn6
            go_wp2_with fail
            go_end0
            exact ⟨rfl, Nx.from0 Hfw1.out.drew Hn6.out⟩
end
end Go.Proofs.YtcffplgimbbflaaGreat
