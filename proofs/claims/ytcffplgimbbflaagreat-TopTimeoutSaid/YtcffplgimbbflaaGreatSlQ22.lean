/- Who waits on a channel, from outside; what two laws need. -/
import Derived.Test.YtcffplgimbbflaaGreatSlQ21
set_option linter.unusedVariables false
set_option linter.unusedSimpArgs false
namespace Go.Proofs.YtcffplgimbbflaaGreat
open Go.RowKit
set_option maxRecDepth 100000
/-- What do of an instruction on its way does, for operations K. -/
abbrev DoC (K : Int → Prop) : Prop := ∀ {w : World} {S : Nat → Prop} {P : Pg} {st : WS} {nd nm : Nat} {ab : Nat} {x : Ax}, WAt w S x.wb P st nd nm → ActAt w ab x x.u 0 false → ¬ S ab → ∀ {id : Nat} {y : Ins}, AxOf x id y → regsOk y = true → st.few = true → nd ≤ 100000000000 → nm < 690000 → InsOk w y → y.2.2.1.length ≤ 16 → (∀ z ∈ y.2.2.1, csB z = true) → ∀ {s : WS} {o : Option (Nat → Int)}, st.act id y x.u x.draw = some (s, o) → K y.1.1 →
    Calls Tryz.prog 59 #[ptV ab] w fun e w' => e = .returned (.tuple #[]) ∧ ∃ B', Ay w S ab x (P.1, B') s (nd + 2000) (nm + 10) o w'
theorem DoC.or {K L : Int → Prop} (h : DoC K) (g : DoC L) : DoC (fun op => K op ∨ L op) := by
  intro w S P st nd nm ab x a b c id y d e f g1 g2 g3 g4 g5 s o g6 g7
  rcases g7 with q | q
  · exact h a b c d e f g1 g2 g3 g4 g5 g6 q
  · exact g a b c d e f g1 g2 g3 g4 g5 g6 q
theorem DoC.sub {K L : Int → Prop} (h : DoC K) (g : ∀ op, L op → K op) : DoC L := by
  intro w S P st nd nm ab x a b c id y d e f g1 g2 g3 g4 g5 s o g6 g7
  exact h a b c d e f g1 g2 g3 g4 g5 g6 (g _ g7)
theorem actTimer_some {st s : WS} {kind : Int} {y : Ins} {r : Nat → Int} {o : Option (Nat → Int)} (h : st.actTimer kind y r = some (s, o)) : st.nch < 90000 ∧ st.timer kind (r y.1.2.2.1.toNat) = some s ∧ o = some (updR (updR r y.1.2.1.toNat st.tm.length) y.1.2.2.2.toNat st.nch) := by
  unfold WS.actTimer at h
  split at h
  · cases h
  · next hg =>
    split at h
    · cases h
    · next s1 h1 => cases h; exact ⟨by omega, h1, rfl⟩
theorem actGo_some {st s : WS} {y : Ins} {r : Nat → Int} {o : Option (Nat → Int)} (h : st.actGo y r = some (s, o)) : st.start y.1.2.2.1 r = some s ∧ o = some (updR r y.1.2.1.toNat st.ts.length) := by
  unfold WS.actGo at h
  split at h
  · cases h
  · next s1 h1 => cases h; exact ⟨h1, rfl⟩
set_option maxHeartbeats 1000000 in
theorem do_go : DoC (fun op => op = 8) := by
  intro w S P st nd nm ab x h ha hab id y hx hreg hfew hnd hnm hins h16 hcs s o hs e
  have h1 := h
  obtain ⟨F, c, hw, hwb, hS⟩ := h1
  obtain ⟨A, hA, hyA, hyBC⟩ := regs_of hreg
  have ea := hx.a.trans hyA
  have tn : ∀ n : Nat, (n : Int).toNat = n := fun n => by omega
  have ho := hx.o
  have eo := ho.trans e
  have hc : st.actGo y x.u = some (s, o) := by simpa [WS.act, e] using hs
  obtain ⟨hc2, rfl⟩ := actGo_some hc
  rw [hyA, tn]
  rw [← hx.b] at hc2
  have c2 := xcO ha eo
  have Hcall := Lib.hid (act_spawn h ha hab A hA ea hc2)
  clear hc eo
  clear hs hx hreg hfew h ha hins hcs
  go_enter Tryz.func59, Tryz.ntmps59
  go_wp2_with fail
  refine Hcall.out.mono ?_
  rintro e w2 ⟨rfl, hay⟩
  have Hay := Lib.hid hay
  clear hay c2
  go_wp2_with fail
  go_end0
  exact ⟨rfl, P.2, Ay.later (Fr.refl _ _) Hay.out (by omega) (by omega)⟩
set_option maxHeartbeats 1000000 in
theorem do_make : DoC (fun op => op = 9) := by
  intro w S P st nd nm ab x h ha hab id y hx hreg hfew hnd hnm hins h16 hcs s o hs e
  have h1 := h
  obtain ⟨F, c, hw, hwb, hS⟩ := h1
  obtain ⟨A, hA, hyA, hyBC⟩ := regs_of hreg
  have ea := hx.a.trans hyA
  have tn : ∀ n : Nat, (n : Int).toNat = n := fun n => by omega
  have ho := hx.o
  have eo := ho.trans e
  have hc : st.actMake y x.u = some (s, o) := by simpa [WS.act, e] using hs
  obtain ⟨k, hk, hk64, hm, hn, rfl, rfl⟩ := few_made hc
  rw [hyA, tn]
  have c2 := xcO ha eo
  have Hcall := Lib.hid (act_create h ha hab A hA ea k hk64 (hx.b.trans hk) hm hn)
  clear hc eo
  clear hs hx hreg hfew h ha hins hcs
  go_enter Tryz.func59, Tryz.ntmps59
  go_wp2_with fail
  refine Hcall.out.mono ?_
  rintro e w2 ⟨rfl, hay⟩
  have Hay := Lib.hid hay
  clear hay c2
  go_wp2_with fail
  go_end0
  obtain ⟨B', q⟩ := Hay.out
  exact ⟨rfl, B', Ay.later (Fr.refl _ _) q (by omega) (by omega)⟩
set_option maxHeartbeats 1000000 in
theorem do_stop : DoC (fun op => op = 20) := by
  intro w S P st nd nm ab x h ha hab id y hx hreg hfew hnd hnm hins h16 hcs s o hs e
  have h1 := h
  obtain ⟨F, c, hw, hwb, hS⟩ := h1
  obtain ⟨A, hA, hyA, hyBC⟩ := regs_of hreg
  have ea := hx.a.trans hyA
  have tn : ∀ n : Nat, (n : Int).toNat = n := fun n => by omega
  have ho := hx.o
  have eo := ho.trans e
  have hc : st.actStop y x.u = some (s, o) := by simpa [WS.act, e] using hs
  obtain ⟨B, C, hB, hC, hyB, hyC⟩ := hyBC (by omega) (by omega)
  have eb := hx.b.trans hyB
  have ecc := hx.c.trans hyC
  obtain ⟨i, kind, data, cj, gen, cc, hi, htm, hk4, hk0, hcc, hl, rfl, rfl⟩ := actStop_some hc
  rw [hyA, tn] at hi
  rw [hyB, tn]
  have c2 := xcO ha eo
  have Hcall := Lib.hid (act_set hw hS hwb ha hab eo A B hA hB ea eb (by omega) hl hi htm hk4 hk0 hcc)
  clear hc eo
  clear hs hx hreg hfew h ha hins hcs
  go_enter Tryz.func59, Tryz.ntmps59
  go_wp2_with fail
  refine Hcall.out.mono ?_
  rintro e w2 ⟨rfl, hay⟩
  have Hay := Lib.hid hay
  clear hay c2
  go_wp2_with fail
  go_end0
  exact ⟨rfl, P.2, Ay.later (Fr.refl _ _) Hay.out (by omega) (by omega)⟩
set_option maxHeartbeats 1000000 in
theorem do_timer : DoC (fun op => op = 17) := by
  intro w S P st nd nm ab x h ha hab id y hx hreg hfew hnd hnm hins h16 hcs s o hs e
  have h1 := h
  obtain ⟨F, c, hw, hwb, hS⟩ := h1
  obtain ⟨A, hA, hyA, hyBC⟩ := regs_of hreg
  have ea := hx.a.trans hyA
  have tn : ∀ n : Nat, (n : Int).toNat = n := fun n => by omega
  have ho := hx.o
  have eo := ho.trans e
  have hc : st.actTimer 1 y x.u = some (s, o) := by simpa [WS.act, e] using hs
  obtain ⟨B, C, hB, hC, hyB, hyC⟩ := hyBC (by omega) (by omega)
  have eb := hx.b.trans hyB
  have ecc := hx.c.trans hyC
  obtain ⟨hn, htm, rfl⟩ := actTimer_some hc
  rw [hyB, tn] at htm
  rw [hyA, hyC, tn, tn]
  have c2 := xcO ha eo
  have Hcall := Lib.hid (act_timer hw hS hwb ha hab 1 (.inl ⟨eo, rfl⟩) A B C hA hB hC ea eb ecc (by omega) hn htm)
  clear hc eo
  clear hs hx hreg hfew h ha hins hcs
  go_enter Tryz.func59, Tryz.ntmps59
  go_wp2_with fail
  refine Hcall.out.mono ?_
  rintro e w2 ⟨rfl, hay⟩
  have Hay := Lib.hid hay
  clear hay c2
  go_wp2_with fail
  go_end0
  obtain ⟨B', q⟩ := Hay.out
  exact ⟨rfl, B', Ay.later (Fr.refl _ _) q (by omega) (by omega)⟩
set_option maxHeartbeats 1000000 in
theorem do_ticker : DoC (fun op => op = 18) := by
  intro w S P st nd nm ab x h ha hab id y hx hreg hfew hnd hnm hins h16 hcs s o hs e
  have h1 := h
  obtain ⟨F, c, hw, hwb, hS⟩ := h1
  obtain ⟨A, hA, hyA, hyBC⟩ := regs_of hreg
  have ea := hx.a.trans hyA
  have tn : ∀ n : Nat, (n : Int).toNat = n := fun n => by omega
  have ho := hx.o
  have eo := ho.trans e
  have hc : st.actTimer 2 y x.u = some (s, o) := by simpa [WS.act, e] using hs
  obtain ⟨B, C, hB, hC, hyB, hyC⟩ := hyBC (by omega) (by omega)
  have eb := hx.b.trans hyB
  have ecc := hx.c.trans hyC
  obtain ⟨hn, htm, rfl⟩ := actTimer_some hc
  rw [hyB, tn] at htm
  rw [hyA, hyC, tn, tn]
  have c2 := xcO ha eo
  have Hcall := Lib.hid (act_timer hw hS hwb ha hab 2 (.inr ⟨eo, rfl⟩) A B C hA hB hC ea eb ecc (by omega) hn htm)
  clear hc eo
  clear hs hx hreg hfew h ha hins hcs
  go_enter Tryz.func59, Tryz.ntmps59
  go_wp2_with fail
  refine Hcall.out.mono ?_
  rintro e w2 ⟨rfl, hay⟩
  have Hay := Lib.hid hay
  clear hay c2
  go_wp2_with fail
  go_end0
  obtain ⟨B', q⟩ := Hay.out
  exact ⟨rfl, B', Ay.later (Fr.refl _ _) q (by omega) (by omega)⟩
set_option maxHeartbeats 1000000 in
theorem do_ch10 : DoC (fun op => op = 10) := by
  intro w S P st nd nm ab x h ha hab id y hx hreg hfew hnd hnm hins h16 hcs s o hs e
  have h1 := h
  obtain ⟨F, c, hw, hwb, hS⟩ := h1
  obtain ⟨A, hA, hyA, hyBC⟩ := regs_of hreg
  have ea := hx.a.trans hyA
  have tn : ∀ n : Nat, (n : Int).toNat = n := fun n => by omega
  have ho := hx.o
  have eo := ho.trans e
  have hc : st.actChan id y x.u = some (s, o) := by simpa [WS.act, e] using hs
  have c2 := xcO ha eo
  have Hcall := Lib.hid (act_channel hw hS hwb ha hab hx hreg hfew hnd hc)
  clear hc eo
  clear hs hx hreg hfew h ha hins hcs
  go_enter Tryz.func59, Tryz.ntmps59
  go_wp2_with fail
  refine Hcall.out.mono ?_
  rintro e w2 ⟨rfl, hay⟩
  have Hay := Lib.hid hay
  clear hay c2
  go_wp2_with fail
  go_end0
  exact ⟨rfl, P.2, Ay.later (Fr.refl _ _) Hay.out (by omega) (by omega)⟩
set_option maxHeartbeats 1000000 in
theorem do_ch11 : DoC (fun op => op = 11) := by
  intro w S P st nd nm ab x h ha hab id y hx hreg hfew hnd hnm hins h16 hcs s o hs e
  have h1 := h
  obtain ⟨F, c, hw, hwb, hS⟩ := h1
  obtain ⟨A, hA, hyA, hyBC⟩ := regs_of hreg
  have ea := hx.a.trans hyA
  have tn : ∀ n : Nat, (n : Int).toNat = n := fun n => by omega
  have ho := hx.o
  have eo := ho.trans e
  have hc : st.actChan id y x.u = some (s, o) := by simpa [WS.act, e] using hs
  have c2 := xcO ha eo
  have Hcall := Lib.hid (act_channel hw hS hwb ha hab hx hreg hfew hnd hc)
  clear hc eo
  clear hs hx hreg hfew h ha hins hcs
  go_enter Tryz.func59, Tryz.ntmps59
  go_wp2_with fail
  refine Hcall.out.mono ?_
  rintro e w2 ⟨rfl, hay⟩
  have Hay := Lib.hid hay
  clear hay c2
  go_wp2_with fail
  go_end0
  exact ⟨rfl, P.2, Ay.later (Fr.refl _ _) Hay.out (by omega) (by omega)⟩
set_option maxHeartbeats 1000000 in
theorem do_ch13 : DoC (fun op => op = 13) := by
  intro w S P st nd nm ab x h ha hab id y hx hreg hfew hnd hnm hins h16 hcs s o hs e
  have h1 := h
  obtain ⟨F, c, hw, hwb, hS⟩ := h1
  obtain ⟨A, hA, hyA, hyBC⟩ := regs_of hreg
  have ea := hx.a.trans hyA
  have tn : ∀ n : Nat, (n : Int).toNat = n := fun n => by omega
  have ho := hx.o
  have eo := ho.trans e
  have hc : st.actChan id y x.u = some (s, o) := by simpa [WS.act, e] using hs
  have c2 := xcO ha eo
  have Hcall := Lib.hid (act_channel hw hS hwb ha hab hx hreg hfew hnd hc)
  clear hc eo
  clear hs hx hreg hfew h ha hins hcs
  go_enter Tryz.func59, Tryz.ntmps59
  go_wp2_with fail
  refine Hcall.out.mono ?_
  rintro e w2 ⟨rfl, hay⟩
  have Hay := Lib.hid hay
  clear hay c2
  go_wp2_with fail
  go_end0
  exact ⟨rfl, P.2, Ay.later (Fr.refl _ _) Hay.out (by omega) (by omega)⟩
set_option maxHeartbeats 1000000 in
theorem do_ch14 : DoC (fun op => op = 14) := by
  intro w S P st nd nm ab x h ha hab id y hx hreg hfew hnd hnm hins h16 hcs s o hs e
  have h1 := h
  obtain ⟨F, c, hw, hwb, hS⟩ := h1
  obtain ⟨A, hA, hyA, hyBC⟩ := regs_of hreg
  have ea := hx.a.trans hyA
  have tn : ∀ n : Nat, (n : Int).toNat = n := fun n => by omega
  have ho := hx.o
  have eo := ho.trans e
  have hc : st.actChan id y x.u = some (s, o) := by simpa [WS.act, e] using hs
  have c2 := xcO ha eo
  have Hcall := Lib.hid (act_channel hw hS hwb ha hab hx hreg hfew hnd hc)
  clear hc eo
  clear hs hx hreg hfew h ha hins hcs
  go_enter Tryz.func59, Tryz.ntmps59
  go_wp2_with fail
  refine Hcall.out.mono ?_
  rintro e w2 ⟨rfl, hay⟩
  have Hay := Lib.hid hay
  clear hay c2
  go_wp2_with fail
  go_end0
  exact ⟨rfl, P.2, Ay.later (Fr.refl _ _) Hay.out (by omega) (by omega)⟩
set_option maxHeartbeats 1000000 in
theorem do_select : DoC (fun op => op = 15) := by
  intro w S P st nd nm ab x h ha hab id y hx hreg hfew hnd hnm hins h16 hcs s o hs e
  have h1 := h
  obtain ⟨F, c, hw, hwb, hS⟩ := h1
  obtain ⟨A, hA, hyA, hyBC⟩ := regs_of hreg
  have ea := hx.a.trans hyA
  have tn : ∀ n : Nat, (n : Int).toNat = n := fun n => by omega
  have ho := hx.o
  have eo := ho.trans e
  have hc : st.actChoose id y x.u x.draw = some (s, o) := by simpa [WS.act, e] using hs
  have c2 := xcO ha eo
  have Hcall := Lib.hid (act_choose hw hS hwb ha hab hx hreg e hfew hnd hins h16 hcs hc)
  clear hc eo
  clear hs hx hreg hfew h ha hins hcs
  go_enter Tryz.func59, Tryz.ntmps59
  go_wp2_with fail
  refine Hcall.out.mono ?_
  rintro e w2 ⟨rfl, hay⟩
  have Hay := Lib.hid hay
  clear hay c2
  go_wp2_with fail
  go_end0
  exact ⟨rfl, P.2, Ay.later (Fr.refl _ _) Hay.out (by omega) (by omega)⟩
theorem Tryz.info_look : (Tryz.prog.info? 134).map (fun i => (i.zero, i.size, i.bytes)) = some (some (.agg #[.slice none 0 0, .int .i64 0]), 2, 32) := by kernel_rfl
/-- A look more. -/
theorem WP.looked {w w3 : World} {S : Nat → Prop} {F : Nat → Nat → Prop} {c : Cfg} {P : Pg} {st : WS} {nd nm : Nat} (hS : ∀ k, S k ↔ Un F k) (h : WP H0 w F c P st nd nm) {w0 : World} (h0 : Fr Nob w w0) (hf : Fr (F 7) w0 w3) {X : Option Addr} {c3 n : Nat} {cs : List Value} (hs : Sl w3 (fun k => F 7 k ∨ w0.heap.size ≤ k) 134 2 (.slice X (n + 1) c3) (n + 1) cs) (hn : n ≤ nd) :
    Nx w S c.wb P st (nd + 1) nm (w3.setCell ⟨c.wb, 8, none⟩ (.slice X (n + 1) c3)) := by
  have h70 : ¬ F 7 c.wb := fun q => absurd (h.dis _ _ _ q h.own0) (by decide)
  have hb3 := hf.blk h70 (h0.blk id (h.blk id))
  obtain ⟨W3, hW3⟩ : ∃ W3, W3 = w3.setCell ⟨c.wb, 8, none⟩ (.slice X (n + 1) c3) := ⟨_, rfl⟩
  rw [← hW3]
  have hf34 : Fr (fun k => k = c.wb) w3 W3 := by rw [hW3]; exact (Fr.refl _ w3).setB 8 _
  have hb4 := blk_set hb3 8 (.slice X (n + 1) c3)
  rw [← hW3] at hb4
  have hz1 := h0.size; have hz2 := hf.size; have hz3 := hf34.size
  have lb := h.lt 0 c.wb h.own0
  have hfr : Fr (fun k => F 0 k ∨ F 7 k) w W3 := ((h0.none.trans hf fun k _ q => q).mono fun k _ q => .inr q).trans hf34 fun k _ q => .inl (by rw [q]; exact h.own0)
  have h' := h.part2 0 7 hfr
  have hsub : ∀ k, (F 7 k ∨ (w.heap.size ≤ k ∧ k < W3.heap.size)) → F 7 k ∨ w.heap.size ≤ k := fun k q => q.imp id fun q => q.1
  have hs4 : Sl W3 (fun k => F 7 k ∨ (w.heap.size ≤ k ∧ k < W3.heap.size)) 134 2 (.slice X (n + 1) c3) (n + 1) cs := by
    refine (hs.fr hf34 fun k q e => ?_).mono fun k hk q => ?_
    · rcases q with q | q
      · exact h70 (by rw [← e]; exact q)
      · omega
    · rcases q with q | q
      · exact .inl q
      · exact .inr ⟨by omega, hk⟩
  refine WAt.of hS (hfr.mono fun k _ q => by rcases q with q | q; exact ⟨0, q⟩; exact ⟨7, q⟩) (c' := { c with vl := .slice X (n + 1) c3 }) (F' := Go.Proofs.YtcffplgimbbflaaGreat.upd F 7 (fun k => F 7 k ∨ (w.heap.size ≤ k ∧ k < W3.heap.size))) ⟨fam_lt h.lt hfr.size fun k q => by rcases q with q | q; have := h.lt _ _ q; omega; exact q.2, fam_dis h.lt h.dis hsub, h'.own0, h'.own1, fun _ => hb4, fun _ => h'.clk (by decide), fun _ => h'.tab (by decide), fun _ => h'.chs (by decide), fun _ => h'.tim (by decide), fun _ => h'.ctx (by decide), fun _ => (h'.dls (by decide)).mono (by omega), fun _ => ⟨n + 1, cs, hs4, by omega⟩, fun _ => h'.prg (by decide), fun _ => h'.evs (by decide), fun _ => h'.cas (by decide), fun _ => h'.pool (by decide), h'.chn, h'.tml, h'.cxl, h'.pad⟩ rfl (fam_un (fun p k q => ⟨p, q⟩) hsub)
theorem Sl.fr0 {w w' : World} {S : Nat → Prop} {T : TypeId} {sz : Nat} {v : Value} {n : Nat} {cs : List Value} (h : Sl w S T sz v n cs) (hf : Fr Nob w w') : Sl w' S T sz v n cs := h.fr hf fun _ _ q => q
theorem put_same (t : Nat → Int) : putT t (t 1) (regsOf t) = t := by
  funext j
  unfold putT regsOf
  by_cases e1 : j = 1
  · rw [if_pos e1, e1]
  · rw [if_neg e1]
    by_cases e2 : 4 ≤ j ∧ j < 12
    · rw [if_pos e2]; congr 1; omega
    · rw [if_neg e2]
/-- What a run is, where one can run. -/
theorem run_some {P : List (List Ins)} {st s : WS} {n draw : Int} (h : st.run P n draw = some s) (hl : st.line ≠ []) :
    ∃ (i : Nat) (t : Nat → Int) (d : Bool) (pi k : Nat) (p : List Ins), st.line.getD (n % (st.line.length : Int)).toNat 0 = (i : Int) ∧ st.ts[i]? = some (t, d, []) ∧ t 2 = 0 ∧ t 0 = (pi : Int) ∧ P[pi]? = some p ∧ t 1 = (k : Int) ∧ k ≤ p.length ∧ progB p = true ∧
      ((∃ o, doR p k (regsOf t) st.now = (o, 0) ∧ st.alone i o.1 o.2.1 o.2.2.1 o.2.2.2.1 o.2.2.2.2 = some s) ∨
       (doR p k (regsOf t) st.now = noR 7 ∧ ∃ y, p[k]? = some y ∧ mineB y.1.1 = false ∧ regsOk y = true ∧ ∃ s1 o, st.act i y (regsOf t) draw = some (s1, o) ∧
          (match o with | none => s1.park i y = some s | some r => s1.put i ((k : Int) + 1) r = some s))) := by
  unfold WS.run at h
  split at h
  · next e => exact absurd e hl
  · dsimp only at h
    generalize hid : st.line.getD (n % (st.line.length : Int)).toNat 0 = id at h
    split at h
    · cases h
    · next h0 =>
      split at h
      · cases h
      · next t d cs ht =>
        split at h
        · cases h
        · next hg =>
          split at h
          · cases h
          · next p hp =>
            split at h
            · cases h
            · next hb =>
              have g0 : 0 ≤ t 0 := Int.not_lt.1 fun q => hg (.inl q)
              have g2 : t 2 = 0 := Classical.not_not.1 fun q => hg (.inr (.inl q))
              have gc : cs = [] := Classical.not_not.1 fun q => hg (.inr (.inr (.inl q)))
              have g1 : 0 ≤ t 1 := Int.not_lt.1 fun q => hg (.inr (.inr (.inr q)))
              have gp : progB p = true := by cases hq : progB p; exact absurd (.inl hq) hb; rfl
              have gl : t 1 ≤ p.length := Int.not_lt.1 fun q => hb (.inr q)
              subst gc
              have hk : t 1 = ((t 1).toNat : Int) := by omega
              have hpi : t 0 = ((t 0).toNat : Int) := by omega
              have hii : id = (id.toNat : Int) := by omega
              refine ⟨id.toNat, t, d, (t 0).toNat, (t 1).toNat, p, hii, ht, g2, hpi, hp, hk, by omega, gp, ?_⟩
              have hnb : ¬ (progB p = false ∨ t 1 < 0 ∨ (p.length : Int) < t 1) := fun q => by
                rcases q with q | q | q
                · rw [gp] at q; cases q
                · omega
                · omega
              rw [← hk]
              split at h
              · next e =>
                left
                refine ⟨(t 1, regsOf t, false, 0, true), ?_, ?_⟩
                · unfold doR; rw [if_neg hnb, if_pos e]
                · unfold WS.alone WS.put
                  rw [ht]
                  dsimp only
                  rw [if_pos ⟨g2, rfl⟩, put_same]
                  have hset : st.ts.set id.toNat (t, d, []) = st.ts := by
                    have hlt := (List.getElem?_eq_some_iff.1 ht)
                    obtain ⟨hlt, he⟩ := hlt
                    rw [← he, List.set_getElem_self]
                  rw [hset]
                  
                  rw [← hii]
                  exact h
              · next e =>
                split at h
                · cases h
                · next y hy =>
                  split at h
                  · next hm =>
                    left
                    refine ⟨stepR y.1.1 y.1.2.1 y.1.2.2.1 (t 1).toNat (regsOf t) st.now, ?_, ?_⟩
                    · unfold doR; rw [if_neg hnb, if_neg e, hy]; dsimp only; rw [if_neg (by rw [hm]; decide)]
                    · unfold WS.alone
                      rw [← hii]
                      exact h
                  · next hm =>
                    right
                    have hm' : mineB y.1.1 = false := by simpa using hm
                    refine ⟨?_, y, hy, hm', ?_⟩
                    · unfold doR; rw [if_neg hnb, if_neg e, hy]; dsimp only; rw [if_pos hm']
                    · split at h
                      · cases h
                      · next hr =>
                        refine ⟨by simpa using hr, ?_⟩
                        split at h
                        · cases h
                        · next s1 hs1 => exact ⟨s1, none, hs1, h⟩
                        · next s1 r hs1 => exact ⟨s1, some r, hs1, h⟩
theorem clock_new (w : World) : Calls Tryz.prog 20 #[] w fun e w' => ∃ b : Nat, e = .returned (ptV b) ∧ Fr Nob w w' ∧ w.heap.size ≤ b ∧ w'.heap[b]? = some (.cells #[inV 0] 93 (0, 0)) := by
  go_enter Tryz.func20, Tryz.ntmps20
  go_wp2_with fail
  go_ret
  exact ⟨w.heap.size, rfl, (Fr.refl Nob w).alloc _, Nat.le_refl _, heap_alloc_new _ _⟩
theorem clock_advance {w : World} {b : Nat} {now : Int} (h : w.heap[b]? = some (.cells #[inV now] 93 (0, 0))) (d : Int) (hd : 0 ≤ d) : Calls Tryz.prog 50 #[ptV b, inV d] w fun e w' => e = .returned (inV 0) ∧ Fr (fun k => k = b) w w' ∧ w'.heap[b]? = some (.cells #[inV (addT now d)] 93 (0, 0)) := by
  have c0 := blk_cell h 0 rfl
  have f0 := blk_froz h 0
  have H := Lib.hid h
  have Ha := Lib.hid (fun W => clock_add W now d)
  have hd' : ¬ d < 0 := by omega
  clear h
  go_enter Tryz.func50, Tryz.ntmps50
  go_wp2_with fail
  refine (Ha.out _).mono ?_
  rintro e _ ⟨rfl, rfl⟩
  go_wp2_with fail
  go_ret
  exact ⟨rfl, (Fr.refl _ w).setB 0 _, blk_set H.out 0 _⟩
def entryOk (k n d : Int) : Bool := k == 1 || (k == 2 && decide (0 ≤ n) && d == 0)
theorem script_check (w : World) (k n d : Int) : Calls Tryz.prog 27 #[.agg #[inV k, inV n, inV d]] w fun e w' => e = .returned (inV (if entryOk k n d then 0 else 1)) ∧ Fr Nob w w' := by
  by_cases hk1 : k = 1
  · subst hk1
    have e1 : entryOk 1 n d = true := by simp [entryOk]
    rw [e1]
    go_enter Tryz.func27, Tryz.ntmps27
    go_wp2_with fail
    go_ret
    exact ⟨rfl, (Fr.refl Nob w).alloc _⟩
  · have hk1' : (k == 1) = false := by simpa using hk1
    by_cases hk2 : k = 2
    · subst hk2
      by_cases hn : 0 ≤ n
      · by_cases hd : d = 0
        · subst hd
          have e1 : entryOk 2 n 0 = true := by simp [entryOk, hn]
          rw [e1]
          go_enter Tryz.func27, Tryz.ntmps27
          go_wp2_with fail
          go_ret
          exact ⟨rfl, (Fr.refl Nob w).alloc _⟩
        · have hd' : (d == 0) = false := by simpa using hd
          have e1 : entryOk 2 n d = false := by simp [entryOk, hd]
          rw [e1]
          clear hk1 hk1'
          go_enter Tryz.func27, Tryz.ntmps27
          go_wp2_with fail
          go_ret
          exact ⟨rfl, (Fr.refl Nob w).alloc _⟩
      · have e1 : entryOk 2 n d = false := by simp [entryOk, hn]
        rw [e1]
        clear hk1 hk1'
        go_enter Tryz.func27, Tryz.ntmps27
        go_wp2_with fail
        go_ret
        exact ⟨rfl, (Fr.refl Nob w).alloc _⟩
    · have hk2' : (k == 2) = false := by simpa using hk2
      have e1 : entryOk k n d = false := by simp [entryOk, hk1, hk2]
      rw [e1]
      clear e1
      go_enter Tryz.func27, Tryz.ntmps27
      go_wp2_with fail
      go_ret
      exact ⟨rfl, (Fr.refl Nob w).alloc _⟩
theorem cell_same {w w' : World} {b : Nat} (h : w'.heap[b]? = w.heap[b]?) {o : Nat} {v : Value} (hc : w.cell? ⟨b, o, none⟩ = some v) : w'.cell? ⟨b, o, none⟩ = some v := by
  rw [← hc]; unfold World.cell?; rw [h]
theorem Nx.went2 {w w1 : World} {S : Nat → Prop} {wb : Nat} {P : Pg} {st : WS} {nd nm : Nat} (hn : Nx w S wb P st nd nm w1) (ch who v : Int) (got : Bool) (hw : -1 ≤ who) (hnd : nd ≤ 1000000000000) : ∀ W, Fr Nob w1 W → Calls Tryz.prog 77 #[ptV wb, inV ch, inV who, inV v, .bool got] W fun e w' => e = .returned (.tuple #[]) ∧ Nx w S wb P st (nd + 1) nm w' ∧ w'.heap[wb]? = W.heap[wb]? := fun W hW => by
  obtain ⟨S', f, a, s⟩ := hn
  refine (world_went2 (a.fr0 hW) ch who v got hw hnd).mono ?_
  rintro e w' ⟨he, h', hb⟩
  exact ⟨he, Nx.step f s (Nx.from0 hW h'), hb⟩
theorem Nx.tchan {w w1 : World} {S : Nat → Prop} {wb : Nat} {P : Pg} {st : WS} {nd nm : Nat} (hn : Nx w S wb P st nd nm w1) {i : Nat} {k d : Int} {j : Nat} {g : Int} (hi : st.tm[i]? = some (k, d, j, g)) :
    ∃ mb, (∀ W, Fr Nob w1 W → W.cell? ⟨wb, 5, none⟩ = some (ptV mb)) ∧ (∀ W, Fr Nob w1 W → Calls Tryz.prog 79 #[ptV mb, inV (i : Int)] W fun e w' => e = .returned (ptV (P.2 j)) ∧ W = w') ∧ j < st.nch := by
  obtain ⟨S1, f1, ⟨F, c, h, rfl, hS⟩, s1⟩ := hn
  have hj : j < st.nch := h.tml.2 _ (List.mem_of_getElem? hi)
  refine ⟨c.mb, fun W hW => hW.cell id (blk_cell (h.blk id) 5 rfl), fun W hW => ?_, hj⟩
  have q := tim_chan ((h.fr0 hW).tim id) i _ (TmOk.get h.tml hi)
  rw [show ptV (P.2 j) = ptV (c.B j) by rw [h.pad.2.2 j hj]]
  exact q
set_option maxHeartbeats 1000000 in
theorem world_fire {w : World} {S : Nat → Prop} {wb : Nat} {P : Pg} {st : WS} {nd nm : Nat} (h : WAt w S wb P st nd nm) (fid kind when' at' data : Int) (h3 : kind ≠ 3) (h4 : kind ≠ 4) (A : Option Addr) (n cp : Nat) (kept : Bool) (lw : List Wk) (hn : lw.length = n) {i : Nat} (hid : fid = (i : Int)) {k d : Int} {j : Nat} {g : Int} (hi : st.tm[i]? = some (k, d, j, g))
    {T : Nat → Prop} (hsl : Sl w T 225 5 (.slice A n cp) n (wks lw)) (hd : ∀ k, S k → T k → False) (hT : ∀ k, T k → k < w.heap.size) (hev : st.ev.length < 1000) {s : WS} (hs : (st.tell 6 (-1) fid when' 0).wake lw = some s) (hnd : nd + 1 + n ≤ 1000000000000) :
    Calls Tryz.prog 53 #[ptV wb, firedV fid kind when' at' data (.slice A n cp) kept] w fun e w' => e = .returned (.tuple #[]) ∧ Nx w S wb P s (nd + 1 + n) nm w' := by
  have e3 : (kind == 3) = false := by simpa using h3
  have e4 : (kind == 4) = false := by simpa using h4
  have hlt := h.lt
  have Hw := Lib.hid h; have Hsl := Lib.hid hsl; have Hd := Lib.hid hd; have HT := Lib.hid hT; have Hs := Lib.hid hs; have Hlt := Lib.hid hlt; have Hid' := Lib.hid hid; have Hi := Lib.hid hi; have Hn := Lib.hid hn
  clear h hsl hd hT hs hlt hid hi h3 h4 hn
  go_enter Tryz.func53, Tryz.ntmps53
  go_wp2_with fail
  obtain ⟨w1, hw1⟩ : ∃ w1, w1 = w.alloc (.cells #[inV fid, inV kind, inV when', inV at', inV data, .slice A n cp, .bool kept] 126) := ⟨_, rfl⟩
  rw [← hw1]
  obtain ⟨fb, hfb⟩ : ∃ fb, fb = w.heap.size := ⟨_, rfl⟩
  rw [← hfb]
  have hfw1 : Fr Nob w w1 := by rw [hw1]; exact (Fr.refl Nob w).alloc _
  have hbw1 : w1.heap[fb]? = some (.cells #[inV fid, inV kind, inV when', inV at', inV data, .slice A n cp, .bool kept] 126 (0, 0)) := by rw [hw1, hfb]; exact heap_alloc_new _ _
  have hfS : ¬ S fb := fun q => by have := Hlt.out _ q; omega
  have hn0 := Nx.refl (Hw.out.fr0 hfw1)
  have Htl := Lib.hid (hn0.tell 6 (-1) fid when' 0 (by omega))
  have Hfw1 := Lib.hid hfw1; have Hbw1 := Lib.hid hbw1; have Hfb := Lib.hid hfb; have HfS := Lib.hid hfS
  clear hw1 hfw1 hbw1 hfb hfS hn0
  refine (Htl.out _ (Fr.refl _ _)).mono ?_
  rintro e w2 ⟨rfl, hn2⟩
  have hb2 := hn2.blk HfS.out Hbw1.out
  have k1 := blk_cell hb2 1 rfl; have k6 := blk_cell hb2 6 rfl
  have Hn2 := Lib.hid hn2; have Hb2 := Lib.hid hb2
  clear hn2 hb2
  have k5 := blk_cell Hb2.out 5 rfl
  have hdT : ∀ k, S k → T k → False := Hd.out
  cases kept with
  | true =>
    clear k5
    obtain ⟨mb, hmb, hch, hj⟩ := Hn2.out.tchan (i := i) Hi.out
    have Hh := Lib.hid (Hn2.out.chan j hj)
    have Hwt := Lib.hid (Hn2.out.went2 (j : Int) (-1) at' false (by omega) (by omega))
    have key : ∀ W, Fr Nob w2 W → W.cell? ⟨wb, 5, none⟩ = some (ptV mb) ∧ W.cell? ⟨fb, 0, none⟩ = some (inV (i : Int)) ∧ W.cell? ⟨fb, 3, none⟩ = some (inV at') := fun W hW => by
      have q := hW.blk id Hb2.out
      exact ⟨hmb W hW, by rw [← Hid'.out]; exact blk_cell q 0 rfl, blk_cell q 3 rfl⟩
    have Key := Lib.hid key; have Hch := Lib.hid hch
    clear key hch hmb
    go_wp2_with fail
    have hf0 : Fr Nob w2 w2 := Fr.refl _ _
    go_region_held3 (fun W => W.cell? ⟨wb, 5, none⟩ = some (ptV mb) ∧ W.cell? ⟨fb, 0, none⟩ = some (inV (i : Int)) ∧ W.cell? ⟨fb, 3, none⟩ = some (inV at'))
      ((first | with_reducible exact k3.out | exact Key.out _ hf0 | exact Key.out _ hf0.drew))
      ((first | (go_at_call 79; refine (Hch.out w2.drew hf0.drew).mono ?_; rintro e w3 ⟨rfl, rfl⟩) | (go_at_call 78; refine (Hh.out w2.drew hf0.drew).mono ?_; rintro e w3 ⟨rfl, rfl⟩) | (go_at_call 77; refine (Hwt.out w2.drew hf0.drew).mono ?_; rintro e w3 ⟨rfl, hn3, hwb3⟩; have hb3 := hn3.blk HfS.out Hbw1.out; have c5 : w3.cell? ⟨wb, 5, none⟩ = some (ptV mb) := (cell_same hwb3 (Key.out _ hf0.drew).1); have k3 : Hid (w3.cell? ⟨wb, 5, none⟩ = some (ptV mb) ∧ w3.cell? ⟨fb, 0, none⟩ = some (inV (i : Int)) ∧ w3.cell? ⟨fb, 3, none⟩ = some (inV at')) := Lib.hid ⟨c5, (blk_cell hb3 0 rfl).trans (congrArg (fun q => some (inV q)) Hid'.out), blk_cell hb3 3 rfl⟩; have Hn3 := Lib.hid hn3; have Hb3 := Lib.hid hb3; clear hn3 hb3 c5)))
    have Hwk := Lib.hid (Hn3.out.wake lw n Hn.out Hs.out ((Hsl.out.fr0 Hfw1.out)) hdT (fun k q => by have := HT.out k q; have := Hfw1.out.size; omega) (by omega))
    have k5' := blk_cell Hb3.out 5 rfl
    go_wp2_with fail
    refine (Hwk.out).mono ?_
    rintro e w4 ⟨rfl, hn4⟩
    have Hn4 := Lib.hid hn4
    clear hn4
    go_wp2_with fail
    go_end0
    exact ⟨rfl, Nx.from0 Hfw1.out Hn4.out⟩
  | false =>
    have Hwk := Lib.hid (Hn2.out.wake lw n Hn.out Hs.out ((Hsl.out.fr0 Hfw1.out)) hdT (fun k q => by have := HT.out k q; have := Hfw1.out.size; omega) (by omega))
    go_wp2_with fail
    refine (Hwk.out).mono ?_
    rintro e w3 ⟨rfl, hn3⟩
    have Hn3 := Lib.hid hn3
    clear hn3
    go_wp2_with fail
    go_end0
    exact ⟨rfl, (Nx.from0 Hfw1.out Hn3.out).mono (by omega) (by omega)⟩
end Go.Proofs.YtcffplgimbbflaaGreat
