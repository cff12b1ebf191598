/- The closed part of the channels' statements: awake answers true, in whatever memory. -/
import Derived.Test.YtfpcnagimjmkpaaChanShut
set_option linter.unusedVariables false
set_option linter.unusedSimpArgs false
namespace Go.Proofs.Ytfpcnagimjmkpaa
open Go.RowKit
set_option maxRecDepth 100000
theorem chan_close_nil (w : World) : Calls Try.prog 18 #[.pointer none] w fun e w' => e = .returned (.tuple #[.slice none 0 0, .int .i64 6]) ∧ w = w' := by
  go_enter Try.func18, Try.ntmps18
  go_wp2_with fail
  go_ret2
  exact ⟨rfl, rfl⟩
/-- A wake that lies at a place. -/
structure WkAt (w : World) (g o : Nat) (k : Wk) : Prop where
  c0 : w.cell? ⟨g, o, none⟩ = some (.int .i64 k.1)
  c1 : w.cell? ⟨g, o + 1, none⟩ = some (.int .i64 k.2.1)
  c2 : w.cell? ⟨g, o + 2, none⟩ = some (.int .i64 k.2.2.1)
  c3 : w.cell? ⟨g, o + 3, none⟩ = some (.bool k.2.2.2.1)
  c4 : w.cell? ⟨g, o + 4, none⟩ = some (.bool k.2.2.2.2)
theorem WkAt.lt {w : World} {g o : Nat} {k : Wk} (h : WkAt w g o k) : g < w.heap.size := block_lt_of_cell h.c0
theorem WkAt.fr {w w' : World} {g o : Nat} {k : Wk} (h : WkAt w g o k) {F : Nat → Prop} (hf : Fr F w w') (hd : ¬ F g) : WkAt w' g o k :=
  ⟨hf.cell (p := ⟨g, o, none⟩) hd h.c0, hf.cell (p := ⟨g, o + 1, none⟩) hd h.c1, hf.cell (p := ⟨g, o + 2, none⟩) hd h.c2, hf.cell (p := ⟨g, o + 3, none⟩) hd h.c3, hf.cell (p := ⟨g, o + 4, none⟩) hd h.c4⟩
theorem sl_one {w : World} {B : Nat} {S : Nat → Prop} {A : Option Addr} {cp : Nat} {k : Wk} (h : Sl w (Off B S) 36 5 (.slice A 1 cp) 1 (wks [k])) : ∃ g o, A = some ⟨g, o, none⟩ ∧ 1 ≤ cp ∧ B ≤ g ∧ ¬ S g ∧ g < w.heap.size ∧ WkAt w g o k := by
  obtain ⟨g, o, cap, hv, hS, hg, h1, h2, hc, _⟩ := h.form (by omega)
  cases hv
  exact ⟨g, o, rfl, h1, hS.1, hS.2, hg, hc 0 _ rfl, hc 1 _ rfl, hc 2 _ rfl, hc 3 _ rfl, hc 4 _ rfl⟩
set_option maxHeartbeats 8000000 in
theorem awake9 (w : World) : Calls Try.prog 11 #[] w fun e w' => e = .returned (.bool true) ∧ Fr Nob w w' := by
  have C1 := Lib.hid (fun W => chan_new W 1 (by omega)); have C2 := Lib.hid (fun W => chan_new_bad W 65 (.inr (by omega))); have C3 := Lib.hid (fun W => chan_timed W); have C4 := Lib.hid (fun W => chan_signal W); have C5 := Lib.hid (fun W => chan_close_nil W)
  go_enter Try.func11, Try.ntmps11
  go_wp2_with fail
  refine (C1.out _).mono ?_
  rintro e w1 ⟨bc, Sc, rfl, hf, hc, hS⟩
  have HF := Lib.hid hf; have Hc := Lib.hid hc; have Gc := Lib.hid hS
  clear hf hc hS
  go_wp2_with fail
  refine (C2.out _).mono ?_
  rintro e _ ⟨rfl, rfl⟩
  go_wp2_with fail
  refine (C3.out _).mono ?_
  rintro e w2 ⟨bt, St, rfl, hf, ht, hS⟩
  have LT1 := Lib.hid Hc.out.lt
  have Ht := Lib.hid ht
  replace Hc := Lib.hid (Hc.out.fr0 hf)
  have Dct := Lib.hid (fun k (a : Sc k) (b : St k) => (by have := hS k b; have := LT1.out k a; omega : False))
  have HFa := HF
  replace HF := Lib.hid (HF.out.trans0 hf)
  have Gt := Lib.hid (fun k (q : St k) => Nat.le_trans HFa.out.size (hS k q))
  clear hf ht hS HFa LT1
  go_wp2_with fail
  refine (C4.out _).mono ?_
  rintro e w3 ⟨bs, Ss, rfl, hf, hs, hS⟩
  have LT1 := Lib.hid Hc.out.lt; have LT2 := Lib.hid Ht.out.lt
  have Hs := Lib.hid hs
  replace Hc := Lib.hid (Hc.out.fr0 hf); replace Ht := Lib.hid (Ht.out.fr0 hf)
  have Dcs := Lib.hid (fun k (a : Sc k) (b : Ss k) => (by have := hS k b; have := LT1.out k a; omega : False))
  have Dts := Lib.hid (fun k (a : St k) (b : Ss k) => (by have := hS k b; have := LT2.out k a; omega : False))
  have Gs := Lib.hid (fun k (q : Ss k) => Nat.le_trans HF.out.size (hS k q))
  replace HF := Lib.hid (HF.out.trans0 hf)
  clear hf hs hS LT1 LT2
  go_wp2_with fail
  refine (chan_send Hc.out 1 true [] 0 0 (c' := (⟨1, [1], [], [], false, false, false⟩ : ChS)) rfl rfl rfl).mono ?_
  rintro e w4 ⟨_, _, rfl, hf, hc, _⟩
  replace Hc := Lib.hid hc
  replace Ht := Lib.hid (Ht.out.fr hf (fun k a b => Dct.out k b a))
  replace Hs := Lib.hid (Hs.out.fr hf (fun k a b => Dcs.out k b a))
  replace HF := Lib.hid (HF.out.trans hf (fun k hk q => by have := Gc.out k q; omega))
  clear hf hc
  go_wp2_with fail
  refine (chan_send Hc.out 2 false [] 0 0 (c' := (⟨1, [1], [], [], false, false, false⟩ : ChS)) rfl rfl rfl).mono ?_
  rintro e w5 ⟨_, _, rfl, hf, hc, _⟩
  replace Hc := Lib.hid hc
  replace Ht := Lib.hid (Ht.out.fr hf (fun k a b => Dct.out k b a))
  replace Hs := Lib.hid (Hs.out.fr hf (fun k a b => Dcs.out k b a))
  replace HF := Lib.hid (HF.out.trans hf (fun k hk q => by have := Gc.out k q; omega))
  clear hf hc
  go_wp2_with fail
  refine (chan_wait Hc.out (4, 1, 2) true 0 (c' := (⟨1, [1], [], [(4, 1, 2)], false, false, false⟩ : ChS)) rfl rfl ⟨by decide, by decide⟩).mono ?_
  rintro e w6 ⟨Sc', rfl, hf, hc, hsub⟩
  have Dct' := Lib.hid (fun k (a : Sc' k) (b : St k) => (by rcases hsub k a with q | q; exact Dct.out k q b; have := Ht.out.lt k b; omega : False))
  have Dcs' := Lib.hid (fun k (a : Sc' k) (b : Ss k) => (by rcases hsub k a with q | q; exact Dcs.out k q b; have := Hs.out.lt k b; omega : False))
  have Gc' := Lib.hid (fun k (q : Sc' k) => (by rcases hsub k q with q | q; exact Gc.out k q; exact Nat.le_trans HF.out.size q : w.heap.size ≤ k))
  replace Ht := Lib.hid (Ht.out.fr hf (fun k a b => Dct.out k b a))
  replace Hs := Lib.hid (Hs.out.fr hf (fun k a b => Dcs.out k b a))
  replace HF := Lib.hid (HF.out.trans hf (fun k hk q => by have := Gc.out k q; omega))
  replace Hc := Lib.hid hc
  clear hf hc hsub
  replace Dct := Dct'
  clear Dct'
  replace Dcs := Dcs'
  clear Dcs'
  replace Gc := Gc'
  clear Gc'
  obtain ⟨Sc, hSeq⟩ : ∃ S, S = Sc' := ⟨_, rfl⟩
  subst hSeq
  go_wp2_with fail
  refine (chan_recv Hc.out 1 true true [(4, 1, 0, true, false)] 1 (c' := (⟨1, [2], [], [], false, false, false⟩ : ChS)) rfl rfl rfl).mono ?_
  rintro e w7 ⟨Aa, cpa, rfl, hf, hc, hs⟩
  obtain ⟨ga, oa, rfl, hcpa, hB, hN, hG, hK⟩ := sl_one hs
  have NNat := Lib.hid (fun q : St ga => (by have := Ht.out.lt _ q; omega : False))
  have NNas := Lib.hid (fun q : Ss ga => (by have := Hs.out.lt _ q; omega : False))
  have NNac := Lib.hid hN; have Ka := Lib.hid hK
  replace Hc := Lib.hid hc
  replace Ht := Lib.hid (Ht.out.fr hf (fun k a b => Dct.out k b a))
  replace Hs := Lib.hid (Hs.out.fr hf (fun k a b => Dcs.out k b a))
  replace HF := Lib.hid (HF.out.trans hf (fun k hk q => by have := Gc.out k q; omega))
  clear hf hc hs hB hN hG hK
  go_wp2_with fail
  refine (chan_close Hc.out [] 0 0 (c' := (⟨1, [2], [], [], false, false, true⟩ : ChS)) rfl rfl rfl).mono ?_
  rintro e w8 ⟨_, _, rfl, hf, hc, _⟩
  replace Hc := Lib.hid hc
  replace Ht := Lib.hid (Ht.out.fr hf (fun k a b => Dct.out k b a))
  replace Hs := Lib.hid (Hs.out.fr hf (fun k a b => Dcs.out k b a))
  replace Ka := Lib.hid (Ka.out.fr hf (NNac.out))
  replace HF := Lib.hid (HF.out.trans hf (fun k hk q => by have := Gc.out k q; omega))
  clear hf hc
  go_wp2_with fail
  refine (chan_send Hc.out 3 false [] 0 5 (c' := (⟨1, [2], [], [], false, false, true⟩ : ChS)) rfl rfl rfl).mono ?_
  rintro e w9 ⟨_, _, rfl, hf, hc, _⟩
  replace Hc := Lib.hid hc
  replace Ht := Lib.hid (Ht.out.fr hf (fun k a b => Dct.out k b a))
  replace Hs := Lib.hid (Hs.out.fr hf (fun k a b => Dcs.out k b a))
  replace Ka := Lib.hid (Ka.out.fr hf (NNac.out))
  replace HF := Lib.hid (HF.out.trans hf (fun k hk q => by have := Gc.out k q; omega))
  clear hf hc
  go_wp2_with fail
  refine (chan_recv Hc.out 2 true true [] 0 (c' := (⟨1, [], [], [], false, false, true⟩ : ChS)) rfl rfl rfl).mono ?_
  rintro e w10 ⟨_, _, rfl, hf, hc, _⟩
  replace Hc := Lib.hid hc
  replace Ht := Lib.hid (Ht.out.fr hf (fun k a b => Dct.out k b a))
  replace Hs := Lib.hid (Hs.out.fr hf (fun k a b => Dcs.out k b a))
  replace Ka := Lib.hid (Ka.out.fr hf (NNac.out))
  replace HF := Lib.hid (HF.out.trans hf (fun k hk q => by have := Gc.out k q; omega))
  clear hf hc
  go_wp2_with fail
  refine (chan_recv Hc.out 0 false true [] 0 (c' := (⟨1, [], [], [], false, false, true⟩ : ChS)) rfl rfl rfl).mono ?_
  rintro e w11 ⟨_, _, rfl, hf, hc, _⟩
  replace Hc := Lib.hid hc
  replace Ht := Lib.hid (Ht.out.fr hf (fun k a b => Dct.out k b a))
  replace Hs := Lib.hid (Hs.out.fr hf (fun k a b => Dcs.out k b a))
  replace Ka := Lib.hid (Ka.out.fr hf (NNac.out))
  replace HF := Lib.hid (HF.out.trans hf (fun k hk q => by have := Gc.out k q; omega))
  clear hf hc
  go_wp2_with fail
  refine (chan_put Ht.out 9 [] 0 true (c' := (⟨1, [9], [], [], true, false, false⟩ : ChS)) rfl rfl rfl).mono ?_
  rintro e w12 ⟨_, _, rfl, hf, hc, _⟩
  replace Ht := Lib.hid hc
  replace Hc := Lib.hid (Hc.out.fr hf (fun k a b => Dct.out k a b))
  replace Hs := Lib.hid (Hs.out.fr hf (fun k a b => Dts.out k b a))
  replace Ka := Lib.hid (Ka.out.fr hf (NNat.out))
  replace HF := Lib.hid (HF.out.trans hf (fun k hk q => by have := Gt.out k q; omega))
  clear hf hc
  go_wp2_with fail
  refine (chan_put Ht.out 10 [] 0 false (c' := (⟨1, [9], [], [], true, false, false⟩ : ChS)) rfl rfl rfl).mono ?_
  rintro e w13 ⟨_, _, rfl, hf, hc, _⟩
  replace Ht := Lib.hid hc
  replace Hc := Lib.hid (Hc.out.fr hf (fun k a b => Dct.out k a b))
  replace Hs := Lib.hid (Hs.out.fr hf (fun k a b => Dts.out k b a))
  replace Ka := Lib.hid (Ka.out.fr hf (NNat.out))
  replace HF := Lib.hid (HF.out.trans hf (fun k hk q => by have := Gt.out k q; omega))
  clear hf hc
  go_wp2_with fail
  refine (chan_send Ht.out 1 false [] 0 7 (c' := (⟨1, [9], [], [], true, false, false⟩ : ChS)) rfl rfl rfl).mono ?_
  rintro e w14 ⟨_, _, rfl, hf, hc, _⟩
  replace Ht := Lib.hid hc
  replace Hc := Lib.hid (Hc.out.fr hf (fun k a b => Dct.out k a b))
  replace Hs := Lib.hid (Hs.out.fr hf (fun k a b => Dts.out k b a))
  replace Ka := Lib.hid (Ka.out.fr hf (NNat.out))
  replace HF := Lib.hid (HF.out.trans hf (fun k hk q => by have := Gt.out k q; omega))
  clear hf hc
  go_wp2_with fail
  refine (chan_wait Hs.out (6, 0, 0) false 0 (c' := (⟨0, [], [(6, 0, 0)], [], false, true, false⟩ : ChS)) rfl rfl ⟨by decide, by decide⟩).mono ?_
  rintro e w15 ⟨Ss', rfl, hf, hc, hsub⟩
  have Dcs' := Lib.hid (fun k (a : Sc k) (b : Ss' k) => (by rcases hsub k b with q | q; exact Dcs.out k a q; have := Hc.out.lt k a; omega : False))
  have Dts' := Lib.hid (fun k (a : St k) (b : Ss' k) => (by rcases hsub k b with q | q; exact Dts.out k a q; have := Ht.out.lt k a; omega : False))
  have NNas' := Lib.hid (fun q : Ss' ga => (by rcases hsub _ q with q | q; exact NNas.out q; have := Ka.out.lt; omega : False))
  have Gs' := Lib.hid (fun k (q : Ss' k) => (by rcases hsub k q with q | q; exact Gs.out k q; exact Nat.le_trans HF.out.size q : w.heap.size ≤ k))
  replace Hc := Lib.hid (Hc.out.fr hf (fun k a b => Dcs.out k a b))
  replace Ht := Lib.hid (Ht.out.fr hf (fun k a b => Dts.out k a b))
  replace Ka := Lib.hid (Ka.out.fr hf (NNas.out))
  replace HF := Lib.hid (HF.out.trans hf (fun k hk q => by have := Gs.out k q; omega))
  replace Hs := Lib.hid hc
  clear hf hc hsub
  replace Dcs := Dcs'
  clear Dcs'
  replace Dts := Dts'
  clear Dts'
  replace NNas := NNas'
  clear NNas'
  replace Gs := Gs'
  clear Gs'
  obtain ⟨Ss, hSeq⟩ : ∃ S, S = Ss' := ⟨_, rfl⟩
  subst hSeq
  go_wp2_with fail
  refine (chan_over Hs.out [(6, 0, 0, false, false)] 1 (c' := (⟨0, [], [], [], false, true, true⟩ : ChS)) rfl rfl rfl).mono ?_
  rintro e w16 ⟨Ab, cpb, rfl, hf, hc, hs⟩
  obtain ⟨gb, ob, rfl, hcpb, hB, hN, hG, hK⟩ := sl_one hs
  have NNbc := Lib.hid (fun q : Sc gb => (by have := Hc.out.lt _ q; omega : False))
  have NNbt := Lib.hid (fun q : St gb => (by have := Ht.out.lt _ q; omega : False))
  have NNbs := Lib.hid hN; have Kb := Lib.hid hK
  replace Hs := Lib.hid hc
  replace Hc := Lib.hid (Hc.out.fr hf (fun k a b => Dcs.out k a b))
  replace Ht := Lib.hid (Ht.out.fr hf (fun k a b => Dts.out k a b))
  replace Ka := Lib.hid (Ka.out.fr hf (NNas.out))
  replace HF := Lib.hid (HF.out.trans hf (fun k hk q => by have := Gs.out k q; omega))
  clear hf hc hs hB hN hG hK
  go_wp2_with fail
  refine (chan_close Hs.out [] 0 7 (c' := (⟨0, [], [], [], false, true, true⟩ : ChS)) rfl rfl rfl).mono ?_
  rintro e w17 ⟨_, _, rfl, hf, hc, _⟩
  replace Hs := Lib.hid hc
  replace Hc := Lib.hid (Hc.out.fr hf (fun k a b => Dcs.out k a b))
  replace Ht := Lib.hid (Ht.out.fr hf (fun k a b => Dts.out k a b))
  replace Ka := Lib.hid (Ka.out.fr hf (NNas.out))
  replace Kb := Lib.hid (Kb.out.fr hf (NNbs.out))
  replace HF := Lib.hid (HF.out.trans hf (fun k hk q => by have := Gs.out k q; omega))
  clear hf hc
  go_wp2_with fail
  refine (C5.out _).mono ?_
  rintro e _ ⟨rfl, rfl⟩
  have Ka0 := Ka
  obtain ⟨a0, a1, a2, a3, a4⟩ := Ka0.out
  clear Ka0
  go_wp2_with fail
  refine (chan_len w17 St bt _ Ht.out 0 rfl).mono ?_
  rintro e _ ⟨rfl, rfl⟩
  go_wp2_with fail
  refine (chan_drop Ht.out true (c' := (⟨1, [], [], [], true, false, false⟩ : ChS)) rfl rfl).mono ?_
  rintro e w18 ⟨rfl, hf, hc⟩
  replace Ht := Lib.hid hc
  replace Hc := Lib.hid (Hc.out.fr hf (fun k a b => Dct.out k a b))
  replace Hs := Lib.hid (Hs.out.fr hf (fun k a b => Dts.out k b a))
  replace Ka := Lib.hid (Ka.out.fr hf (NNat.out))
  replace Kb := Lib.hid (Kb.out.fr hf (NNbt.out))
  replace HF := Lib.hid (HF.out.trans hf (fun k hk q => by have := Gt.out k q; omega))
  clear hf hc
  go_wp2_with fail
  refine (chan_drop Ht.out false (c' := (⟨1, [], [], [], true, false, false⟩ : ChS)) rfl rfl).mono ?_
  rintro e w19 ⟨rfl, hf, hc⟩
  replace Ht := Lib.hid hc
  replace Hc := Lib.hid (Hc.out.fr hf (fun k a b => Dct.out k a b))
  replace Hs := Lib.hid (Hs.out.fr hf (fun k a b => Dts.out k b a))
  replace Ka := Lib.hid (Ka.out.fr hf (NNat.out))
  replace Kb := Lib.hid (Kb.out.fr hf (NNbt.out))
  replace HF := Lib.hid (HF.out.trans hf (fun k hk q => by have := Gt.out k q; omega))
  clear hf hc
  have Kb0 := Kb
  obtain ⟨b0, b1, b2, b3, b4⟩ := Kb0.out
  clear Kb0
  go_wp2_with fail
  refine (chan_closed _ Ss bs _ Hs.out true rfl).mono ?_
  rintro e _ ⟨rfl, rfl⟩
  go_wp2_with fail
  go_ret
  exact ⟨rfl, HF.out⟩
end Go.Proofs.Ytfpcnagimjmkpaa
