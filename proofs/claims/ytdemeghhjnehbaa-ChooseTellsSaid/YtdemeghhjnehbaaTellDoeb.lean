/- What does of the channels' statements does: an act on both. -/
import Derived.Test.YtdemeghhjnehbaaChanNil
set_option linter.unusedVariables false
set_option linter.unusedSimpArgs false
namespace Go.Proofs.Ytdemeghhjnehbaa
open Go.RowKit
set_option maxRecDepth 100000
/-- A channel and the document's own, beside each other. -/
def Both (w0 w : World) (b m : Nat) (c : ChS) : Prop := ∃ S T : Nat → Prop, ChanAt w S b c ∧ RefAt w T m c ∧ (∀ k, S k → w0.heap.size ≤ k) ∧ (∀ k, T k → w0.heap.size ≤ k) ∧ (∀ k, S k → T k → False) ∧ Fr Nob w0 w
theorem Both.fr0 {w0 w w' : World} {b m : Nat} {c : ChS} (h : Both w0 w b m c) (hf : Fr Nob w w') : Both w0 w' b m c := by
  obtain ⟨S, T, h1, h2, h3, h4, h5, h6⟩ := h
  exact ⟨S, T, h1.fr0 hf, h2.fr0 hf, h3, h4, h5, h6.trans0 hf⟩
theorem Both.fr {w0 w : World} {b m : Nat} {c : ChS} (h : Both w0 w b m c) : Fr Nob w0 w := by
  obtain ⟨S, T, h1, h2, h3, h4, h5, h6⟩ := h; exact h6
structure Half (w0 w1 : World) (S' T : Nat → Prop) (b m : Nat) (c c' : ChS) : Prop where
  ch : ChanAt w1 S' b c'
  rf : RefAt w1 T m c
  s0 : ∀ k, S' k → w0.heap.size ≤ k
  t0 : ∀ k, T k → w0.heap.size ≤ k
  dis : ∀ k, S' k → T k → False
  fr : Fr Nob w0 w1
theorem half1 {w0 w w1 : World} {S S' T : Nat → Prop} {b m : Nat} {c c' : ChS} (hT : RefAt w T m c) (hS0 : ∀ k, S k → w0.heap.size ≤ k) (hT0 : ∀ k, T k → w0.heap.size ≤ k) (hd : ∀ k, S k → T k → False) (h0 : Fr Nob w0 w) (hf : Fr S w w1) (hc : ChanAt w1 S' b c') (hS' : ∀ k, S' k → S k ∨ w.heap.size ≤ k) : Half w0 w1 S' T b m c c' :=
  ⟨hc, hT.fr hf fun k q r => hd k r q, fun k q => by rcases hS' k q with r | r; exact hS0 k r; have := h0.size; omega, hT0, fun k q r => by rcases hS' k q with s | s; exact hd k s r; have := hT.lt k r; omega, h0.trans hf fun k hk q => by have := hS0 k q; omega⟩
theorem Half.frN {w0 w1 w2 : World} {S' T : Nat → Prop} {b m : Nat} {c c' : ChS} (h : Half w0 w1 S' T b m c c') (hf : Fr Nob w1 w2) : Half w0 w2 S' T b m c c' :=
  ⟨h.ch.fr0 hf, h.rf.fr0 hf, h.s0, h.t0, h.dis, h.fr.trans0 hf⟩
theorem half2 {w0 w1 w2 : World} {S T : Nat → Prop} {b m : Nat} {c c' : ChS} (h : Half w0 w1 S T b m c c') (ht : RfTo w1 T m c' w2) : Both w0 w2 b m c' := by
  obtain ⟨hf, T', hr, hsub⟩ := ht
  refine ⟨S, T', h.ch.fr hf fun k q r => h.dis k q r, hr, h.s0, fun k q => ?_, fun k q r => ?_, h.fr.trans hf fun k hk q => by have := h.t0 k q; omega⟩
  · rcases hsub k q with s | s
    · exact h.t0 k s
    · have := h.fr.size; omega
  · rcases hsub k r with s | s
    · exact h.dis k q s
    · have := h.ch.lt k q; omega
/-- What an act leaves: the two, and queues that are longer by one at most. -/
def Done (w0 : World) (b m : Nat) (c : ChS) (e : Ending) (w' : World) : Prop := e = .returned (.bool true) ∧ ∃ c' : ChS, Both w0 w' b m c' ∧ c'.rv.length ≤ c.rv.length + 1 ∧ c'.sd.length ≤ c.sd.length + 1
theorem sendS_le (c : ChS) (v : Int) : (c.sendS v).rv.length ≤ c.rv.length + 1 ∧ (c.sendS v).sd.length ≤ c.sd.length + 1 := by
  unfold ChS.sendS; split
  · simp
  · split
    · simp
    · cases hr : c.rv with
      | nil => dsimp only; split <;> simp [hr]
      | cons x l => simp; omega
theorem putS_le (c : ChS) (v : Int) : (c.putS v).rv.length ≤ c.rv.length + 1 ∧ (c.putS v).sd.length ≤ c.sd.length + 1 := by
  unfold ChS.putS; split
  · simp
  · cases hr : c.rv with
    | nil => dsimp only; split <;> simp [hr]
    | cons x l => simp; omega
theorem recvS_le (c : ChS) : c.recvS.rv.length ≤ c.rv.length + 1 ∧ c.recvS.sd.length ≤ c.sd.length + 1 := by
  unfold ChS.recvS; cases hq : c.q <;> cases hs : c.sd <;> simp [hs] <;> omega
theorem closeS_le (c : ChS) : c.closeS.rv.length ≤ c.rv.length + 1 ∧ c.closeS.sd.length ≤ c.sd.length + 1 := by
  unfold ChS.closeS ChS.shut; split
  · simp
  · split <;> simp
theorem endS_le (c : ChS) : c.endS.rv.length ≤ c.rv.length + 1 ∧ c.endS.sd.length ≤ c.sd.length + 1 := by
  unfold ChS.endS ChS.shut; split <;> simp
theorem dropS_le (c : ChS) : c.dropS.rv.length ≤ c.rv.length + 1 ∧ c.dropS.sd.length ≤ c.sd.length + 1 := by
  unfold ChS.dropS; split <;> simp
theorem removeS_le (c : ChS) (t : Int) : (c.removeS t).rv.length ≤ c.rv.length + 1 ∧ (c.removeS t).sd.length ≤ c.sd.length + 1 := by
  unfold ChS.removeS; have := notT_le c.rv t; have := notT_le c.sd t; exact ⟨by show (notT c.rv t).length ≤ _; omega, by show (notT c.sd t).length ≤ _; omega⟩
theorem waitS_le (c : ChS) (x : Wt) (s : Bool) : (c.waitS x s).rv.length ≤ c.rv.length + 1 ∧ (c.waitS x s).sd.length ≤ c.sd.length + 1 := by
  unfold ChS.waitS; split
  · split <;> simp
  · simp
set_option maxHeartbeats 2000000 in
theorem does_1 {w0 w : World} {b m : Nat} {c : ChS} (h : Both w0 w b m c) (hfew : c.Few) (v : Int) (y0 y1 y2 : Int) (s : Bool) :
    Calls Try.prog 20 #[.pointer (some ⟨b, 0, none⟩), .pointer (some ⟨m, 0, none⟩), .agg #[.int .i64 1, .int .i64 v, .int .i64 y0, .int .i64 y1, .int .i64 y2, .bool s]] w (Done w0 b m c) := by
  obtain ⟨S, T, hc, hr, hS0, hT0, hd, hf0⟩ := h
  have Hc := Lib.hid hc; have Hr := Lib.hid hr; have HS0 := Lib.hid hS0; have HT0 := Lib.hid hT0; have Hd := Lib.hid hd; have Hf0 := Lib.hid hf0; have Hfew := Lib.hid hfew
  clear hc hr hS0 hT0 hd hf0 hfew
  obtain ⟨d, l, er, hre⟩ : ∃ d l er, c.sendR v = (d, l, er) := ⟨_, _, _, rfl⟩
  obtain ⟨n, hn⟩ : ∃ n, l.length = n := ⟨_, rfl⟩
  have Hre := Lib.hid hre; have Hn := Lib.hid hn
  clear hre hn
  go_enter Try.func20, Try.ntmps20
  go_wp2_with fail
  obtain ⟨w1, hw1⟩ : ∃ w1, w1 = w.alloc (.cells #[.int .i64 1, .int .i64 v, .int .i64 y0, .int .i64 y1, .int .i64 y2, .bool s] 65) := ⟨_, rfl⟩
  rw [← hw1]
  obtain ⟨pb, hpb⟩ : ∃ pb, pb = w.heap.size := ⟨_, rfl⟩
  try rw [← hpb]
  have hf1 : Fr Nob w w1 := by rw [hw1]; exact (Fr.refl Nob w).alloc _
  have hp1 : w1.heap[pb]? = some (.cells #[.int .i64 1, .int .i64 v, .int .i64 y0, .int .i64 y1, .int .i64 y2, .bool s] 65 (0, 0)) := by rw [hw1, hpb]; exact heap_alloc_new _ _
  have hns : ¬ S pb := fun q => by have := Hc.out.lt _ q; omega
  have hnt : ¬ T pb := fun q => by have := Hr.out.lt _ q; omega
  have HC := Lib.hid (Hc.out.fr0 hf1); have HR := Lib.hid (Hr.out.fr0 hf1); have HF := Lib.hid (Hf0.out.trans0 hf1)
  have Hp1 := Lib.hid hp1
  have hlt : pb < w1.heap.size := lt_of_block hp1
  clear hw1 hpb hf1 hp1 Hc Hr Hf0
  refine (chan_send HC.out v d l n er Hre.out rfl Hn.out).mono ?_
  rintro e w2 ⟨A, cp, rfl, hf2, hc2, hs2⟩
  have Hh := Lib.hid (half1 HR.out HS0.out HT0.out Hd.out HF.out hf2 hc2 (fun k q => .inl q))
  have Hs2 := Lib.hid hs2
  have p1 := blk_cell (hf2.blk hns Hp1.out) 1 rfl
  clear hf2 hc2 hs2
  go_wp2_with fail
  refine (ref_send Hh.out.rf Hfew.out v d l n er Hre.out rfl Hn.out).mono ?_
  rintro e w3 ⟨A', cp', rfl, ht3, hr3⟩
  have Hr3 := Lib.hid hr3; have Hs3 := Lib.hid (Hs2.out.fr ht3.1 fun k q r => by have := HR.out.lt k r; have := q.1; omega)
  have HB := Lib.hid (half2 Hh.out ht3)
  clear ht3 hr3 p1 Hs2 Hh
  have hdd : (d == d) = true := by simp
  have hee : (er == er) = true := by simp
  go_wp2_with fail
  refine (alike_wakes w3 _ _ l n Hn.out Hs3.out.rd Hr3.out).mono ?_
  rintro e w4 ⟨rfl, hq4⟩
  have HB4 := Lib.hid (HB.out.fr0 (Fr.ofDrew hq4))
  clear hq4 HB Hs3 Hr3
  go_wp2_with fail
  go_ret
  exact ⟨rfl, _, HB4.out, sendS_le c v⟩
set_option maxHeartbeats 2000000 in
theorem does_2 {w0 w : World} {b m : Nat} {c : ChS} (h : Both w0 w b m c) (hfew : c.Few) (v : Int) (y0 y1 y2 : Int) (s : Bool) :
    Calls Try.prog 20 #[.pointer (some ⟨b, 0, none⟩), .pointer (some ⟨m, 0, none⟩), .agg #[.int .i64 2, .int .i64 v, .int .i64 y0, .int .i64 y1, .int .i64 y2, .bool s]] w (Done w0 b m c) := by
  obtain ⟨S, T, hc, hr, hS0, hT0, hd, hf0⟩ := h
  have Hc := Lib.hid hc; have Hr := Lib.hid hr; have HS0 := Lib.hid hS0; have HT0 := Lib.hid hT0; have Hd := Lib.hid hd; have Hf0 := Lib.hid hf0; have Hfew := Lib.hid hfew
  clear hc hr hS0 hT0 hd hf0 hfew
  obtain ⟨x, ok, d, l, hre⟩ : ∃ x ok d l, c.recvR = (x, ok, d, l) := ⟨_, _, _, _, rfl⟩
  obtain ⟨n, hn⟩ : ∃ n, l.length = n := ⟨_, rfl⟩
  have Hre := Lib.hid hre; have Hn := Lib.hid hn
  clear hre hn
  go_enter Try.func20, Try.ntmps20
  go_wp2_with fail
  obtain ⟨w1, hw1⟩ : ∃ w1, w1 = w.alloc (.cells #[.int .i64 2, .int .i64 v, .int .i64 y0, .int .i64 y1, .int .i64 y2, .bool s] 65) := ⟨_, rfl⟩
  rw [← hw1]
  obtain ⟨pb, hpb⟩ : ∃ pb, pb = w.heap.size := ⟨_, rfl⟩
  try rw [← hpb]
  have hf1 : Fr Nob w w1 := by rw [hw1]; exact (Fr.refl Nob w).alloc _
  have hp1 : w1.heap[pb]? = some (.cells #[.int .i64 2, .int .i64 v, .int .i64 y0, .int .i64 y1, .int .i64 y2, .bool s] 65 (0, 0)) := by rw [hw1, hpb]; exact heap_alloc_new _ _
  have hns : ¬ S pb := fun q => by have := Hc.out.lt _ q; omega
  have hnt : ¬ T pb := fun q => by have := Hr.out.lt _ q; omega
  have HC := Lib.hid (Hc.out.fr0 hf1); have HR := Lib.hid (Hr.out.fr0 hf1); have HF := Lib.hid (Hf0.out.trans0 hf1)
  have Hp1 := Lib.hid hp1
  have hlt : pb < w1.heap.size := lt_of_block hp1
  clear hw1 hpb hf1 hp1 Hc Hr Hf0
  refine (chan_recv HC.out x ok d l n Hre.out rfl Hn.out).mono ?_
  rintro e w2 ⟨A, cp, rfl, hf2, hc2, hs2⟩
  have Hh := Lib.hid (half1 HR.out HS0.out HT0.out Hd.out HF.out hf2 hc2 (fun k q => .inl q))
  have Hs2 := Lib.hid hs2
  clear hf2 hc2 hs2
  go_wp2_with fail
  refine (ref_recv Hh.out.rf Hfew.out x ok d l n Hre.out rfl Hn.out).mono ?_
  rintro e w3 ⟨A', cp', rfl, ht3, hr3⟩
  have Hr3 := Lib.hid hr3; have Hs3 := Lib.hid (Hs2.out.fr ht3.1 fun k q r => by have := HR.out.lt k r; have := q.1; omega)
  have HB := Lib.hid (half2 Hh.out ht3)
  clear ht3 hr3 Hs2 Hh
  have hxx : (x == x) = true := by simp
  have hdd : (d == d) = true := by simp
  have hee : (ok == ok) = true := by simp
  go_wp2_with fail
  refine (alike_wakes w3 _ _ l n Hn.out Hs3.out.rd Hr3.out).mono ?_
  rintro e w4 ⟨rfl, hq4⟩
  have HB4 := Lib.hid (HB.out.fr0 (Fr.ofDrew hq4))
  clear hq4 HB Hs3 Hr3
  go_wp2_with fail
  go_ret
  exact ⟨rfl, _, HB4.out, recvS_le c⟩
set_option maxHeartbeats 2000000 in
theorem does_3 {w0 w : World} {b m : Nat} {c : ChS} (h : Both w0 w b m c) (hfew : c.Few) (v : Int) (y0 y1 y2 : Int) (s : Bool) :
    Calls Try.prog 20 #[.pointer (some ⟨b, 0, none⟩), .pointer (some ⟨m, 0, none⟩), .agg #[.int .i64 3, .int .i64 v, .int .i64 y0, .int .i64 y1, .int .i64 y2, .bool s]] w (Done w0 b m c) := by
  obtain ⟨S, T, hc, hr, hS0, hT0, hd, hf0⟩ := h
  have Hc := Lib.hid hc; have Hr := Lib.hid hr; have HS0 := Lib.hid hS0; have HT0 := Lib.hid hT0; have Hd := Lib.hid hd; have Hf0 := Lib.hid hf0; have Hfew := Lib.hid hfew
  clear hc hr hS0 hT0 hd hf0 hfew
  obtain ⟨l, er, hre⟩ : ∃ l er, c.closeR = (l, er) := ⟨_, _, rfl⟩
  obtain ⟨n, hn⟩ : ∃ n, l.length = n := ⟨_, rfl⟩
  have Hre := Lib.hid hre; have Hn := Lib.hid hn
  clear hre hn
  go_enter Try.func20, Try.ntmps20
  go_wp2_with fail
  obtain ⟨w1, hw1⟩ : ∃ w1, w1 = w.alloc (.cells #[.int .i64 3, .int .i64 v, .int .i64 y0, .int .i64 y1, .int .i64 y2, .bool s] 65) := ⟨_, rfl⟩
  rw [← hw1]
  obtain ⟨pb, hpb⟩ : ∃ pb, pb = w.heap.size := ⟨_, rfl⟩
  try rw [← hpb]
  have hf1 : Fr Nob w w1 := by rw [hw1]; exact (Fr.refl Nob w).alloc _
  have hp1 : w1.heap[pb]? = some (.cells #[.int .i64 3, .int .i64 v, .int .i64 y0, .int .i64 y1, .int .i64 y2, .bool s] 65 (0, 0)) := by rw [hw1, hpb]; exact heap_alloc_new _ _
  have hns : ¬ S pb := fun q => by have := Hc.out.lt _ q; omega
  have hnt : ¬ T pb := fun q => by have := Hr.out.lt _ q; omega
  have HC := Lib.hid (Hc.out.fr0 hf1); have HR := Lib.hid (Hr.out.fr0 hf1); have HF := Lib.hid (Hf0.out.trans0 hf1)
  have Hp1 := Lib.hid hp1
  have hlt : pb < w1.heap.size := lt_of_block hp1
  clear hw1 hpb hf1 hp1 Hc Hr Hf0
  refine (chan_close HC.out l n er Hre.out rfl Hn.out).mono ?_
  rintro e w2 ⟨A, cp, rfl, hf2, hc2, hs2⟩
  have Hh := Lib.hid (half1 HR.out HS0.out HT0.out Hd.out HF.out hf2 hc2 (fun k q => .inl q))
  have Hs2 := Lib.hid hs2
  clear hf2 hc2 hs2
  go_wp2_with fail
  refine (ref_close Hh.out.rf Hfew.out l n er Hre.out rfl Hn.out).mono ?_
  rintro e w3 ⟨A', cp', rfl, ht3, hr3⟩
  have Hr3 := Lib.hid hr3; have Hs3 := Lib.hid (Hs2.out.fr ht3.1 fun k q r => by have := HR.out.lt k r; have := q.1; omega)
  have HB := Lib.hid (half2 Hh.out ht3)
  clear ht3 hr3 Hs2 Hh
  have hee : (er == er) = true := by simp
  go_wp2_with fail
  refine (alike_wakes w3 _ _ l n Hn.out Hs3.out.rd Hr3.out).mono ?_
  rintro e w4 ⟨rfl, hq4⟩
  have HB4 := Lib.hid (HB.out.fr0 (Fr.ofDrew hq4))
  clear hq4 HB Hs3 Hr3
  go_wp2_with fail
  go_ret
  exact ⟨rfl, _, HB4.out, closeS_le c⟩
set_option maxHeartbeats 2000000 in
theorem does_6 {w0 w : World} {b m : Nat} {c : ChS} (h : Both w0 w b m c) (hfew : c.Few) (v : Int) (y0 y1 y2 : Int) (s : Bool) :
    Calls Try.prog 20 #[.pointer (some ⟨b, 0, none⟩), .pointer (some ⟨m, 0, none⟩), .agg #[.int .i64 6, .int .i64 v, .int .i64 y0, .int .i64 y1, .int .i64 y2, .bool s]] w (Done w0 b m c) := by
  obtain ⟨S, T, hc, hr, hS0, hT0, hd, hf0⟩ := h
  have Hc := Lib.hid hc; have Hr := Lib.hid hr; have HS0 := Lib.hid hS0; have HT0 := Lib.hid hT0; have Hd := Lib.hid hd; have Hf0 := Lib.hid hf0; have Hfew := Lib.hid hfew
  clear hc hr hS0 hT0 hd hf0 hfew
  obtain ⟨l, d, hre⟩ : ∃ l d, c.putR v = (l, d) := ⟨_, _, rfl⟩
  obtain ⟨n, hn⟩ : ∃ n, l.length = n := ⟨_, rfl⟩
  have Hre := Lib.hid hre; have Hn := Lib.hid hn
  clear hre hn
  go_enter Try.func20, Try.ntmps20
  go_wp2_with fail
  obtain ⟨w1, hw1⟩ : ∃ w1, w1 = w.alloc (.cells #[.int .i64 6, .int .i64 v, .int .i64 y0, .int .i64 y1, .int .i64 y2, .bool s] 65) := ⟨_, rfl⟩
  rw [← hw1]
  obtain ⟨pb, hpb⟩ : ∃ pb, pb = w.heap.size := ⟨_, rfl⟩
  try rw [← hpb]
  have hf1 : Fr Nob w w1 := by rw [hw1]; exact (Fr.refl Nob w).alloc _
  have hp1 : w1.heap[pb]? = some (.cells #[.int .i64 6, .int .i64 v, .int .i64 y0, .int .i64 y1, .int .i64 y2, .bool s] 65 (0, 0)) := by rw [hw1, hpb]; exact heap_alloc_new _ _
  have hns : ¬ S pb := fun q => by have := Hc.out.lt _ q; omega
  have hnt : ¬ T pb := fun q => by have := Hr.out.lt _ q; omega
  have HC := Lib.hid (Hc.out.fr0 hf1); have HR := Lib.hid (Hr.out.fr0 hf1); have HF := Lib.hid (Hf0.out.trans0 hf1)
  have Hp1 := Lib.hid hp1
  have hlt : pb < w1.heap.size := lt_of_block hp1
  clear hw1 hpb hf1 hp1 Hc Hr Hf0
  refine (chan_put HC.out v l n d Hre.out rfl Hn.out).mono ?_
  rintro e w2 ⟨A, cp, rfl, hf2, hc2, hs2⟩
  have Hh := Lib.hid (half1 HR.out HS0.out HT0.out Hd.out HF.out hf2 hc2 (fun k q => .inl q))
  have Hs2 := Lib.hid hs2
  have p1 := blk_cell (hf2.blk hns Hp1.out) 1 rfl
  clear hf2 hc2 hs2
  go_wp2_with fail
  refine (ref_put Hh.out.rf Hfew.out v l n d Hre.out rfl Hn.out).mono ?_
  rintro e w3 ⟨A', cp', rfl, ht3, hr3⟩
  have Hr3 := Lib.hid hr3; have Hs3 := Lib.hid (Hs2.out.fr ht3.1 fun k q r => by have := HR.out.lt k r; have := q.1; omega)
  have HB := Lib.hid (half2 Hh.out ht3)
  clear ht3 hr3 p1 Hs2 Hh
  have hdd : (d == d) = true := by simp
  go_wp2_with fail
  refine (alike_wakes w3 _ _ l n Hn.out Hs3.out.rd Hr3.out).mono ?_
  rintro e w4 ⟨rfl, hq4⟩
  have HB4 := Lib.hid (HB.out.fr0 (Fr.ofDrew hq4))
  clear hq4 HB Hs3 Hr3
  go_wp2_with fail
  go_ret
  exact ⟨rfl, _, HB4.out, putS_le c v⟩
set_option maxHeartbeats 2000000 in
theorem does_7 {w0 w : World} {b m : Nat} {c : ChS} (h : Both w0 w b m c) (hfew : c.Few) (v : Int) (y0 y1 y2 : Int) (s : Bool) :
    Calls Try.prog 20 #[.pointer (some ⟨b, 0, none⟩), .pointer (some ⟨m, 0, none⟩), .agg #[.int .i64 7, .int .i64 v, .int .i64 y0, .int .i64 y1, .int .i64 y2, .bool s]] w (Done w0 b m c) := by
  obtain ⟨S, T, hc, hr, hS0, hT0, hd, hf0⟩ := h
  have Hc := Lib.hid hc; have Hr := Lib.hid hr; have HS0 := Lib.hid hS0; have HT0 := Lib.hid hT0; have Hd := Lib.hid hd; have Hf0 := Lib.hid hf0; have Hfew := Lib.hid hfew
  clear hc hr hS0 hT0 hd hf0 hfew
  obtain ⟨d, hre⟩ : ∃ d, c.dropR = d := ⟨_, rfl⟩
  have Hre := Lib.hid hre
  clear hre
  go_enter Try.func20, Try.ntmps20
  go_wp2_with fail
  obtain ⟨w1, hw1⟩ : ∃ w1, w1 = w.alloc (.cells #[.int .i64 7, .int .i64 v, .int .i64 y0, .int .i64 y1, .int .i64 y2, .bool s] 65) := ⟨_, rfl⟩
  rw [← hw1]
  obtain ⟨pb, hpb⟩ : ∃ pb, pb = w.heap.size := ⟨_, rfl⟩
  try rw [← hpb]
  have hf1 : Fr Nob w w1 := by rw [hw1]; exact (Fr.refl Nob w).alloc _
  have hp1 : w1.heap[pb]? = some (.cells #[.int .i64 7, .int .i64 v, .int .i64 y0, .int .i64 y1, .int .i64 y2, .bool s] 65 (0, 0)) := by rw [hw1, hpb]; exact heap_alloc_new _ _
  have hns : ¬ S pb := fun q => by have := Hc.out.lt _ q; omega
  have hnt : ¬ T pb := fun q => by have := Hr.out.lt _ q; omega
  have HC := Lib.hid (Hc.out.fr0 hf1); have HR := Lib.hid (Hr.out.fr0 hf1); have HF := Lib.hid (Hf0.out.trans0 hf1)
  have Hp1 := Lib.hid hp1
  have hlt : pb < w1.heap.size := lt_of_block hp1
  clear hw1 hpb hf1 hp1 Hc Hr Hf0
  refine (chan_drop HC.out d Hre.out rfl).mono ?_
  rintro e w2 ⟨rfl, hf2, hc2⟩
  have Hh := Lib.hid (half1 HR.out HS0.out HT0.out Hd.out HF.out hf2 hc2 (fun k q => .inl q))
  clear hf2 hc2
  go_wp2_with fail
  refine (ref_drop Hh.out.rf d Hre.out rfl).mono ?_
  rintro e w3 ⟨rfl, ht3⟩
  have HB := Lib.hid (half2 Hh.out ht3)
  clear ht3 Hh
  have hdd : (d == d) = true := by simp
  go_wp2_with fail
  go_ret
  exact ⟨by simp, _, HB.out, dropS_le c⟩
set_option maxHeartbeats 2000000 in
theorem does_8 {w0 w : World} {b m : Nat} {c : ChS} (h : Both w0 w b m c) (hfew : c.Few) (v : Int) (y0 y1 y2 : Int) (s : Bool) :
    Calls Try.prog 20 #[.pointer (some ⟨b, 0, none⟩), .pointer (some ⟨m, 0, none⟩), .agg #[.int .i64 8, .int .i64 v, .int .i64 y0, .int .i64 y1, .int .i64 y2, .bool s]] w (Done w0 b m c) := by
  obtain ⟨S, T, hc, hr, hS0, hT0, hd, hf0⟩ := h
  have Hc := Lib.hid hc; have Hr := Lib.hid hr; have HS0 := Lib.hid hS0; have HT0 := Lib.hid hT0; have Hd := Lib.hid hd; have Hf0 := Lib.hid hf0; have Hfew := Lib.hid hfew
  clear hc hr hS0 hT0 hd hf0 hfew
  obtain ⟨l, hre⟩ : ∃ l, c.endR = l := ⟨_, rfl⟩
  obtain ⟨n, hn⟩ : ∃ n, l.length = n := ⟨_, rfl⟩
  have Hre := Lib.hid hre; have Hn := Lib.hid hn
  clear hre hn
  go_enter Try.func20, Try.ntmps20
  go_wp2_with fail
  obtain ⟨w1, hw1⟩ : ∃ w1, w1 = w.alloc (.cells #[.int .i64 8, .int .i64 v, .int .i64 y0, .int .i64 y1, .int .i64 y2, .bool s] 65) := ⟨_, rfl⟩
  rw [← hw1]
  obtain ⟨pb, hpb⟩ : ∃ pb, pb = w.heap.size := ⟨_, rfl⟩
  try rw [← hpb]
  have hf1 : Fr Nob w w1 := by rw [hw1]; exact (Fr.refl Nob w).alloc _
  have hp1 : w1.heap[pb]? = some (.cells #[.int .i64 8, .int .i64 v, .int .i64 y0, .int .i64 y1, .int .i64 y2, .bool s] 65 (0, 0)) := by rw [hw1, hpb]; exact heap_alloc_new _ _
  have hns : ¬ S pb := fun q => by have := Hc.out.lt _ q; omega
  have hnt : ¬ T pb := fun q => by have := Hr.out.lt _ q; omega
  have HC := Lib.hid (Hc.out.fr0 hf1); have HR := Lib.hid (Hr.out.fr0 hf1); have HF := Lib.hid (Hf0.out.trans0 hf1)
  have Hp1 := Lib.hid hp1
  have hlt : pb < w1.heap.size := lt_of_block hp1
  clear hw1 hpb hf1 hp1 Hc Hr Hf0
  refine (chan_over HC.out l n Hre.out rfl Hn.out).mono ?_
  rintro e w2 ⟨A, cp, rfl, hf2, hc2, hs2⟩
  have Hh := Lib.hid (half1 HR.out HS0.out HT0.out Hd.out HF.out hf2 hc2 (fun k q => .inl q))
  have Hs2 := Lib.hid hs2
  clear hf2 hc2 hs2
  go_wp2_with fail
  refine (ref_over Hh.out.rf Hfew.out l n Hre.out rfl Hn.out).mono ?_
  rintro e w3 ⟨A', cp', rfl, ht3, hr3⟩
  have Hr3 := Lib.hid hr3; have Hs3 := Lib.hid (Hs2.out.fr ht3.1 fun k q r => by have := HR.out.lt k r; have := q.1; omega)
  have HB := Lib.hid (half2 Hh.out ht3)
  clear ht3 hr3 Hs2 Hh
  go_wp2_with fail
  refine (alike_wakes w3 _ _ l n Hn.out Hs3.out.rd Hr3.out).mono ?_
  rintro e w4 ⟨rfl, hq4⟩
  have HB4 := Lib.hid (HB.out.fr0 (Fr.ofDrew hq4))
  clear hq4 HB Hs3 Hr3
  go_wp2_with fail
  go_ret
  exact ⟨rfl, _, HB4.out, endS_le c⟩
set_option maxHeartbeats 2000000 in
theorem does_0 {w0 w : World} {b m : Nat} {c : ChS} (h : Both w0 w b m c) (hfew : c.Few) (kd v : Int) (n1 : (kd == 1) = false) (n2 : (kd == 2) = false) (n3 : (kd == 3) = false) (n4 : (kd == 4) = false) (n5 : (kd == 5) = false) (n6 : (kd == 6) = false) (n7 : (kd == 7) = false) (n8 : (kd == 8) = false) (y0 y1 y2 : Int) (s : Bool) :
    Calls Try.prog 20 #[.pointer (some ⟨b, 0, none⟩), .pointer (some ⟨m, 0, none⟩), .agg #[.int .i64 kd, .int .i64 v, .int .i64 y0, .int .i64 y1, .int .i64 y2, .bool s]] w (Done w0 b m c) := by
  obtain ⟨S, T, hc, hr, hS0, hT0, hd, hf0⟩ := h
  have Hc := Lib.hid hc; have Hr := Lib.hid hr; have HS0 := Lib.hid hS0; have HT0 := Lib.hid hT0; have Hd := Lib.hid hd; have Hf0 := Lib.hid hf0; have Hfew := Lib.hid hfew
  clear hc hr hS0 hT0 hd hf0 hfew
  go_enter Try.func20, Try.ntmps20
  go_wp2_with fail
  go_ret
  have hfa : Fr Nob w (w.alloc (.cells #[.int .i64 kd, .int .i64 v, .int .i64 y0, .int .i64 y1, .int .i64 y2, .bool s] 65)) := (Fr.refl Nob w).alloc _
  exact ⟨rfl, c, ⟨S, T, Hc.out.fr0 hfa, Hr.out.fr0 hfa, HS0.out, HT0.out, Hd.out, Hf0.out.trans0 hfa⟩, by omega, by omega⟩
open Go.RowKit
set_option maxRecDepth 100000
set_option maxHeartbeats 2000000 in
theorem does_4 {w0 w : World} {b m : Nat} {c : ChS} (h : Both w0 w b m c) (hfew : c.Few) (v : Int) (y0 y1 y2 : Int) (s : Bool) :
    Calls Try.prog 20 #[.pointer (some ⟨b, 0, none⟩), .pointer (some ⟨m, 0, none⟩), .agg #[.int .i64 4, .int .i64 v, .int .i64 y0, .int .i64 y1, .int .i64 y2, .bool s]] w (Done w0 b m c) := by
  obtain ⟨S, T, hc, hr, hS0, hT0, hd, hf0⟩ := h
  have Hc := Lib.hid hc; have Hr := Lib.hid hr; have HS0 := Lib.hid hS0; have HT0 := Lib.hid hT0; have Hd := Lib.hid hd; have Hf0 := Lib.hid hf0; have Hfew := Lib.hid hfew
  clear hc hr hS0 hT0 hd hf0 hfew
  obtain ⟨r, hre⟩ : ∃ r, c.waitR (y0, y1, y2) s = r := ⟨_, rfl⟩
  obtain ⟨c', hce⟩ : ∃ c', c.waitS (y0, y1, y2) s = c' := ⟨_, rfl⟩
  have Hre := Lib.hid hre; have Hce := Lib.hid hce
  clear hre hce
  go_enter Try.func20, Try.ntmps20
  go_wp2_with fail
  obtain ⟨w1, hw1⟩ : ∃ w1, w1 = w.alloc (.cells #[.int .i64 4, .int .i64 v, .int .i64 y0, .int .i64 y1, .int .i64 y2, .bool s] 65) := ⟨_, rfl⟩
  rw [← hw1]
  obtain ⟨pb, hpb⟩ : ∃ pb, pb = w.heap.size := ⟨_, rfl⟩
  try rw [← hpb]
  have hf1 : Fr Nob w w1 := by rw [hw1]; exact (Fr.refl Nob w).alloc _
  have hp1 : w1.heap[pb]? = some (.cells #[.int .i64 4, .int .i64 v, .int .i64 y0, .int .i64 y1, .int .i64 y2, .bool s] 65 (0, 0)) := by rw [hw1, hpb]; exact heap_alloc_new _ _
  have hns : ¬ S pb := fun q => by have := Hc.out.lt _ q; omega
  have hnt : ¬ T pb := fun q => by have := Hr.out.lt _ q; omega
  have HC := Lib.hid (Hc.out.fr0 hf1); have HR := Lib.hid (Hr.out.fr0 hf1); have HF := Lib.hid (Hf0.out.trans0 hf1)
  have Hp1 := Lib.hid hp1
  have hlt : pb < w1.heap.size := lt_of_block hp1
  clear hw1 hpb hf1 hp1 Hc Hr Hf0
  have hkey : ∀ W : World, W.heap[pb]? = some (.cells #[.int .i64 4, .int .i64 v, .int .i64 y0, .int .i64 y1, .int .i64 y2, .bool s] 65 (0, 0)) → W.cell? ⟨pb, 1, none⟩ = some (.int .i64 v) ∧ W.cell? ⟨pb, 2, none⟩ = some (.int .i64 y0) ∧ W.cell? ⟨pb, 3, none⟩ = some (.int .i64 y1) ∧ W.cell? ⟨pb, 4, none⟩ = some (.int .i64 y2) ∧ W.cell? ⟨pb, 5, none⟩ = some (.bool s) := fun W h => ⟨blk_cell h 1 rfl, blk_cell h 2 rfl, blk_cell h 3 rfl, blk_cell h 4 rfl, blk_cell h 5 rfl⟩
  have Key := Lib.hid hkey
  have hb1 := ((Fr.refl Nob w1).drew).blk id Hp1.out
  clear hkey
  go_region_held3 (fun W => W.cell? ⟨pb, 1, none⟩ = some (.int .i64 v) ∧ W.cell? ⟨pb, 2, none⟩ = some (.int .i64 y0) ∧ W.cell? ⟨pb, 3, none⟩ = some (.int .i64 y1) ∧ W.cell? ⟨pb, 4, none⟩ = some (.int .i64 y2) ∧ W.cell? ⟨pb, 5, none⟩ = some (.bool s))
    ((refine Key.out _ ?_; first | with_reducible exact hb3 | with_reducible exact hb2 | with_reducible exact hb1 | exact hb1 | exact Hp1.out))
    ((first
      | (go_at_call 36; refine (chan_wait (HC.out.fr0 ((Fr.refl Nob w1).drew)) (y0, y1, y2) s r Hre.out Hce.out (by have := Hfew.out.1; have := Hfew.out.2.1; omega)).mono ?_; rintro e w2 ⟨S', rfl, hf2, hc2, hsub⟩; have hb2 := hf2.blk hns hb1; have Hh := Lib.hid (half1 (HR.out.fr0 ((Fr.refl Nob w1).drew)) HS0.out HT0.out Hd.out (HF.out.drew) hf2 hc2 hsub); clear hf2 hc2 hsub)
      | (go_at_call 51; refine (ref_wait Hh.out.rf Hfew.out (y0, y1, y2) s r Hre.out Hce.out).mono ?_; rintro e w3 ⟨rfl, ht3⟩; have hb3 := ht3.1.blk hnt hb2; have HB := Lib.hid (half2 Hh.out ht3); clear ht3)))
  all_goals (
    clear hb1 hb2 hb3 Key
    have hrr : (r == r) = true := by simp
    go_wp2_with fail
    go_ret
    exact ⟨by simp, _, HB.out, by rw [← Hce.out]; exact waitS_le c _ s⟩)
set_option maxHeartbeats 2000000 in
theorem does_5 {w0 w : World} {b m : Nat} {c : ChS} (h : Both w0 w b m c) (hfew : c.Few) (v : Int) (y0 y1 y2 : Int) (s : Bool) :
    Calls Try.prog 20 #[.pointer (some ⟨b, 0, none⟩), .pointer (some ⟨m, 0, none⟩), .agg #[.int .i64 5, .int .i64 v, .int .i64 y0, .int .i64 y1, .int .i64 y2, .bool s]] w (Done w0 b m c) := by
  obtain ⟨S, T, hc, hr, hS0, hT0, hd, hf0⟩ := h
  have Hc := Lib.hid hc; have Hr := Lib.hid hr; have HS0 := Lib.hid hS0; have HT0 := Lib.hid hT0; have Hd := Lib.hid hd; have Hf0 := Lib.hid hf0; have Hfew := Lib.hid hfew
  clear hc hr hS0 hT0 hd hf0 hfew
  obtain ⟨r, hre⟩ : ∃ r, c.removeR v = r := ⟨_, rfl⟩
  obtain ⟨c', hce⟩ : ∃ c', c.removeS v = c' := ⟨_, rfl⟩
  have Hre := Lib.hid hre; have Hce := Lib.hid hce
  clear hre hce
  go_enter Try.func20, Try.ntmps20
  go_wp2_with fail
  obtain ⟨w1, hw1⟩ : ∃ w1, w1 = w.alloc (.cells #[.int .i64 5, .int .i64 v, .int .i64 y0, .int .i64 y1, .int .i64 y2, .bool s] 65) := ⟨_, rfl⟩
  rw [← hw1]
  obtain ⟨pb, hpb⟩ : ∃ pb, pb = w.heap.size := ⟨_, rfl⟩
  try rw [← hpb]
  have hf1 : Fr Nob w w1 := by rw [hw1]; exact (Fr.refl Nob w).alloc _
  have hp1 : w1.heap[pb]? = some (.cells #[.int .i64 5, .int .i64 v, .int .i64 y0, .int .i64 y1, .int .i64 y2, .bool s] 65 (0, 0)) := by rw [hw1, hpb]; exact heap_alloc_new _ _
  have hns : ¬ S pb := fun q => by have := Hc.out.lt _ q; omega
  have hnt : ¬ T pb := fun q => by have := Hr.out.lt _ q; omega
  have HC := Lib.hid (Hc.out.fr0 hf1); have HR := Lib.hid (Hr.out.fr0 hf1); have HF := Lib.hid (Hf0.out.trans0 hf1)
  have Hp1 := Lib.hid hp1
  have hlt : pb < w1.heap.size := lt_of_block hp1
  clear hw1 hpb hf1 hp1 Hc Hr Hf0
  have hkey : ∀ W : World, W.heap[pb]? = some (.cells #[.int .i64 5, .int .i64 v, .int .i64 y0, .int .i64 y1, .int .i64 y2, .bool s] 65 (0, 0)) → W.cell? ⟨pb, 1, none⟩ = some (.int .i64 v) ∧ W.cell? ⟨pb, 2, none⟩ = some (.int .i64 y0) ∧ W.cell? ⟨pb, 3, none⟩ = some (.int .i64 y1) ∧ W.cell? ⟨pb, 4, none⟩ = some (.int .i64 y2) ∧ W.cell? ⟨pb, 5, none⟩ = some (.bool s) := fun W h => ⟨blk_cell h 1 rfl, blk_cell h 2 rfl, blk_cell h 3 rfl, blk_cell h 4 rfl, blk_cell h 5 rfl⟩
  have Key := Lib.hid hkey
  have hb1 := ((Fr.refl Nob w1).drew).blk id Hp1.out
  clear hkey
  go_region_held3 (fun W => W.cell? ⟨pb, 1, none⟩ = some (.int .i64 v) ∧ W.cell? ⟨pb, 2, none⟩ = some (.int .i64 y0) ∧ W.cell? ⟨pb, 3, none⟩ = some (.int .i64 y1) ∧ W.cell? ⟨pb, 4, none⟩ = some (.int .i64 y2) ∧ W.cell? ⟨pb, 5, none⟩ = some (.bool s))
    ((refine Key.out _ ?_; first | with_reducible exact hb3 | with_reducible exact hb2 | with_reducible exact hb1 | exact hb1 | exact Hp1.out))
    ((first
      | (go_at_call 37; refine (chan_remove (HC.out.fr0 ((Fr.refl Nob w1).drew)) v r c' Hre.out Hce.out).mono ?_; rintro e w2 ⟨rfl, hf2, hc2⟩; have hb2 := hf2.blk hns hb1; have Hh := Lib.hid (half1 (HR.out.fr0 ((Fr.refl Nob w1).drew)) HS0.out HT0.out Hd.out (HF.out.drew) hf2 hc2 (fun k q => .inl q)); clear hf2 hc2)
      | (go_at_call 52; refine (ref_remove Hh.out.rf Hfew.out v r c' Hre.out Hce.out).mono ?_; rintro e w3 ⟨rfl, ht3⟩; have hb3 := ht3.1.blk hnt hb2; have HB := Lib.hid (half2 Hh.out ht3); clear ht3)))
  all_goals (
    clear hb1 hb2 hb3 Key
    have hrr : ((r : Int) == (r : Int)) = true := by simp
    go_wp2_with fail
    go_ret
    exact ⟨by simp, _, HB.out, by rw [← Hce.out]; exact removeS_le c v⟩)
theorem doesn_1 (w : World) (v : Int) (y0 y1 y2 : Int) (s : Bool) :
    Calls Try.prog 20 #[.pointer none, .pointer none, .agg #[.int .i64 1, .int .i64 v, .int .i64 y0, .int .i64 y1, .int .i64 y2, .bool s]] w fun e w' => e = .returned (.bool true) ∧ Fr Nob w w' := by
  go_enter Try.func20, Try.ntmps20
  go_wp2_with fail
  obtain ⟨w1, hw1⟩ : ∃ w1, w1 = w.alloc (.cells #[.int .i64 1, .int .i64 v, .int .i64 y0, .int .i64 y1, .int .i64 y2, .bool s] 65) := ⟨_, rfl⟩
  rw [← hw1]
  obtain ⟨pb, hpb⟩ : ∃ pb, pb = w.heap.size := ⟨_, rfl⟩
  try rw [← hpb]
  have hf1 : Fr Nob w w1 := by rw [hw1]; exact (Fr.refl Nob w).alloc _
  have hp1 : w1.heap[pb]? = some (.cells #[.int .i64 1, .int .i64 v, .int .i64 y0, .int .i64 y1, .int .i64 y2, .bool s] 65 (0, 0)) := by rw [hw1, hpb]; exact heap_alloc_new _ _
  have Hp1 := Lib.hid hp1; have HF1 := Lib.hid hf1
  have hlt : pb < w1.heap.size := lt_of_block hp1
  clear hw1 hpb hf1 hp1
  refine (send_nil w1 v).mono ?_
  rintro e w2 ⟨rfl, hf2⟩
  have F2 := Lib.hid (HF1.out.trans0 hf2)
  have p1 := blk_cell (hf2.blk id Hp1.out) 1 rfl
  clear hf2
  go_wp2_with fail
  refine (rsend_nil w2 v).mono ?_
  rintro e w3 ⟨rfl, hf3⟩
  have F3 := Lib.hid (F2.out.trans0 hf3)
  clear hf3 p1
  go_wp2_with fail
  refine (alike_wakes w3 _ _ [] 0 rfl (rd_nil _ _) (rd_nil _ _)).mono ?_
  rintro e w4 ⟨rfl, hq4⟩
  have F4 := Lib.hid (F3.out.trans0 (Fr.ofDrew hq4))
  clear hq4
  go_wp2_with fail
  go_ret
  exact ⟨rfl, F4.out⟩
theorem doesn_2 (w : World) (v : Int) (y0 y1 y2 : Int) (s : Bool) :
    Calls Try.prog 20 #[.pointer none, .pointer none, .agg #[.int .i64 2, .int .i64 v, .int .i64 y0, .int .i64 y1, .int .i64 y2, .bool s]] w fun e w' => e = .returned (.bool true) ∧ Fr Nob w w' := by
  go_enter Try.func20, Try.ntmps20
  go_wp2_with fail
  obtain ⟨w1, hw1⟩ : ∃ w1, w1 = w.alloc (.cells #[.int .i64 2, .int .i64 v, .int .i64 y0, .int .i64 y1, .int .i64 y2, .bool s] 65) := ⟨_, rfl⟩
  rw [← hw1]
  obtain ⟨pb, hpb⟩ : ∃ pb, pb = w.heap.size := ⟨_, rfl⟩
  try rw [← hpb]
  have hf1 : Fr Nob w w1 := by rw [hw1]; exact (Fr.refl Nob w).alloc _
  have hp1 : w1.heap[pb]? = some (.cells #[.int .i64 2, .int .i64 v, .int .i64 y0, .int .i64 y1, .int .i64 y2, .bool s] 65 (0, 0)) := by rw [hw1, hpb]; exact heap_alloc_new _ _
  have Hp1 := Lib.hid hp1; have HF1 := Lib.hid hf1
  have hlt : pb < w1.heap.size := lt_of_block hp1
  clear hw1 hpb hf1 hp1
  refine (recv_nil w1).mono ?_
  rintro e w2 ⟨rfl, hf2⟩
  have F2 := Lib.hid (HF1.out.trans0 hf2)
  
  clear hf2
  go_wp2_with fail
  refine (rrecv_nil w2).mono ?_
  rintro e w3 ⟨rfl, hf3⟩
  have F3 := Lib.hid (F2.out.trans0 hf3)
  clear hf3 
  go_wp2_with fail
  refine (alike_wakes w3 _ _ [] 0 rfl (rd_nil _ _) (rd_nil _ _)).mono ?_
  rintro e w4 ⟨rfl, hq4⟩
  have F4 := Lib.hid (F3.out.trans0 (Fr.ofDrew hq4))
  clear hq4
  go_wp2_with fail
  go_ret
  exact ⟨rfl, F4.out⟩
theorem doesn_3 (w : World) (v : Int) (y0 y1 y2 : Int) (s : Bool) :
    Calls Try.prog 20 #[.pointer none, .pointer none, .agg #[.int .i64 3, .int .i64 v, .int .i64 y0, .int .i64 y1, .int .i64 y2, .bool s]] w fun e w' => e = .returned (.bool true) ∧ Fr Nob w w' := by
  go_enter Try.func20, Try.ntmps20
  go_wp2_with fail
  obtain ⟨w1, hw1⟩ : ∃ w1, w1 = w.alloc (.cells #[.int .i64 3, .int .i64 v, .int .i64 y0, .int .i64 y1, .int .i64 y2, .bool s] 65) := ⟨_, rfl⟩
  rw [← hw1]
  obtain ⟨pb, hpb⟩ : ∃ pb, pb = w.heap.size := ⟨_, rfl⟩
  try rw [← hpb]
  have hf1 : Fr Nob w w1 := by rw [hw1]; exact (Fr.refl Nob w).alloc _
  have hp1 : w1.heap[pb]? = some (.cells #[.int .i64 3, .int .i64 v, .int .i64 y0, .int .i64 y1, .int .i64 y2, .bool s] 65 (0, 0)) := by rw [hw1, hpb]; exact heap_alloc_new _ _
  have Hp1 := Lib.hid hp1; have HF1 := Lib.hid hf1
  have hlt : pb < w1.heap.size := lt_of_block hp1
  clear hw1 hpb hf1 hp1
  refine ((chan_close_nil w1).mono (R' := fun e w' => e = .returned (.tuple #[.slice none 0 0, .int .i64 6]) ∧ Fr Nob w1 w') fun e w' h => ⟨h.1, h.2 ▸ Fr.refl _ _⟩).mono ?_
  rintro e w2 ⟨rfl, hf2⟩
  have F2 := Lib.hid (HF1.out.trans0 hf2)
  
  clear hf2
  go_wp2_with fail
  refine (rclose_nil w2).mono ?_
  rintro e w3 ⟨rfl, hf3⟩
  have F3 := Lib.hid (F2.out.trans0 hf3)
  clear hf3 
  go_wp2_with fail
  refine (alike_wakes w3 _ _ [] 0 rfl (rd_nil _ _) (rd_nil _ _)).mono ?_
  rintro e w4 ⟨rfl, hq4⟩
  have F4 := Lib.hid (F3.out.trans0 (Fr.ofDrew hq4))
  clear hq4
  go_wp2_with fail
  go_ret
  exact ⟨rfl, F4.out⟩
theorem doesn_6 (w : World) (v : Int) (y0 y1 y2 : Int) (s : Bool) :
    Calls Try.prog 20 #[.pointer none, .pointer none, .agg #[.int .i64 6, .int .i64 v, .int .i64 y0, .int .i64 y1, .int .i64 y2, .bool s]] w fun e w' => e = .returned (.bool true) ∧ Fr Nob w w' := by
  go_enter Try.func20, Try.ntmps20
  go_wp2_with fail
  obtain ⟨w1, hw1⟩ : ∃ w1, w1 = w.alloc (.cells #[.int .i64 6, .int .i64 v, .int .i64 y0, .int .i64 y1, .int .i64 y2, .bool s] 65) := ⟨_, rfl⟩
  rw [← hw1]
  obtain ⟨pb, hpb⟩ : ∃ pb, pb = w.heap.size := ⟨_, rfl⟩
  try rw [← hpb]
  have hf1 : Fr Nob w w1 := by rw [hw1]; exact (Fr.refl Nob w).alloc _
  have hp1 : w1.heap[pb]? = some (.cells #[.int .i64 6, .int .i64 v, .int .i64 y0, .int .i64 y1, .int .i64 y2, .bool s] 65 (0, 0)) := by rw [hw1, hpb]; exact heap_alloc_new _ _
  have Hp1 := Lib.hid hp1; have HF1 := Lib.hid hf1
  have hlt : pb < w1.heap.size := lt_of_block hp1
  clear hw1 hpb hf1 hp1
  refine (put_nil w1 v).mono ?_
  rintro e w2 ⟨rfl, hf2⟩
  have F2 := Lib.hid (HF1.out.trans0 hf2)
  have p1 := blk_cell (hf2.blk id Hp1.out) 1 rfl
  clear hf2
  go_wp2_with fail
  refine (rput_nil w2 v).mono ?_
  rintro e w3 ⟨rfl, hf3⟩
  have F3 := Lib.hid (F2.out.trans0 hf3)
  clear hf3 p1
  go_wp2_with fail
  refine (alike_wakes w3 _ _ [] 0 rfl (rd_nil _ _) (rd_nil _ _)).mono ?_
  rintro e w4 ⟨rfl, hq4⟩
  have F4 := Lib.hid (F3.out.trans0 (Fr.ofDrew hq4))
  clear hq4
  go_wp2_with fail
  go_ret
  exact ⟨rfl, F4.out⟩
theorem doesn_7 (w : World) (v : Int) (y0 y1 y2 : Int) (s : Bool) :
    Calls Try.prog 20 #[.pointer none, .pointer none, .agg #[.int .i64 7, .int .i64 v, .int .i64 y0, .int .i64 y1, .int .i64 y2, .bool s]] w fun e w' => e = .returned (.bool true) ∧ Fr Nob w w' := by
  go_enter Try.func20, Try.ntmps20
  go_wp2_with fail
  obtain ⟨w1, hw1⟩ : ∃ w1, w1 = w.alloc (.cells #[.int .i64 7, .int .i64 v, .int .i64 y0, .int .i64 y1, .int .i64 y2, .bool s] 65) := ⟨_, rfl⟩
  rw [← hw1]
  obtain ⟨pb, hpb⟩ : ∃ pb, pb = w.heap.size := ⟨_, rfl⟩
  try rw [← hpb]
  have hf1 : Fr Nob w w1 := by rw [hw1]; exact (Fr.refl Nob w).alloc _
  have hp1 : w1.heap[pb]? = some (.cells #[.int .i64 7, .int .i64 v, .int .i64 y0, .int .i64 y1, .int .i64 y2, .bool s] 65 (0, 0)) := by rw [hw1, hpb]; exact heap_alloc_new _ _
  have Hp1 := Lib.hid hp1; have HF1 := Lib.hid hf1
  have hlt : pb < w1.heap.size := lt_of_block hp1
  clear hw1 hpb hf1 hp1
  refine (drop_nil w1).mono ?_
  rintro e w2 ⟨rfl, hf2⟩
  have F2 := Lib.hid (HF1.out.trans0 hf2)
  
  clear hf2
  go_wp2_with fail
  refine (rdrop_nil w2).mono ?_
  rintro e w3 ⟨rfl, hf3⟩
  have F3 := Lib.hid (F2.out.trans0 hf3)
  clear hf3 
  go_wp2_with fail
  go_ret
  exact ⟨rfl, F3.out⟩
theorem doesn_8 (w : World) (v : Int) (y0 y1 y2 : Int) (s : Bool) :
    Calls Try.prog 20 #[.pointer none, .pointer none, .agg #[.int .i64 8, .int .i64 v, .int .i64 y0, .int .i64 y1, .int .i64 y2, .bool s]] w fun e w' => e = .returned (.bool true) ∧ Fr Nob w w' := by
  go_enter Try.func20, Try.ntmps20
  go_wp2_with fail
  obtain ⟨w1, hw1⟩ : ∃ w1, w1 = w.alloc (.cells #[.int .i64 8, .int .i64 v, .int .i64 y0, .int .i64 y1, .int .i64 y2, .bool s] 65) := ⟨_, rfl⟩
  rw [← hw1]
  obtain ⟨pb, hpb⟩ : ∃ pb, pb = w.heap.size := ⟨_, rfl⟩
  try rw [← hpb]
  have hf1 : Fr Nob w w1 := by rw [hw1]; exact (Fr.refl Nob w).alloc _
  have hp1 : w1.heap[pb]? = some (.cells #[.int .i64 8, .int .i64 v, .int .i64 y0, .int .i64 y1, .int .i64 y2, .bool s] 65 (0, 0)) := by rw [hw1, hpb]; exact heap_alloc_new _ _
  have Hp1 := Lib.hid hp1; have HF1 := Lib.hid hf1
  have hlt : pb < w1.heap.size := lt_of_block hp1
  clear hw1 hpb hf1 hp1
  refine (over_nil w1).mono ?_
  rintro e w2 ⟨rfl, hf2⟩
  have F2 := Lib.hid (HF1.out.trans0 hf2)
  
  clear hf2
  go_wp2_with fail
  refine (rover_nil w2).mono ?_
  rintro e w3 ⟨rfl, hf3⟩
  have F3 := Lib.hid (F2.out.trans0 hf3)
  clear hf3 
  go_wp2_with fail
  refine (alike_wakes w3 _ _ [] 0 rfl (rd_nil _ _) (rd_nil _ _)).mono ?_
  rintro e w4 ⟨rfl, hq4⟩
  have F4 := Lib.hid (F3.out.trans0 (Fr.ofDrew hq4))
  clear hq4
  go_wp2_with fail
  go_ret
  exact ⟨rfl, F4.out⟩
theorem doesn_4 (w : World) (v : Int) (y0 y1 y2 : Int) (s : Bool) :
    Calls Try.prog 20 #[.pointer none, .pointer none, .agg #[.int .i64 4, .int .i64 v, .int .i64 y0, .int .i64 y1, .int .i64 y2, .bool s]] w fun e w' => e = .returned (.bool true) ∧ Fr Nob w w' := by
  go_enter Try.func20, Try.ntmps20
  go_wp2_with fail
  obtain ⟨w1, hw1⟩ : ∃ w1, w1 = w.alloc (.cells #[.int .i64 4, .int .i64 v, .int .i64 y0, .int .i64 y1, .int .i64 y2, .bool s] 65) := ⟨_, rfl⟩
  rw [← hw1]
  obtain ⟨pb, hpb⟩ : ∃ pb, pb = w.heap.size := ⟨_, rfl⟩
  try rw [← hpb]
  have hf1 : Fr Nob w w1 := by rw [hw1]; exact (Fr.refl Nob w).alloc _
  have hp1 : w1.heap[pb]? = some (.cells #[.int .i64 4, .int .i64 v, .int .i64 y0, .int .i64 y1, .int .i64 y2, .bool s] 65 (0, 0)) := by rw [hw1, hpb]; exact heap_alloc_new _ _
  have Hp1 := Lib.hid hp1; have HF1 := Lib.hid hf1
  have hlt : pb < w1.heap.size := lt_of_block hp1
  clear hw1 hpb hf1 hp1
  have hkey : ∀ W : World, W.heap[pb]? = some (.cells #[.int .i64 4, .int .i64 v, .int .i64 y0, .int .i64 y1, .int .i64 y2, .bool s] 65 (0, 0)) → W.cell? ⟨pb, 1, none⟩ = some (.int .i64 v) ∧ W.cell? ⟨pb, 2, none⟩ = some (.int .i64 y0) ∧ W.cell? ⟨pb, 3, none⟩ = some (.int .i64 y1) ∧ W.cell? ⟨pb, 4, none⟩ = some (.int .i64 y2) ∧ W.cell? ⟨pb, 5, none⟩ = some (.bool s) := fun W h => ⟨blk_cell h 1 rfl, blk_cell h 2 rfl, blk_cell h 3 rfl, blk_cell h 4 rfl, blk_cell h 5 rfl⟩
  have Key := Lib.hid hkey
  have hb1 := ((Fr.refl Nob w1).drew).blk id Hp1.out
  clear hkey
  go_region_held3 (fun W => W.cell? ⟨pb, 1, none⟩ = some (.int .i64 v) ∧ W.cell? ⟨pb, 2, none⟩ = some (.int .i64 y0) ∧ W.cell? ⟨pb, 3, none⟩ = some (.int .i64 y1) ∧ W.cell? ⟨pb, 4, none⟩ = some (.int .i64 y2) ∧ W.cell? ⟨pb, 5, none⟩ = some (.bool s))
    ((refine Key.out _ ?_; first | with_reducible exact hb3 | with_reducible exact hb2 | with_reducible exact hb1 | exact hb1 | exact Hp1.out))
    ((first
      | (go_at_call 36; refine (wait_nil w1.drew (y0, y1, y2) s).mono ?_; rintro e w2 ⟨rfl, hf2⟩; have hb2 := hf2.blk id hb1; have F2 := Lib.hid ((HF1.out.drew).trans0 hf2); clear hf2)
      | (go_at_call 51; refine (rwait_nil w2 s y0 y1 y2).mono ?_; rintro e w3 ⟨rfl, hf3⟩; have hb3 := hf3.blk id hb2; have F3 := Lib.hid (F2.out.trans0 hf3); clear hf3)))
  all_goals (
    clear hb1 hb2 hb3 Key
    go_wp2_with fail
    go_ret
    exact ⟨rfl, F3.out⟩)
theorem doesn_5 (w : World) (v : Int) (y0 y1 y2 : Int) (s : Bool) :
    Calls Try.prog 20 #[.pointer none, .pointer none, .agg #[.int .i64 5, .int .i64 v, .int .i64 y0, .int .i64 y1, .int .i64 y2, .bool s]] w fun e w' => e = .returned (.bool true) ∧ Fr Nob w w' := by
  go_enter Try.func20, Try.ntmps20
  go_wp2_with fail
  obtain ⟨w1, hw1⟩ : ∃ w1, w1 = w.alloc (.cells #[.int .i64 5, .int .i64 v, .int .i64 y0, .int .i64 y1, .int .i64 y2, .bool s] 65) := ⟨_, rfl⟩
  rw [← hw1]
  obtain ⟨pb, hpb⟩ : ∃ pb, pb = w.heap.size := ⟨_, rfl⟩
  try rw [← hpb]
  have hf1 : Fr Nob w w1 := by rw [hw1]; exact (Fr.refl Nob w).alloc _
  have hp1 : w1.heap[pb]? = some (.cells #[.int .i64 5, .int .i64 v, .int .i64 y0, .int .i64 y1, .int .i64 y2, .bool s] 65 (0, 0)) := by rw [hw1, hpb]; exact heap_alloc_new _ _
  have Hp1 := Lib.hid hp1; have HF1 := Lib.hid hf1
  have hlt : pb < w1.heap.size := lt_of_block hp1
  clear hw1 hpb hf1 hp1
  have hkey : ∀ W : World, W.heap[pb]? = some (.cells #[.int .i64 5, .int .i64 v, .int .i64 y0, .int .i64 y1, .int .i64 y2, .bool s] 65 (0, 0)) → W.cell? ⟨pb, 1, none⟩ = some (.int .i64 v) ∧ W.cell? ⟨pb, 2, none⟩ = some (.int .i64 y0) ∧ W.cell? ⟨pb, 3, none⟩ = some (.int .i64 y1) ∧ W.cell? ⟨pb, 4, none⟩ = some (.int .i64 y2) ∧ W.cell? ⟨pb, 5, none⟩ = some (.bool s) := fun W h => ⟨blk_cell h 1 rfl, blk_cell h 2 rfl, blk_cell h 3 rfl, blk_cell h 4 rfl, blk_cell h 5 rfl⟩
  have Key := Lib.hid hkey
  have hb1 := ((Fr.refl Nob w1).drew).blk id Hp1.out
  clear hkey
  go_region_held3 (fun W => W.cell? ⟨pb, 1, none⟩ = some (.int .i64 v) ∧ W.cell? ⟨pb, 2, none⟩ = some (.int .i64 y0) ∧ W.cell? ⟨pb, 3, none⟩ = some (.int .i64 y1) ∧ W.cell? ⟨pb, 4, none⟩ = some (.int .i64 y2) ∧ W.cell? ⟨pb, 5, none⟩ = some (.bool s))
    ((refine Key.out _ ?_; first | with_reducible exact hb3 | with_reducible exact hb2 | with_reducible exact hb1 | exact hb1 | exact Hp1.out))
    ((first
      | (go_at_call 37; refine (remove_nil w1.drew v).mono ?_; rintro e w2 ⟨rfl, hf2⟩; have hb2 := hf2.blk id hb1; have F2 := Lib.hid ((HF1.out.drew).trans0 hf2); clear hf2)
      | (go_at_call 52; refine (rremove_nil w2 v).mono ?_; rintro e w3 ⟨rfl, hf3⟩; have hb3 := hf3.blk id hb2; have F3 := Lib.hid (F2.out.trans0 hf3); clear hf3)))
  all_goals (
    clear hb1 hb2 hb3 Key
    go_wp2_with fail
    go_ret
    exact ⟨rfl, F3.out⟩)
theorem doesn_0 (w : World) (kd : Int) (n1 : (kd == 1) = false) (n2 : (kd == 2) = false) (n3 : (kd == 3) = false) (n4 : (kd == 4) = false) (n5 : (kd == 5) = false) (n6 : (kd == 6) = false) (n7 : (kd == 7) = false) (n8 : (kd == 8) = false) (v : Int) (y0 y1 y2 : Int) (s : Bool) :
    Calls Try.prog 20 #[.pointer none, .pointer none, .agg #[.int .i64 kd, .int .i64 v, .int .i64 y0, .int .i64 y1, .int .i64 y2, .bool s]] w fun e w' => e = .returned (.bool true) ∧ Fr Nob w w' := by
  go_enter Try.func20, Try.ntmps20
  go_wp2_with fail
  go_ret
  exact ⟨rfl, (Fr.refl Nob w).alloc _⟩
end Go.Proofs.Ytdemeghhjnehbaa
