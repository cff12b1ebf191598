/- Who waits by two cases on one channel is told of its close once, by the first; and goes with both, for all that the statement draws. -/
import Derived.Test.YtfpcnagimjmkpaaChanPl
import Derived.Deep.RegionHeld3
set_option linter.unusedVariables false
set_option linter.unusedSimpArgs false
namespace Go.Proofs.Ytfpcnagimjmkpaa
open Go.RowKit
set_option maxRecDepth 100000
/-- Two channels that a law made. -/
def Tw (w0 w : World) (a : Nat) (ca : ChS) (b : Nat) (cb : ChS) : Prop := ∃ S T : Nat → Prop, ChanAt w S a ca ∧ ChanAt w T b cb ∧ (∀ k, S k → w0.heap.size ≤ k) ∧ (∀ k, T k → w0.heap.size ≤ k) ∧ (∀ k, S k → T k → False) ∧ Fr Nob w0 w
section
variable {w0 w : World} {a b : Nat} {ca cb : ChS}
theorem Tw.fr (h : Tw w0 w a ca b cb) : Fr Nob w0 w := by obtain ⟨S, T, h1, h2, h3, h4, h5, h6⟩ := h; exact h6
theorem Tw.fr0 {w' : World} (h : Tw w0 w a ca b cb) (hf : Fr Nob w w') : Tw w0 w' a ca b cb := by
  obtain ⟨S, T, h1, h2, h3, h4, h5, h6⟩ := h
  exact ⟨S, T, h1.fr0 hf, h2.fr0 hf, h3, h4, h5, h6.trans0 hf⟩
theorem Tw.swap (h : Tw w0 w a ca b cb) : Tw w0 w b cb a ca := by
  obtain ⟨S, T, h1, h2, h3, h4, h5, h6⟩ := h
  exact ⟨T, S, h2, h1, h4, h3, fun k q q' => h5 k q' q, h6⟩
/-- A wait at the first: what lies in blocks that neither channel has is as it was. -/
theorem Tw.wait (h : Tw w0 w a ca b cb) (x : Wt) (s : Bool) (r : Int) (ca' : ChS) (hr : ca.waitR x s = r) (hs : ca.waitS x s = ca') (hfew : ca.rv.length < 100000 ∧ ca.sd.length < 100000) :
    Calls Try.prog 14 #[.pointer (some ⟨a, 0, none⟩), wtVal x, .bool s] w fun e w' => e = .returned (.int .i64 r) ∧ Tw w0 w' a ca' b cb ∧ w.heap.size ≤ w'.heap.size := by
  obtain ⟨S, T, h1, h2, h3, h4, h5, h6⟩ := h
  refine (chan_wait h1 x s r hr hs hfew).mono ?_
  rintro e w' ⟨S', he, hf, hc, hsub⟩
  refine ⟨he, ⟨S', T, hc, h2.fr hf fun k q q' => h5 k q' q, fun k q => ?_, h4, fun k q q' => ?_, h6.trans hf fun k hk q => by have := h3 k q; omega⟩, hf.size⟩
  · rcases hsub k q with q | q
    · exact h3 k q
    · exact Nat.le_trans h6.size q
  · rcases hsub k q with q | q
    · exact h5 k q q'
    · have := h2.lt k q'; omega
theorem Tw.remove (h : Tw w0 w a ca b cb) (t : Int) (n : Nat) (ca' : ChS) (hn : ca.removeR t = n) (hs : ca.removeS t = ca') :
    Calls Try.prog 19 #[.pointer (some ⟨a, 0, none⟩), .int .i64 t] w fun e w' => e = .returned (.int .i64 (n : Int)) ∧ Tw w0 w' a ca' b cb := by
  obtain ⟨S, T, h1, h2, h3, h4, h5, h6⟩ := h
  refine (chan_remove h1 t n ca' hn hs).mono ?_
  rintro e w' ⟨he, hf, hc⟩
  exact ⟨he, S, T, hc, h2.fr hf fun k q q' => h5 k q' q, h3, h4, h5, h6.trans hf fun k hk q => by have := h3 k q; omega⟩
theorem Tw.one (h : Tw w0 w a ca b cb) : One w0 w a ca := by obtain ⟨S, T, h1, h2, h3, h4, h5, h6⟩ := h; exact ⟨S, h1, h3, h6⟩
end
theorem Tw.mk2 {w0 w1 w2 : World} {a : Nat} {ca cb : ChS} {e : Ending} (h1 : One w0 w1 a ca) (h2 : NewP w1 cb e w2) : ∃ b : Nat, e = .returned (.tuple #[.pointer (some ⟨b, 0, none⟩), .int .i64 0]) ∧ Tw w0 w2 a ca b cb := by
  obtain ⟨S, k1, k2, k3⟩ := h1
  obtain ⟨b, T, q1, q2, q3, q4⟩ := h2
  exact ⟨b, q1, S, T, k1.fr0 q2, q3, k2, fun k q => Nat.le_trans k3.size (q4 k q), fun k q q' => by have := k1.lt k q; have := q4 k q'; omega, k3.trans0 q2⟩
/-- The cells of a wait that lies in a block of its own, and a flag: what the drawn region reads. -/
theorem Tw.keep {w0 w w' : World} (p g o : Nat) (x : Wt) (f : Bool) (hf : Fr (fun k => w0.heap.size ≤ k ∧ k ≠ p) w w') (hg : g < w0.heap.size)
    (h : w.cell? ⟨p, 0, none⟩ = some (.int .i64 x.1) ∧ w.cell? ⟨p, 1, none⟩ = some (.int .i64 x.2.1) ∧ w.cell? ⟨p, 2, none⟩ = some (.int .i64 x.2.2) ∧ w.cell? ⟨g, o, none⟩ = some (.bool f)) :
    w'.cell? ⟨p, 0, none⟩ = some (.int .i64 x.1) ∧ w'.cell? ⟨p, 1, none⟩ = some (.int .i64 x.2.1) ∧ w'.cell? ⟨p, 2, none⟩ = some (.int .i64 x.2.2) ∧ w'.cell? ⟨g, o, none⟩ = some (.bool f) :=
  ⟨hf.cell (p := ⟨p, 0, none⟩) (fun q => q.2 rfl) h.1, hf.cell (p := ⟨p, 1, none⟩) (fun q => q.2 rfl) h.2.1, hf.cell (p := ⟨p, 2, none⟩) (fun q => q.2 rfl) h.2.2.1, hf.cell (p := ⟨g, o, none⟩) (fun q => by have := q.1; simp at this; omega) h.2.2.2⟩
/-- A wait at the first, beside a block that neither channel has. -/
theorem Tw.waitK {w0 w : World} {a b : Nat} {ca cb : ChS} {p : Nat} (hp : ∃ S T : Nat → Prop, ChanAt w S a ca ∧ ChanAt w T b cb ∧ (∀ k, S k → w0.heap.size ≤ k) ∧ (∀ k, T k → w0.heap.size ≤ k) ∧ (∀ k, S k → T k → False) ∧ ¬ S p ∧ ¬ T p ∧ p < w.heap.size ∧ Fr Nob w0 w) (x : Wt) (s : Bool) (r : Int) (ca' : ChS) (hr : ca.waitR x s = r) (hs : ca.waitS x s = ca') (hfew : ca.rv.length < 100000 ∧ ca.sd.length < 100000) :
    Calls Try.prog 14 #[.pointer (some ⟨a, 0, none⟩), wtVal x, .bool s] w fun e w' => e = .returned (.int .i64 r) ∧ Fr (fun k => w0.heap.size ≤ k ∧ k ≠ p) w w' ∧ ∃ S T : Nat → Prop, ChanAt w' S a ca' ∧ ChanAt w' T b cb ∧ (∀ k, S k → w0.heap.size ≤ k) ∧ (∀ k, T k → w0.heap.size ≤ k) ∧ (∀ k, S k → T k → False) ∧ ¬ S p ∧ ¬ T p ∧ p < w'.heap.size ∧ Fr Nob w0 w' := by
  obtain ⟨S, T, h1, h2, h3, h4, h5, h7, h8, h9, h6⟩ := hp
  refine (chan_wait h1 x s r hr hs hfew).mono ?_
  rintro e w' ⟨S', he, hf, hc, hsub⟩
  refine ⟨he, hf.mono fun k _ q => ⟨h3 k q, fun e => h7 (e ▸ q)⟩, S', T, hc, h2.fr hf fun k q q' => h5 k q' q, fun k q => ?_, h4, fun k q q' => ?_, fun q => ?_, h8, Nat.lt_of_lt_of_le h9 hf.size, h6.trans hf fun k hk q => by have := h3 k q; omega⟩
  · rcases hsub k q with q | q
    · exact h3 k q
    · exact Nat.le_trans h6.size q
  · rcases hsub k q with q | q
    · exact h5 k q q'
    · have := h2.lt k q'; omega
  · rcases hsub p q with q | q
    · exact h7 q
    · omega
def tw (rv sd : List Wt) : ChS := ⟨0, [], rv, sd, false, false, false⟩
def T5 (l : List Wt) : Prop := ∀ x ∈ l, x.1 = 5
def Fst (f : Int) (l : List Wt) : Prop := (f = -1 ∧ l = []) ∨ (0 ≤ f ∧ ∃ r, l = (5, f, 0 + f) :: r)
theorem T5.any {l : List Wt} (h : T5 l) : (l.any fun y => y.1 != 5) = false := by
  rw [List.any_eq_false]; intro y hy; simp [h y hy]
theorem T5.snoc {l : List Wt} (h : T5 l) (i : Int) : T5 (l ++ [(5, i, i)]) := fun x hx => by
  rcases List.mem_append.1 hx with hx | hx
  · exact h x hx
  · simp at hx; subst hx; rfl
theorem tw_waitT (rv sd : List Wt) (i : Int) (h : T5 rv) : (tw rv sd).waitR (5, i, i) true = 0 ∧ (tw rv sd).waitS (5, i, i) true = tw rv (sd ++ [(5, i, i)]) := by
  have hr : (tw rv sd).waitR (5, i, i) true = 0 := by
    have := h.any
    unfold ChS.waitR
    simp only [show (tw rv sd).queue (!true) = rv from rfl]
    rw [this]; rfl
  exact ⟨hr, by unfold ChS.waitS; rw [hr, if_pos rfl]; rfl⟩
theorem tw_waitF (rv sd : List Wt) (i : Int) (h : T5 sd) : (tw rv sd).waitR (5, i, i) false = 0 ∧ (tw rv sd).waitS (5, i, i) false = tw (rv ++ [(5, i, i)]) sd := by
  have hr : (tw rv sd).waitR (5, i, i) false = 0 := by
    have := h.any
    unfold ChS.waitR
    simp only [show (tw rv sd).queue (!false) = sd from rfl]
    rw [this]; rfl
  exact ⟨hr, by unfold ChS.waitS; rw [hr, if_pos rfl]; rfl⟩
theorem tw_wait6 (sd : List Wt) : (tw [] sd).waitR (6, 1, 0) true = 0 ∧ (tw [] sd).waitS (6, 1, 0) true = tw [] (sd ++ [(6, 1, 0)]) := ⟨rfl, rfl⟩
theorem tw_wait6' (x : Wt) (rv sd : List Wt) (h : T5 (x :: rv)) : (tw (x :: rv) sd).waitR (6, 1, 0) true = 1 ∧ (tw (x :: rv) sd).waitS (6, 1, 0) true = tw (x :: rv) sd := by
  have hx := h x (List.mem_cons_self ..)
  have hr : (tw (x :: rv) sd).waitR (6, 1, 0) true = 1 := by
    unfold ChS.waitR
    simp only [show (tw (x :: rv) sd).queue (!true) = x :: rv from rfl, List.any_cons, hx]
    rfl
  exact ⟨hr, by unfold ChS.waitS; rw [hr]; rfl⟩
theorem T5.notT {l : List Wt} (h : T5 l) : notT l 5 = [] := by
  unfold Proofs.Ytfpcnagimjmkpaa.notT
  rw [List.filter_eq_nil_iff]; intro y hy; simp [h y hy]
theorem tw_rem (rv sd : List Wt) (h1 : T5 rv) (h2 : T5 sd) : (tw rv sd).removeR 5 = rv.length + sd.length ∧ (tw rv sd).removeS 5 = tw [] [] := by
  unfold ChS.removeR ChS.removeS
  simp only [show (tw rv sd).rv = rv from rfl, show (tw rv sd).sd = sd from rfl, h1.notT, h2.notT]
  exact ⟨by simp, rfl⟩
theorem once_same (pn : Bool) : ∀ (l : List Wt) (acc : List Wk), (∀ x ∈ l, (acc.any fun y => y.1 == x.1) = true) → onceW pn acc l = acc
  | [], acc, _ => rfl
  | x :: l, acc, h => by
    unfold onceW
    rw [h x (List.mem_cons_self ..), if_pos rfl]
    exact once_same pn l acc fun y hy => h y (List.mem_cons_of_mem _ hy)
theorem once_append (pn : Bool) : ∀ (l m : List Wt) (acc : List Wk), onceW pn acc (l ++ m) = onceW pn (onceW pn acc l) m
  | [], m, acc => rfl
  | x :: l, m, acc => by
    simp only [List.cons_append, onceW]
    exact once_append pn l m _
theorem once_five (pn : Bool) (f : Int) (r : List Wt) (v : Int) (h : T5 ((5, f, v) :: r)) : onceW pn [] ((5, f, v) :: r) = [(5, f, 0, false, pn)] := by
  unfold onceW
  rw [show (([] : List Wk).any fun y => y.1 == (5, f, v).1) = false from rfl, if_neg (by simp)]
  refine once_same pn r _ fun x hx => ?_
  have := h x (List.mem_cons_of_mem _ hx)
  simp [this]
theorem tw_close1 (f v : Int) (r sd : List Wt) (h1 : T5 ((5, f, v) :: r)) (h2 : T5 sd) : (tw ((5, f, v) :: r) sd).closeR = ([(5, f, 0, false, false)], 0) := by
  have : (tw ((5, f, v) :: r) sd).ends = [(5, f, 0, false, false)] := by
    unfold ChS.ends
    simp only [show (tw ((5, f, v) :: r) sd).rv = (5, f, v) :: r from rfl, show (tw ((5, f, v) :: r) sd).sd = sd from rfl]
    rw [once_five false f r v h1]
    exact once_same true sd _ fun x hx => by have := h2 x hx; simp [this]
  unfold ChS.closeR; rw [this]; rfl
theorem tw_close2 (f v : Int) (r : List Wt) (h1 : T5 ((5, f, v) :: r)) : (tw [] ((5, f, v) :: r)).closeR = ([(5, f, 0, false, true)], 0) := by
  have : (tw [] ((5, f, v) :: r)).ends = [(5, f, 0, false, true)] := by
    unfold ChS.ends
    simp only [show (tw [] ((5, f, v) :: r)).rv = [] from rfl, show (tw [] ((5, f, v) :: r)).sd = (5, f, v) :: r from rfl]
    rw [show onceW false [] [] = [] from rfl, once_five true f r v h1]
  unfold ChS.closeR; rw [this]; rfl
theorem tw_close3 (f v : Int) (r : List Wt) (h1 : T5 ((5, f, v) :: r)) : (tw [] (((5, f, v) :: r) ++ [(6, 1, 0)])).closeR = ([(5, f, 0, false, true), (6, 1, 0, false, true)], 0) := by
  have : (tw [] (((5, f, v) :: r) ++ [(6, 1, 0)])).ends = [(5, f, 0, false, true), (6, 1, 0, false, true)] := by
    unfold ChS.ends
    simp only [show (tw [] (((5, f, v) :: r) ++ [(6, 1, 0)])).rv = [] from rfl, show (tw [] (((5, f, v) :: r) ++ [(6, 1, 0)])).sd = ((5, f, v) :: r) ++ [(6, 1, 0)] from rfl]
    rw [show onceW false [] [] = [] from rfl, once_append, once_five true f r v h1]; rfl
  unfold ChS.closeR; rw [this]; rfl
theorem Fst.snoc {f : Int} {l : List Wt} (h : Fst f l) (hf : 0 ≤ f) (i : Int) : Fst f (l ++ [(5, i, i)]) := by
  rcases h with ⟨h, _⟩ | ⟨h, r, e⟩
  · omega
  · exact .inr ⟨h, r ++ [(5, i, i)], by rw [e]; rfl⟩
theorem Fst.first {f : Int} {l : List Wt} (h : Fst f l) (hf : f < 0) (i : Int) (hi : 0 ≤ i) : Fst i (l ++ [(5, i, i)]) := by
  rcases h with ⟨_, e⟩ | ⟨h, _⟩
  · exact .inr ⟨hi, [], by rw [e]; simp⟩
  · omega
theorem Tw.swapK {w0 w : World} {a b p : Nat} {ca cb : ChS} (h : ∃ S T : Nat → Prop, ChanAt w S a ca ∧ ChanAt w T b cb ∧ (∀ k, S k → w0.heap.size ≤ k) ∧ (∀ k, T k → w0.heap.size ≤ k) ∧ (∀ k, S k → T k → False) ∧ ¬ S p ∧ ¬ T p ∧ p < w.heap.size ∧ Fr Nob w0 w) : ∃ S T : Nat → Prop, ChanAt w S b cb ∧ ChanAt w T a ca ∧ (∀ k, S k → w0.heap.size ≤ k) ∧ (∀ k, T k → w0.heap.size ≤ k) ∧ (∀ k, S k → T k → False) ∧ ¬ S p ∧ ¬ T p ∧ p < w.heap.size ∧ Fr Nob w0 w := by
  obtain ⟨S, T, q1, q2, q3, q4, q5, q7, q8, q9, q6⟩ := h
  exact ⟨T, S, q2, q1, q4, q3, fun k u v => q5 k v u, q8, q7, q9, q6⟩
theorem rd_wk0 {w : World} {A : Option Addr} {cp : Nat} {k k2 : Wk} (h : Rd w 5 (.slice A 2 cp) 2 (wks [k, k2])) : ∃ g o, A = some ⟨g, o, none⟩ ∧ 2 ≤ cp ∧ WkAt w g o k := by
  obtain ⟨g, o, h1, h2, h3⟩ := rd_wk h 0 k (by omega) rfl
  exact ⟨g, o, h1, h2, by simpa using h3⟩
set_option maxHeartbeats 20000000 in
theorem twice_main (w : World) (v1 : Value) (l : List Bool) (n N : Nat) (ot : Bool) (hN : l.length = N) (h1 : 1 ≤ n) (h2 : n ≤ 10) (h3 : n ≤ N) (h4 : N ≤ 20) (hrd : Rd w 1 v1 N (l.map Value.bool)) :
    Calls Try.prog 6 #[.int .i64 n, v1, .bool ot] w fun e w' => e = .returned (.bool true) ∧ Fr Nob w w' := by
  obtain ⟨_, _, A, c, rfl, hc1, hc2, hA⟩ := hrd
  have Haw := Lib.hid (fun W => awake9 W)
  have Hnew := Lib.hid (fun W => chan_new W 0 (by omega))
  have HA := Lib.hid hA; have HN := Lib.hid hN
  clear hA hN
  have d1 : decide ((n : Int) < 1) = false := decide_eq_false (by omega)
  have d1' : decide (n < 1) = false := decide_eq_false (by omega)
  have d2 : decide ((10 : Int) < n) = false := decide_eq_false (by omega)
  have d2' : decide (10 < n) = false := decide_eq_false (by omega)
  have d3 : decide ((N : Int) < n) = false := decide_eq_false (by omega)
  have d3' : decide (N < n) = false := decide_eq_false (by omega)
  have d4 : decide ((20 : Int) < N) = false := decide_eq_false (by omega)
  have d4' : decide (20 < N) = false := decide_eq_false (by omega)
  go_enter Try.func6, Try.ntmps6
  go_wp2_with fail
  refine (Hnew.out _).mono ?_
  intro e w1 hnew
  obtain ⟨a, rfl, hone⟩ := One.ofNew hnew
  have Hone := Lib.hid hone
  clear hnew hone
  go_wp2_with fail
  refine (Hnew.out _).mono ?_
  intro e w2 hnew
  obtain ⟨b, rfl, htw⟩ := Tw.mk2 Hone.out hnew
  have HT0 : Hid (Tw w w2 a (tw [] []) b (tw [] [])) := Lib.hid htw
  clear hnew htw Hone
  go_wp2_with fail
  go_loopw [11, 12, 13] (fun v11 v12 v13 wr => ∃ (i : Nat) (fs fr : Int) (rv sd : List Wt), v11 = .int .i64 fs ∧ v12 = .int .i64 fr ∧ v13 = .int .i64 i ∧ i ≤ n ∧ Hid (T5 rv ∧ T5 sd ∧ rv.length + sd.length = i ∧ Fst fs sd ∧ Fst fr rv) ∧ Hid (Tw w wr a (tw rv sd) b (tw rv sd))) (fun _ _ v13 _ => n - (intOf v13).toNat)
  case atStart => exact ⟨0, -1, -1, [], [], rfl, rfl, rfl, Nat.zero_le _, Lib.hid ⟨fun x hx => by simp at hx, fun x hx => by simp at hx, rfl, .inl ⟨rfl, rfl⟩, .inl ⟨rfl, rfl⟩⟩, HT0⟩
  case round =>
    obtain ⟨i, fs, fr, rv, sd, rfl, rfl, rfl, hi, HI, H1⟩ := hrel
    clear HT0
    by_cases hlt : i < n
    · have l1 : decide ((i : Int) < n) = true := decide_eq_true (by omega)
      have l2 : decide (i < n) = true := decide_eq_true hlt
      have i0 : (0 : Int) ≤ i := by omega
      have iN : (i : Int) < N := by omega
      obtain ⟨x, hx⟩ : ∃ x, l[i]? = some x := ⟨_, List.getElem?_eq_getElem (by have := HN.out; omega)⟩
      obtain ⟨gA, oA, rfl, hgA, hcA⟩ := HA.out (by omega)
      have c0 := hcA i (.bool x) (by simp [hx])
      clear hcA hx
      obtain ⟨h5r, h5s, hlen, hfs, hfr⟩ := HI.out
      have Hr := Lib.hid h5r; have Hs := Lib.hid h5s; have Hlen := Lib.hid hlen; have Hfs := Lib.hid hfs; have Hfr := Lib.hid hfr
      have hr10 : rv.length ≤ 10 := by omega
      have hs10 : sd.length ≤ 10 := by omega
      clear h5r h5s hlen hfs hfr HI
      -- the block of the wait, and the flag
      obtain ⟨S, T, k1, k2, k3, k4, k5, k6⟩ := H1.out
      have hzz := k6.size
      have hP0 : ∃ S T : Nat → Prop, ChanAt (wr.alloc (.cells #[.int .i64 5, .int .i64 (i : Int), .int .i64 (i : Int)] 34)).drew S a (tw rv sd) ∧ ChanAt (wr.alloc (.cells #[.int .i64 5, .int .i64 (i : Int), .int .i64 (i : Int)] 34)).drew T b (tw rv sd) ∧ (∀ k, S k → w.heap.size ≤ k) ∧ (∀ k, T k → w.heap.size ≤ k) ∧ (∀ k, S k → T k → False) ∧ ¬ S wr.heap.size ∧ ¬ T wr.heap.size ∧ wr.heap.size < ((wr.alloc (.cells #[.int .i64 5, .int .i64 (i : Int), .int .i64 (i : Int)] 34)).drew).heap.size ∧ Fr Nob w (wr.alloc (.cells #[.int .i64 5, .int .i64 (i : Int), .int .i64 (i : Int)] 34)).drew :=
        ⟨S, T, k1.fr0 (((Fr.refl Nob wr).alloc _).drew), k2.fr0 (((Fr.refl Nob wr).alloc _).drew), k3, k4, k5, fun q => by have := k1.lt _ q; omega, fun q => by have := k2.lt _ q; omega, by show wr.heap.size < (wr.alloc _).heap.size; simp, (k6.alloc _).drew⟩
      have HP0 := Lib.hid hP0
      have cf := k6.cell (p := ⟨gA, oA + i, none⟩) id c0
      have hb0 := heap_alloc_new wr (.cells #[.int .i64 5, .int .i64 (i : Int), .int .i64 (i : Int)] 34)
      have hK0 : (wr.alloc (.cells #[.int .i64 5, .int .i64 (i : Int), .int .i64 (i : Int)] 34)).drew.cell? ⟨wr.heap.size, 0, none⟩ = some (.int .i64 5) ∧ (wr.alloc (.cells #[.int .i64 5, .int .i64 (i : Int), .int .i64 (i : Int)] 34)).drew.cell? ⟨wr.heap.size, 1, none⟩ = some (.int .i64 (i : Int)) ∧ (wr.alloc (.cells #[.int .i64 5, .int .i64 (i : Int), .int .i64 (i : Int)] 34)).drew.cell? ⟨wr.heap.size, 2, none⟩ = some (.int .i64 (i : Int)) ∧ (wr.alloc (.cells #[.int .i64 5, .int .i64 (i : Int), .int .i64 (i : Int)] 34)).drew.cell? ⟨gA, oA + i, none⟩ = some (.bool x) :=
        ⟨blk_cell hb0 0 rfl, blk_cell hb0 1 rfl, blk_cell hb0 2 rfl, (((Fr.refl Nob wr).alloc _).drew).cell (p := ⟨gA, oA + i, none⟩) id cf⟩
      have HK0 := Lib.hid hK0
      have hgw : gA < w.heap.size := hgA
      clear hP0 hb0 k1 k2 k3 k4 k5 k6 hzz H1 hK0
      cases x with
      | true =>
        have hw1 := Tw.waitK HP0.out (5, (i : Int), (i : Int)) true 0 _ (tw_waitT rv sd i Hr.out).1 (tw_waitT rv sd i Hr.out).2 ⟨by show rv.length < 100000; omega, by show sd.length < 100000; omega⟩
        have Hw1 := Lib.hid hw1
        have Hlem := Lib.hid (tw_waitT rv sd i Hr.out)
        clear hw1
        have hK0 := HK0.out
        go_wp2_with fail
        go_region_held3 (fun W => W.cell? ⟨wr.heap.size, 0, none⟩ = some (.int .i64 5) ∧ W.cell? ⟨wr.heap.size, 1, none⟩ = some (.int .i64 (i : Int)) ∧ W.cell? ⟨wr.heap.size, 2, none⟩ = some (.int .i64 (i : Int)) ∧ W.cell? ⟨gA, oA + i, none⟩ = some (.bool true))
          ((first | with_reducible exact hK3 | with_reducible exact hK2 | with_reducible exact hK0 | exact hK0))
          ((first | (go_at_call_of 14 (Value.pointer (some ⟨a, 0, none⟩)); refine Hw1.out.mono ?_; rintro e w3 ⟨rfl, hf3, hp3⟩; have hK2 := Tw.keep (w0 := w) wr.heap.size gA (oA + i) (5, (i : Int), (i : Int)) true hf3 hgw hK0; have HP3 := Lib.hid hp3; clear hp3 hf3) | (go_at_call_of 14 (Value.pointer (some ⟨b, 0, none⟩)); refine (Tw.waitK (Tw.swapK HP3.out) (5, (i : Int), (i : Int)) true 0 _ Hlem.out.1 Hlem.out.2 ⟨by show rv.length < 100000; omega, by show sd.length < 100000; omega⟩).mono ?_; rintro e w4 ⟨rfl, hf4, hp4⟩; have hK3 := Tw.keep (w0 := w) wr.heap.size gA (oA + i) (5, (i : Int), (i : Int)) true hf4 hgw hK2; have HP4 := Lib.hid hp4; clear hp4 hf4)))
        have HT : Hid (Tw w w4 a (tw rv (sd ++ [(5, (i : Int), (i : Int))])) b (tw rv (sd ++ [(5, (i : Int), (i : Int))]))) := Lib.hid (by obtain ⟨S, T, q1, q2, q3, q4, q5, _, _, _, q6⟩ := HP4.out; exact ⟨T, S, q2, q1, q4, q3, fun k u v => q5 k v u, q6⟩)
        have c9 := hK3.2.2.2
        have hlen2 : rv.length + (sd ++ [(5, (i : Int), (i : Int))]).length = i + 1 := by have := Hlen.out; simp; omega
        clear hK0 hK2 hK3 HP0 HP3 HP4 Hw1 Hlem HK0
        by_cases hf : fs < 0
        · have hd : decide (fs < 0) = true := decide_eq_true hf
          have HI2 : Hid (T5 rv ∧ T5 (sd ++ [(5, (i : Int), (i : Int))]) ∧ rv.length + (sd ++ [(5, (i : Int), (i : Int))]).length = i + 1 ∧ Fst (i : Int) (sd ++ [(5, (i : Int), (i : Int))]) ∧ Fst fr rv) := Lib.hid ⟨Hr.out, Hs.out.snoc _, hlen2, Hfs.out.first hf _ i0, Hfr.out⟩
          clear hf hlen2
          go_wp2_with fail
          first
          | (go_roundw
             case rel => exact ⟨i + 1, (i : Int), fr, _, _, rfl, rfl, by go_num, by omega, HI2, HT⟩
             case measure => (simp [intOf] <;> omega))
          | (refine ⟨?_, ?measure2⟩
             (repeat apply Exists.intro)
             refine ⟨?rel2, rfl⟩
             case rel2 => exact ⟨i + 1, (i : Int), fr, _, _, rfl, rfl, by go_num, by omega, HI2, HT⟩
             case measure2 => (simp [intOf] <;> omega))
        · have hd : decide (fs < 0) = false := decide_eq_false hf
          have HI2 : Hid (T5 rv ∧ T5 (sd ++ [(5, (i : Int), (i : Int))]) ∧ rv.length + (sd ++ [(5, (i : Int), (i : Int))]).length = i + 1 ∧ Fst fs (sd ++ [(5, (i : Int), (i : Int))]) ∧ Fst fr rv) := Lib.hid ⟨Hr.out, Hs.out.snoc _, hlen2, Hfs.out.snoc (by omega) _, Hfr.out⟩
          clear hf hlen2
          go_wp2_with fail
          first
          | (go_roundw
             case rel => exact ⟨i + 1, fs, fr, _, _, rfl, rfl, by go_num, by omega, HI2, HT⟩
             case measure => (simp [intOf] <;> omega))
          | (refine ⟨?_, ?measure2⟩
             (repeat apply Exists.intro)
             refine ⟨?rel2, rfl⟩
             case rel2 => exact ⟨i + 1, fs, fr, _, _, rfl, rfl, by go_num, by omega, HI2, HT⟩
             case measure2 => (simp [intOf] <;> omega))
      | false =>
        have hw1 := Tw.waitK HP0.out (5, (i : Int), (i : Int)) false 0 _ (tw_waitF rv sd i Hs.out).1 (tw_waitF rv sd i Hs.out).2 ⟨by show rv.length < 100000; omega, by show sd.length < 100000; omega⟩
        have Hw1 := Lib.hid hw1
        have Hlem := Lib.hid (tw_waitF rv sd i Hs.out)
        clear hw1
        have hK0 := HK0.out
        go_wp2_with fail
        go_region_held3 (fun W => W.cell? ⟨wr.heap.size, 0, none⟩ = some (.int .i64 5) ∧ W.cell? ⟨wr.heap.size, 1, none⟩ = some (.int .i64 (i : Int)) ∧ W.cell? ⟨wr.heap.size, 2, none⟩ = some (.int .i64 (i : Int)) ∧ W.cell? ⟨gA, oA + i, none⟩ = some (.bool false))
          ((first | with_reducible exact hK3 | with_reducible exact hK2 | with_reducible exact hK0 | exact hK0))
          ((first | (go_at_call_of 14 (Value.pointer (some ⟨a, 0, none⟩)); refine Hw1.out.mono ?_; rintro e w3 ⟨rfl, hf3, hp3⟩; have hK2 := Tw.keep (w0 := w) wr.heap.size gA (oA + i) (5, (i : Int), (i : Int)) false hf3 hgw hK0; have HP3 := Lib.hid hp3; clear hp3 hf3) | (go_at_call_of 14 (Value.pointer (some ⟨b, 0, none⟩)); refine (Tw.waitK (Tw.swapK HP3.out) (5, (i : Int), (i : Int)) false 0 _ Hlem.out.1 Hlem.out.2 ⟨by show rv.length < 100000; omega, by show sd.length < 100000; omega⟩).mono ?_; rintro e w4 ⟨rfl, hf4, hp4⟩; have hK3 := Tw.keep (w0 := w) wr.heap.size gA (oA + i) (5, (i : Int), (i : Int)) false hf4 hgw hK2; have HP4 := Lib.hid hp4; clear hp4 hf4)))
        have HT : Hid (Tw w w4 a (tw (rv ++ [(5, (i : Int), (i : Int))]) sd) b (tw (rv ++ [(5, (i : Int), (i : Int))]) sd)) := Lib.hid (by obtain ⟨S, T, q1, q2, q3, q4, q5, _, _, _, q6⟩ := HP4.out; exact ⟨T, S, q2, q1, q4, q3, fun k u v => q5 k v u, q6⟩)
        have c9 := hK3.2.2.2
        have hlen2 : (rv ++ [(5, (i : Int), (i : Int))]).length + sd.length = i + 1 := by have := Hlen.out; simp; omega
        clear hK0 hK2 hK3 HP0 HP3 HP4 Hw1 Hlem HK0
        by_cases hf : fr < 0
        · have hd : decide (fr < 0) = true := decide_eq_true hf
          have HI2 : Hid (T5 (rv ++ [(5, (i : Int), (i : Int))]) ∧ T5 sd ∧ (rv ++ [(5, (i : Int), (i : Int))]).length + sd.length = i + 1 ∧ Fst fs sd ∧ Fst (i : Int) (rv ++ [(5, (i : Int), (i : Int))])) := Lib.hid ⟨Hr.out.snoc _, Hs.out, hlen2, Hfs.out, Hfr.out.first hf _ i0⟩
          clear hf hlen2
          go_wp2_with fail
          first
          | (go_roundw
             case rel => exact ⟨i + 1, fs, (i : Int), _, _, rfl, rfl, by go_num, by omega, HI2, HT⟩
             case measure => (simp [intOf] <;> omega))
          | (refine ⟨?_, ?measure2⟩
             (repeat apply Exists.intro)
             refine ⟨?rel2, rfl⟩
             case rel2 => exact ⟨i + 1, fs, (i : Int), _, _, rfl, rfl, by go_num, by omega, HI2, HT⟩
             case measure2 => (simp [intOf] <;> omega))
        · have hd : decide (fr < 0) = false := decide_eq_false hf
          have HI2 : Hid (T5 (rv ++ [(5, (i : Int), (i : Int))]) ∧ T5 sd ∧ (rv ++ [(5, (i : Int), (i : Int))]).length + sd.length = i + 1 ∧ Fst fs sd ∧ Fst fr (rv ++ [(5, (i : Int), (i : Int))])) := Lib.hid ⟨Hr.out.snoc _, Hs.out, hlen2, Hfs.out, Hfr.out.snoc (by omega) _⟩
          clear hf hlen2
          go_wp2_with fail
          first
          | (go_roundw
             case rel => exact ⟨i + 1, fs, fr, _, _, rfl, rfl, by go_num, by omega, HI2, HT⟩
             case measure => (simp [intOf] <;> omega))
          | (refine ⟨?_, ?measure2⟩
             (repeat apply Exists.intro)
             refine ⟨?rel2, rfl⟩
             case rel2 => exact ⟨i + 1, fs, fr, _, _, rfl, rfl, by go_num, by omega, HI2, HT⟩
             case measure2 => (simp [intOf] <;> omega))
    · have hin : i = n := by omega
      subst hin
      have l1 : decide ((i : Int) < i) = false := decide_eq_false (by omega)
      obtain ⟨wa, rfl⟩ : ∃ wa : World, wa = wr := ⟨_, rfl⟩
      have hl0 : 1 ≤ i := h1
      obtain ⟨h5r, h5s, hlen, hfs, hfr⟩ := HI.out
      clear HI
      rcases hfr with ⟨rfl, rfl⟩ | ⟨hfr0, r, rfl⟩
      · rcases hfs with ⟨rfl, rfl⟩ | ⟨hfs0, r, rfl⟩
        · simp at hlen; omega
        · simp only [List.length_nil, Nat.zero_add] at hlen
          cases ot with
          | true =>
            have Hw := Lib.hid (H1.out.wait (6, 1, 0) true 0 _ (tw_wait6 ((5, fs, 0 + fs) :: r)).1 (tw_wait6 ((5, fs, 0 + fs) :: r)).2 ⟨by show ([] : List Wt).length < 100000; simp, by show ((5, fs, 0 + fs) :: r).length < 100000; omega⟩)
            have Hrem := Lib.hid (show (tw [] ((5, fs, 0 + fs) :: r)).removeR 5 = i ∧ (tw [] ((5, fs, 0 + fs) :: r)).removeS 5 = tw [] [] from ⟨(tw_rem [] ((5, fs, 0 + fs) :: r) h5r h5s).1.trans (by simpa using hlen), (tw_rem [] ((5, fs, 0 + fs) :: r) h5r h5s).2⟩)
            have Hcl := Lib.hid (tw_close3 fs (0 + fs) r h5s)
            clear h5r h5s hlen
            go_wp2_with fail
            refine Hw.out.mono ?_
            rintro e wb ⟨rfl, htw, _⟩
            have Q1 := Lib.hid (htw.swap.remove 5 _ _ Hrem.out.1 Hrem.out.2)
            clear htw Hw H1
            go_wp2_with fail
            refine Q1.out.mono ?_
            rintro e wc ⟨rfl, htw⟩
            have Q2 := Lib.hid (htw.remove 5 0 (tw [] []) rfl rfl)
            clear htw
            have hii : ((i : Int) == (i : Int)) = true := beq_self_eq_true _
            go_wp2_with fail
            refine Q2.out.mono ?_
            rintro e wd ⟨rfl, htw⟩
            have Q3 := Lib.hid (htw.swap.one.close _ 2 0 _ Hcl.out rfl rfl)
            clear htw Q2 Hcl
            go_wp2_with fail
            refine Q3.out.mono ?_
            rintro e we ⟨A9, cp9, rfl, hone, hrd⟩
            obtain ⟨g, o, rfl, hcp, hk⟩ := rd_wk0 hrd
            obtain ⟨e0, e1, e2, e3, e4⟩ := hk
            dsimp only at e0 e1 e2 e3 e4
            have H5 := Lib.hid hone
            clear hone hrd Q3
            go_wp2_with fail
            refine (Haw.out _).mono ?_
            rintro e wf ⟨rfl, hf3⟩
            have F3 := Lib.hid (H5.out.fr.trans0 hf3)
            clear hf3
            go_wp2_with fail
            go_ret
            exact ⟨rfl, F3.out⟩
          | false =>
            have Hrem := Lib.hid (show (tw [] ((5, fs, 0 + fs) :: r)).removeR 5 = i ∧ (tw [] ((5, fs, 0 + fs) :: r)).removeS 5 = tw [] [] from ⟨(tw_rem [] ((5, fs, 0 + fs) :: r) h5r h5s).1.trans (by simpa using hlen), (tw_rem [] ((5, fs, 0 + fs) :: r) h5r h5s).2⟩)
            have Hcl := Lib.hid (tw_close2 fs (0 + fs) r h5s)
            clear h5r h5s hlen
            go_wp2_with fail
            refine (H1.out.swap.remove 5 _ _ Hrem.out.1 Hrem.out.2).mono ?_
            rintro e wc ⟨rfl, htw⟩
            have Q2 := Lib.hid (htw.remove 5 0 (tw [] []) rfl rfl)
            clear htw
            have hii : ((i : Int) == (i : Int)) = true := beq_self_eq_true _
            go_wp2_with fail
            refine Q2.out.mono ?_
            rintro e wd ⟨rfl, htw⟩
            have Q3 := Lib.hid (htw.swap.one.close _ 1 0 _ Hcl.out rfl rfl)
            clear htw Q2 Hcl
            go_wp2_with fail
            refine Q3.out.mono ?_
            rintro e we ⟨A9, cp9, rfl, hone, hrd⟩
            obtain ⟨g, o, rfl, hcp, hk⟩ := rd_one hrd
            obtain ⟨e0, e1, e2, e3, e4⟩ := hk
            dsimp only at e0 e1 e2 e3 e4
            have H5 := Lib.hid hone
            clear hone hrd Q3
            go_wp2_with fail
            refine (Haw.out _).mono ?_
            rintro e wf ⟨rfl, hf3⟩
            have F3 := Lib.hid (H5.out.fr.trans0 hf3)
            clear hf3
            go_wp2_with fail
            go_ret
            exact ⟨rfl, F3.out⟩
      · have q1 : decide (fr < 0) = false := decide_eq_false (by omega)
        have q2 : decide ((0 : Int) ≤ fr) = true := decide_eq_true hfr0
        have hlr : ((5, fr, 0 + fr) :: r).length ≤ 10 := by omega
        cases ot with
        | true =>
          have Hw := Lib.hid (H1.out.wait (6, 1, 0) true 1 _ (tw_wait6' (5, fr, 0 + fr) r sd h5r).1 (tw_wait6' (5, fr, 0 + fr) r sd h5r).2 ⟨by show ((5, fr, 0 + fr) :: r).length < 100000; omega, by show sd.length < 100000; omega⟩)
          have Hrem := Lib.hid (show (tw ((5, fr, 0 + fr) :: r) sd).removeR 5 = i ∧ (tw ((5, fr, 0 + fr) :: r) sd).removeS 5 = tw [] [] from ⟨(tw_rem ((5, fr, 0 + fr) :: r) sd h5r h5s).1.trans (by simpa using hlen), (tw_rem ((5, fr, 0 + fr) :: r) sd h5r h5s).2⟩)
          have Hcl := Lib.hid (tw_close1 fr (0 + fr) r sd h5r h5s)
          clear h5r h5s hlen
          go_wp2_with fail
          refine Hw.out.mono ?_
          rintro e wb ⟨rfl, htw, _⟩
          have Q1 := Lib.hid (htw.swap.remove 5 _ _ Hrem.out.1 Hrem.out.2)
          clear htw Hw H1
          go_wp2_with fail
          refine Q1.out.mono ?_
          rintro e wc ⟨rfl, htw⟩
          have Q2 := Lib.hid (htw.remove 5 0 (tw [] []) rfl rfl)
          clear htw
          have hii : ((i : Int) == (i : Int)) = true := beq_self_eq_true _
          go_wp2_with fail
          refine Q2.out.mono ?_
          rintro e wd ⟨rfl, htw⟩
          have Q3 := Lib.hid (htw.swap.one.close _ 1 0 _ Hcl.out rfl rfl)
          clear htw Q2 Hcl
          go_wp2_with fail
          refine Q3.out.mono ?_
          rintro e we ⟨A9, cp9, rfl, hone, hrd⟩
          obtain ⟨g, o, rfl, hcp, hk⟩ := rd_one hrd
          obtain ⟨e0, e1, e2, e3, e4⟩ := hk
          dsimp only at e0 e1 e2 e3 e4
          have H5 := Lib.hid hone
          clear hone hrd Q3
          go_wp2_with fail
          refine (Haw.out _).mono ?_
          rintro e wf ⟨rfl, hf3⟩
          have F3 := Lib.hid (H5.out.fr.trans0 hf3)
          clear hf3
          go_wp2_with fail
          go_ret
          exact ⟨rfl, F3.out⟩
        | false =>
          have Hrem := Lib.hid (show (tw ((5, fr, 0 + fr) :: r) sd).removeR 5 = i ∧ (tw ((5, fr, 0 + fr) :: r) sd).removeS 5 = tw [] [] from ⟨(tw_rem ((5, fr, 0 + fr) :: r) sd h5r h5s).1.trans (by simpa using hlen), (tw_rem ((5, fr, 0 + fr) :: r) sd h5r h5s).2⟩)
          have Hcl := Lib.hid (tw_close1 fr (0 + fr) r sd h5r h5s)
          clear h5r h5s hlen
          go_wp2_with fail
          refine (H1.out.swap.remove 5 _ _ Hrem.out.1 Hrem.out.2).mono ?_
          rintro e wc ⟨rfl, htw⟩
          have Q2 := Lib.hid (htw.remove 5 0 (tw [] []) rfl rfl)
          clear htw
          have hii : ((i : Int) == (i : Int)) = true := beq_self_eq_true _
          go_wp2_with fail
          refine Q2.out.mono ?_
          rintro e wd ⟨rfl, htw⟩
          have Q3 := Lib.hid (htw.swap.one.close _ 1 0 _ Hcl.out rfl rfl)
          clear htw Q2 Hcl
          go_wp2_with fail
          refine Q3.out.mono ?_
          rintro e we ⟨A9, cp9, rfl, hone, hrd⟩
          obtain ⟨g, o, rfl, hcp, hk⟩ := rd_one hrd
          obtain ⟨e0, e1, e2, e3, e4⟩ := hk
          dsimp only at e0 e1 e2 e3 e4
          have H5 := Lib.hid hone
          clear hone hrd Q3
          go_wp2_with fail
          refine (Haw.out _).mono ?_
          rintro e wf ⟨rfl, hf3⟩
          have F3 := Lib.hid (H5.out.fr.trans0 hf3)
          clear hf3
          go_wp2_with fail
          go_ret
          exact ⟨rfl, F3.out⟩
theorem twice_badN (w : World) (a0 : Int) (v1 : Value) (ot : Bool) (h : a0 < 1 ∨ 10 < a0) :
    Calls Try.prog 6 #[.int .i64 a0, v1, .bool ot] w fun e w' => e = .returned (.bool true) ∧ Fr Nob w w' := by
  have Haw := Lib.hid (fun W => awake9 W)
  by_cases h0 : a0 < 1
  · have d0 : decide (a0 < 1) = true := decide_eq_true h0
    clear h h0
    go_enter Try.func6, Try.ntmps6
    go_wp2_with fail
    refine (Haw.out _).mono ?_
    rintro e w2 ⟨rfl, hf2⟩
    have F2 := Lib.hid (hf2)
    clear hf2
    go_wp2_with fail
    go_ret
    exact ⟨rfl, F2.out⟩
  · have d0 : decide (a0 < 1) = false := decide_eq_false h0
    have d1 : decide (10 < a0) = true := decide_eq_true (by omega)
    clear h h0
    go_enter Try.func6, Try.ntmps6
    go_wp2_with fail
    refine (Haw.out _).mono ?_
    rintro e w2 ⟨rfl, hf2⟩
    have F2 := Lib.hid (hf2)
    clear hf2
    go_wp2_with fail
    go_ret
    exact ⟨rfl, F2.out⟩
theorem twice_short (w : World) (v1 : Value) (l : List Bool) (n N : Nat) (ot : Bool) (hN : l.length = N) (h1 : 1 ≤ n) (h2 : n ≤ 10) (h3 : N < n) (hrd : Rd w 1 v1 N (l.map Value.bool)) :
    Calls Try.prog 6 #[.int .i64 n, v1, .bool ot] w fun e w' => e = .returned (.bool true) ∧ Fr Nob w w' := by
  obtain ⟨_, _, A, c, rfl, hc1, hc2, hA⟩ := hrd
  have Haw := Lib.hid (fun W => awake9 W)
  have d1 : decide ((n : Int) < 1) = false := decide_eq_false (by omega)
  have d1' : decide (n < 1) = false := decide_eq_false (by omega)
  have d2 : decide ((10 : Int) < n) = false := decide_eq_false (by omega)
  have d2' : decide (10 < n) = false := decide_eq_false (by omega)
  have d3 : decide ((N : Int) < n) = true := decide_eq_true (by omega)
  have d3' : decide (N < n) = true := decide_eq_true h3
  clear hA hN h3
  go_enter Try.func6, Try.ntmps6
  go_wp2_with fail
  refine (Haw.out _).mono ?_
  rintro e w2 ⟨rfl, hf2⟩
  have F2 := Lib.hid hf2
  clear hf2
  go_wp2_with fail
  go_ret
  exact ⟨rfl, F2.out⟩
theorem twice_long (w : World) (v1 : Value) (l : List Bool) (n N : Nat) (ot : Bool) (hN : l.length = N) (h1 : 1 ≤ n) (h2 : n ≤ 10) (h3 : n ≤ N ∧ 20 < N) (hrd : Rd w 1 v1 N (l.map Value.bool)) :
    Calls Try.prog 6 #[.int .i64 n, v1, .bool ot] w fun e w' => e = .returned (.bool true) ∧ Fr Nob w w' := by
  obtain ⟨_, _, A, c, rfl, hc1, hc2, hA⟩ := hrd
  have Haw := Lib.hid (fun W => awake9 W)
  have d1 : decide ((n : Int) < 1) = false := decide_eq_false (by omega)
  have d1' : decide (n < 1) = false := decide_eq_false (by omega)
  have d2 : decide ((10 : Int) < n) = false := decide_eq_false (by omega)
  have d2' : decide (10 < n) = false := decide_eq_false (by omega)
  have d3 : decide ((N : Int) < n) = false := decide_eq_false (by omega)
  have d3' : decide (N < n) = false := decide_eq_false (by omega)
  have d4 : decide ((20 : Int) < N) = true := decide_eq_true (by omega)
  have d4' : decide (20 < N) = true := decide_eq_true h3.2
  clear hA hN h3
  go_enter Try.func6, Try.ntmps6
  go_wp2_with fail
  refine (Haw.out _).mono ?_
  rintro e w2 ⟨rfl, hf2⟩
  have F2 := Lib.hid hf2
  clear hf2
  go_wp2_with fail
  go_ret
  exact ⟨rfl, F2.out⟩
theorem chanTwice_walk (a0 : Int) (v1 : Value) (l : List Bool) (a2 : Bool) (w : World) (w0 : (Lit.int .i64 a0).wf = true) (h1 : IsBools w v1 l) :
    Calls Try.prog 6 #[.int .i64 a0, v1, .bool a2] w fun e w' => e = .returned (.bool true) ∧ Below w.heap.size w w' := by
  have key : Calls Try.prog 6 #[.int .i64 a0, v1, .bool a2] w fun e w' => e = .returned (.bool true) ∧ Fr Nob w w' := by
    by_cases h : a0 < 1 ∨ 10 < a0
    · exact twice_badN w a0 v1 a2 h
    · obtain ⟨x, rfl⟩ : ∃ n : Nat, a0 = n := ⟨a0.toNat, by omega⟩
      by_cases h3 : l.length < x
      · exact twice_short w v1 l x _ a2 rfl (by omega) (by omega) h3 h1
      · by_cases h4 : 20 < l.length
        · exact twice_long w v1 l x _ a2 rfl (by omega) (by omega) ⟨by omega, h4⟩ h1
        · exact twice_main w v1 l x _ a2 rfl (by omega) (by omega) (by omega) (by omega) h1
  exact key.mono fun e w' ⟨h1, h2⟩ => ⟨h1, h2.below (Nat.le_refl _) fun _ q => q.elim⟩

/-! The row: out of the walk above. -/
namespace chanTwice
open Go.ChangeShapes Go.WideShapes Go.ChangeAt Go.RowKit
open Go.ChangeMaps (open_string shut_string)
theorem own : ownKnob Try.prog.godebug = none := by kernel_rfl
theorem laidOut : laidOutB Try.prog = true := by kernel_rfl
set_option maxRecDepth 100000 in
theorem lifted (os : Os) (started : os.Started) (H : Type) (enc : TypeId × Value → H) :
    ReturnsInHanded {} Try.checked os 6 .any (Rows.chanTwiceSpec.pre6 enc Try.prog Try.f6 Rows.chanTwiceRow.domain false) (Rows.chanTwiceSpec.post enc Try.prog Try.f6 false true false false) := by
  refine returnsInHanded_of_change (C := Try.checked) own started (by kernel_rfl) Try.func6
    (ChangeSpec.witness6 (enc := enc) (C := Try.checked) false ⟨#[], #[.int .i64 0, .slice none 0 0, .bool false], []⟩ 8 (by kernel_rfl) (by kernel_rfl) (by kernel_rfl) (by kernel_rfl)) ?_
  intro W base args ds gs before hval0 hW hcnd _
  have hval : ∀ (j : Nat) t v, Try.f6.params[j]? = some t → args[j]? = some v → Value.okWide Try.prog W .any base t v := hval0
  have hW' := hW
  obtain ⟨p, q, hA0, hV, rfl, hfz, hnd⟩ := hW
  have hA : DataW.TrodAll enc Try.prog W 0 (fun _ => true) true Try.f6.params.toList args.toList ds p := hA0
  rw [Try.params6] at hA hval
  obtain ⟨v0, vs0, d0, ds0, p0, q0, hargs, rfl, rfl, h0, r0⟩ := trodAll_cons hA
  obtain ⟨v1, vs1, d1, ds1, p1, q1, rfl, rfl, rfl, h1, r1⟩ := trodAll_cons r0
  obtain ⟨v2, vs2, d2, ds2, p2, q2, rfl, rfl, rfl, h2, r2⟩ := trodAll_cons r1
  obtain ⟨rfl, rfl, rfl⟩ := trodAll_nil r2
  obtain rfl : args = #[v0, v1, v2] := by cases args; simp_all
  obtain ⟨rfl, rfl⟩ := trodVars_none hV
  obtain ⟨a0, rfl, rfl, rfl, w0⟩ := open_int Try.underlying3 (hval 0 3 v0 rfl rfl) h0
  have k1 := h1
  have lt1 : ∀ x ∈ p1, x.block < W.heap.size := by obtain ⟨m, hm⟩ := k1; exact DataW.trod_lt m _ _ _ hm
  obtain ⟨x1, g1⟩ := opn_bools (hval 1 22 v1 rfl rfl) h1
  obtain ⟨a2, rfl, rfl, rfl⟩ := open_bool Try.underlying4 (hval 2 4 v2 rfl rfl) h2
  clear hA0 hval0
  refine (chanTwice_walk a0 v1 x1 a2 W w0 g1).mono fun e W' ⟨he, bel⟩ => ?_
  subst he
  exact ⟨_, rfl, _, _, _, [], _, [], hW', trodAll_mk1 (shut_bool Try.underlying4 _), (trodAll_cons_mk (shut_int Try.underlying3 w0) (trodAll_cons_mk (Below.trod laidOut (by kernel_rfl) (of_decide_eq_true (by kernel_rfl)) k1 bel lt1) (trodAll_cons_mk (shut_bool Try.underlying4 _) trodAll_mk0))), rfl, bel.frame _, fun h => by cases h⟩
theorem over : Rows.chanTwiceRow.holds Try.pinned (OpenSpec.ofChange Rows.chanTwiceSpec) :=
  OpenClaim.holds_of_wide 6 Try.f6 rfl rfl rfl rfl rfl rfl rfl ⟨rfl, rfl, rfl, rfl, rfl⟩ rfl rfl rfl rfl rfl (by kernel_rfl) Try.func6 (by kernel_rfl)
    (of_decide_eq_true (by kernel_rfl)) (by unfold Func.isWrapper; first | (rw [if_pos (by decide +kernel)]; kernel_rfl) | (rw [if_neg (by decide +kernel)]; exact ⟨rfl, rfl⟩))
    (fun os started H enc _ => lifted os started H enc)
end chanTwice
/-- THE STATEMENT. -/
theorem chanTwice_holds : Rows.ChanTwiceSaid := chanTwice.over
#print axioms chanTwice_holds
end Go.Proofs.Ytfpcnagimjmkpaa
