/- Who is closed on hears of it: all who wait, each once, receivers with nothing, senders with a panic; what it has can still be received, for all that the statement draws. -/
import Derived.Test.YtfpcnagimjmkpaaChanPl
set_option linter.unusedVariables false
set_option linter.unusedSimpArgs false
namespace Go.Proofs.Ytfpcnagimjmkpaa
open Go.RowKit
set_option maxRecDepth 100000
abbrev clW (k : Nat) : Wt := ((k : Int), (k : Int).tmod 3, (90 : Int) + (k : Int))
abbrev clV (k : Nat) : Int := (50 : Int) + (k : Int)
/-- v values, and m who wait: of the senders or of the receivers. -/
def clC (s : Bool) (size v m : Nat) : ChS := ⟨size, (List.range v).map clV, if s then [] else (List.range m).map clW, if s then (List.range m).map clW else [], false, false, false⟩
def clZ (size v i : Nat) : ChS := ⟨size, ((List.range v).drop i).map clV, [], [], false, false, true⟩
theorem cl_sendR (s : Bool) (size v : Nat) (h : v < size) : (clC s size v 0).sendR (clV v) = (true, [], 0) := by cases s <;> simp [ChS.sendR, ChS.mute, clC, h]
theorem cl_sendS (s : Bool) (size v : Nat) (h : v < size) : (clC s size v 0).sendS (clV v) = clC s size (v + 1) 0 := by cases s <;> simp [ChS.sendS, ChS.mute, clC, h, List.range_succ]
theorem cl_waitR (s : Bool) (size v m : Nat) (h : if s then v = size else v = 0) : (clC s size v m).waitR (clW m) s = 0 := by
  cases s
  · simp at h; subst h; simp [ChS.waitR, ChS.mute, ChS.free, ChS.queue, clC]
  · simp at h; subst h; simp [ChS.waitR, ChS.mute, ChS.free, ChS.queue, clC]
theorem cl_waitS (s : Bool) (size v m : Nat) (h : if s then v = size else v = 0) : (clC s size v m).waitS (clW m) s = clC s size v (m + 1) := by
  unfold ChS.waitS; rw [cl_waitR s size v m h, if_pos rfl]; cases s <;> simp [clC, List.range_succ]
abbrev clK (s : Bool) (k : Nat) : Wk := ((k : Int), (k : Int).tmod 3, 0, false, s)
theorem cl_ends (s : Bool) (size v m : Nat) : (clC s size v m).ends = (List.range m).map (clK s) := by
  unfold ChS.ends
  cases s
  · rw [show (clC false size v m).rv = (List.range m).map clW from rfl, show (clC false size v m).sd = [] from rfl, onceW_nodup false _ [] (range_nodup m (fun k => ((k : Int).tmod 3, (90 : Int) + (k : Int)))) (fun _ _ _ h => by simp at h)]
    simp [onceW, wakeOf, clW, clK]
  · rw [show (clC true size v m).sd = (List.range m).map clW from rfl, show (clC true size v m).rv = [] from rfl]
    rw [show onceW false [] [] = [] from rfl, onceW_nodup true _ [] (range_nodup m (fun k => ((k : Int).tmod 3, (90 : Int) + (k : Int)))) (fun _ _ _ h => by simp at h)]
    simp [wakeOf, clW, clK]
theorem cl_closeR (s : Bool) (size v m : Nat) : (clC s size v m).closeR = ((List.range m).map (clK s), 0) := by
  unfold ChS.closeR; rw [cl_ends]; cases s <;> simp [ChS.mute, clC]
theorem cl_closeS (s : Bool) (size v m : Nat) : (clC s size v m).closeS = clZ size v 0 := by
  unfold ChS.closeS; cases s <;> simp [ChS.mute, clC, ChS.shut, clZ]
theorem cl_closeR2 (size v i : Nat) : (clZ size v i).closeR = ([], 5) := by simp [ChS.closeR, ChS.mute, clZ]
theorem cl_closeS2 (size v i : Nat) : (clZ size v i).closeS = clZ size v i := by simp [ChS.closeS, ChS.mute, clZ]
theorem cl_drop (n i : Nat) (h : i < n) : (List.range n).drop i = i :: (List.range n).drop (i + 1) := by
  rw [List.drop_eq_getElem_cons (by simpa using h)]; simp
theorem cl_recvR1 (size v i : Nat) (h : i < v) : (clZ size v i).recvR = (clV i, true, true, []) := by unfold clZ; rw [cl_drop v i h]; rfl
theorem cl_recvS1 (size v i : Nat) (h : i < v) : (clZ size v i).recvS = clZ size v (i + 1) := by unfold clZ; rw [cl_drop v i h]; rfl
theorem cl_recvR2 (size v i : Nat) (h : v ≤ i) : (clZ size v i).recvR = (0, false, true, []) := by unfold clZ; rw [List.drop_of_length_le (by simpa using h)]; rfl
theorem cl_recvS2 (size v i : Nat) (h : v ≤ i) : (clZ size v i).recvS = clZ size v (i + 1) := by unfold clZ; rw [List.drop_of_length_le (by simpa using h), List.drop_of_length_le (by simp; omega)]; rfl
theorem cl_waitR9 (size v i : Nat) : (clZ size v i).waitR (1, 0, 0) true = 5 := by simp [ChS.waitR, ChS.mute, clZ]
theorem cl_waitS9 (size v i : Nat) : (clZ size v i).waitS (1, 0, 0) true = clZ size v i := by unfold ChS.waitS; rw [cl_waitR9]; rfl
theorem cl_few (s : Bool) (size v m : Nat) (h : m ≤ 20) : (clC s size v m).rv.length < 100000 ∧ (clC s size v m).sd.length < 100000 := by cases s <;> simp [clC] <;> omega
theorem cl_queue (s : Bool) (size v i : Nat) : ((clZ size v i).queue s).length = 0 := by cases s <;> simp [ChS.queue, clZ]
set_option maxHeartbeats 4000000 in
theorem closes_send (w : World) (size v0 m : Nat) (h1 : size ≤ 20) (h2 : v0 ≤ size) (h3 : m ≤ 20) :
    Calls Try.prog 4 #[.int .i64 size, .int .i64 v0, .int .i64 m, .bool true] w fun e w' => e = .returned (.bool true) ∧ Fr Nob w w' := by
  have Haw := Lib.hid (fun W => awake9 W)
  have Hnew := Lib.hid (fun W => chan_new W size (by omega))
  have d1 : decide ((size : Int) < 0) = false := decide_eq_false (by omega)
  have d2 : decide ((20 : Int) < size) = false := decide_eq_false (by omega)
  have d2' : decide (20 < size) = false := decide_eq_false (by omega)
  have d3 : decide ((v0 : Int) < 0) = false := decide_eq_false (by omega)
  have d4 : decide ((size : Int) < v0) = false := decide_eq_false (by omega)
  have d4' : decide (size < v0) = false := decide_eq_false (by omega)
  have d5 : decide ((m : Int) < 0) = false := decide_eq_false (by omega)
  have d6 : decide ((20 : Int) < m) = false := decide_eq_false (by omega)
  have d6' : decide (20 < m) = false := decide_eq_false (by omega)
  have hvs : size ≤ size := by omega
  go_enter Try.func4, Try.ntmps4
  go_wp2_with fail
  refine (Hnew.out _).mono ?_
  intro e w1 hnew
  obtain ⟨b, rfl, hone⟩ := One.ofNew hnew
  have Hone : Hid (One w w1 b (clC true size 0 0)) := Lib.hid hone
  clear hnew hone
  go_wp2_with fail
  go_loopw [11] (fun vi wr => ∃ i : Nat, vi = .int .i64 i ∧ i ≤ size ∧ Hid (One w wr b (clC true size i 0))) (fun vi _ => size - (intOf vi).toNat)
  case atStart => exact ⟨0, rfl, Nat.zero_le _, Hone⟩
  case round =>
    obtain ⟨i, rfl, hi, H1⟩ := hrel
    by_cases hlt : i < size
    · have l1 : decide ((i : Int) < size) = true := decide_eq_true (by omega)
      have l2 : decide (i < size) = true := decide_eq_true hlt
      have Hc := Lib.hid (H1.out.send (clV i) true [] 0 0 _ (cl_sendR true size i (by omega)) (cl_sendS true size i (by omega)) rfl)
      clear H1 Hone
      go_wp2_with fail
      refine Hc.out.mono ?_
      rintro e w2 ⟨A2, cp2, rfl, hone, _⟩
      have H2 := Lib.hid hone
      clear hone
      go_wp2_with fail
      first
      | (go_roundw
         case rel => exact ⟨i + 1, by go_num, by omega, H2⟩
         case measure => (simp [intOf] <;> omega))
      | (refine ⟨?_, ?measure2⟩
         (repeat apply Exists.intro)
         refine ⟨?rel2, rfl⟩
         case rel2 => exact ⟨i + 1, by go_num, by omega, H2⟩
         case measure2 => (simp [intOf] <;> omega))
    · have hiw : i = size := by omega
      subst hiw
      obtain ⟨wa, rfl⟩ : ∃ wa : World, wa = wr := ⟨_, rfl⟩
      have l1 : decide ((i : Int) < i) = false := decide_eq_false (by omega)
      clear Hone
      go_wp2_with fail
      go_loopw [15] (fun vj wr => ∃ j : Nat, vj = .int .i64 j ∧ j ≤ m ∧ Hid (One w wr b (clC true i i j))) (fun vj _ => m - (intOf vj).toNat)
      case atStart => exact ⟨0, rfl, Nat.zero_le _, H1⟩
      case round =>
        obtain ⟨j, rfl, hj, H2⟩ := hrel
        by_cases hlt2 : j < m
        · have l3 : decide ((j : Int) < m) = true := decide_eq_true (by omega)
          have l4 : decide (j < m) = true := decide_eq_true hlt2
          have hq : (if true then i = i else i = 0) := by first | (simp; done) | (exfalso; omega)
          have Hc := Lib.hid (H2.out.wait (clW j) true 0 _ (cl_waitR true i i j hq) (cl_waitS true i i j hq) (cl_few true i i j (by omega)))
          clear H1 H2 hq
          go_wp2_with fail
          refine Hc.out.mono ?_
          rintro e w2 ⟨rfl, hone⟩
          have H3 := Lib.hid hone
          clear hone
          go_wp2_with fail
          first
          | (go_roundw
             case rel => exact ⟨j + 1, by go_num, by omega, H3⟩
             case measure => (simp [intOf] <;> omega))
          | (refine ⟨?_, ?measure2⟩
             (repeat apply Exists.intro)
             refine ⟨?rel2, rfl⟩
             case rel2 => exact ⟨j + 1, by go_num, by omega, H3⟩
             case measure2 => (simp [intOf] <;> omega))
        · have hjm : j = m := by omega
          subst hjm
          have l3 : decide ((j : Int) < j) = false := decide_eq_false (by omega)
          obtain ⟨S, hcs, hge, hfr⟩ := H2.out
          have Hcl := Lib.hid (chan_close hcs _ j 0 (cl_closeR true i i j) (cl_closeS true i i j) (by simp))
          have Hge := Lib.hid hge; have Hfr := Lib.hid hfr
          clear hcs hge hfr H1 H2
          go_wp2_with fail
          refine Hcl.out.mono ?_
          rintro e w5 ⟨A5, cp5, rfl, hf, hc, hs⟩
          have Hf := Lib.hid (Hfr.out.trans hf fun k hk q => by have := Hge.out k q; omega)
          have Hcl2 := Lib.hid (chan_close hc [] 0 5 (cl_closeR2 i i 0) (cl_closeS2 i i 0) rfl)
          have Hs := Lib.hid hs
          clear hf hc hs Hcl
          go_wp2_with fail
          refine Hcl2.out.mono ?_
          rintro e w6 ⟨A6, cp6, rfl, hf, hc, _⟩
          have HO : Hid (One w w6 b (clZ i i 0)) := Lib.hid ⟨S, hc, Hge.out, Hf.out.trans hf fun k hk q => by have := Hge.out k q; omega⟩
          have HR := Lib.hid ((Hs.out.fr hf fun k q q' => q.2 q').rd)
          clear hf hc Hcl2 Hs Hf
          have Hwt : Hid (∀ W, Fr Nob w6 W → Calls Try.prog 17 #[.pointer (some ⟨b, 0, none⟩), .bool true] W fun e w' => (∃ (A : Option Addr) (cp : Nat), e = .returned (.slice A 0 cp)) ∧ Fr Nob W w') := Lib.hid fun W hf => by
            obtain ⟨S, h1, h2, h3⟩ := HO.out.fr0 hf
            refine (chan_waiting W S b _ h1 true _ 0 rfl (cl_queue true i i 0)).mono ?_
            rintro e w' ⟨v, he, hf, hs⟩
            obtain ⟨A, cp, rfl⟩ := hs.slice
            exact ⟨⟨A, cp, he⟩, hf⟩
          have hii : ((j : Int) == (j : Int)) = true := beq_self_eq_true _
          go_wp2_with fail
          refine (Hwt.out w6 (Fr.refl _ _)).mono ?_
          rintro e w7 ⟨⟨A7, cp7, rfl⟩, hf7⟩
          have HO7 := Lib.hid (HO.out.fr0 hf7); have HR7 := Lib.hid (HR.out.fr hf7)
          clear hf7 HO HR Hwt
          go_wp2_with fail
          go_loopw [20] (fun vi wr => ∃ p : Nat, vi = .int .i64 p ∧ p ≤ j ∧ Fr Nob w7 wr) (fun vi _ => j - (intOf vi).toNat)
          case atStart => exact ⟨0, rfl, Nat.zero_le _, Fr.refl _ _⟩
          case round =>
            obtain ⟨p, rfl, hp, hfj⟩ := hrel
            have Hfj := Lib.hid hfj
            clear hfj
            by_cases hlt3 : p < j
            · have l5 : decide ((p : Int) < j) = true := decide_eq_true (by omega)
              have l6 : decide (p < j) = true := decide_eq_true hlt3
              have i0 : (0 : Int) ≤ p := by omega
              have iN : (p : Int) < j := by omega
              obtain ⟨g, o, rfl, hcp, hk⟩ := rd_wk HR7.out p (clK true p) hlt3 (by rw [List.getElem?_map, List.getElem?_range hlt3]; rfl)
              obtain ⟨c0, c1, c2, c3, c4⟩ := hk.fr Hfj.out id
              clear hk
              dsimp only at c0 c1 c2 c3 c4
              go_wp2_with fail
              first
              | (go_roundw
                 case rel => exact ⟨p + 1, by go_num, by omega, Hfj.out⟩
                 case measure => (simp [intOf] <;> omega))
              | (refine ⟨?_, ?measure2⟩
                 (repeat apply Exists.intro)
                 refine ⟨?rel2, rfl⟩
                 case rel2 => exact ⟨p + 1, by go_num, by omega, Hfj.out⟩
                 case measure2 => (simp [intOf] <;> omega))
            · have hpj : p = j := by omega
              subst hpj
              have l5 : decide ((p : Int) < p) = false := decide_eq_false (by omega)
              have HO1 := Lib.hid (HO7.out.fr0 Hfj.out)
              clear HO7 HR7 Hfj
              go_wp2_with fail
              go_loopw [21] (fun vi wr => ∃ k : Nat, vi = .int .i64 k ∧ k ≤ i + 1 ∧ Hid (One w wr b (clZ i i k))) (fun vi _ => i + 1 - (intOf vi).toNat)
              case atStart => exact ⟨0, rfl, Nat.zero_le _, HO1⟩
              case round =>
                obtain ⟨k, rfl, hk, H3⟩ := hrel
                by_cases hlt4 : k < i
                · have l7 : decide ((k : Int) ≤ i) = true := decide_eq_true (by omega)
                  have l7' : decide (k ≤ i) = true := decide_eq_true (by omega)
                  have l8 : decide ((k : Int) < i) = true := decide_eq_true (by omega)
                  have l8' : decide (k < i) = true := decide_eq_true hlt4
                  have Hc := Lib.hid (H3.out.recv (clV k) true true [] 0 _ (cl_recvR1 i i k hlt4) (cl_recvS1 i i k hlt4) rfl)
                  clear H3 HO1
                  go_wp2_with fail
                  refine Hc.out.mono ?_
                  rintro e w8 ⟨A8, cp8, rfl, hone, _⟩
                  have H4 := Lib.hid hone
                  clear hone
                  go_wp2_with fail
                  first
                  | (go_roundw
                     case rel => exact ⟨k + 1, by go_num, by omega, H4⟩
                     case measure => (simp [intOf] <;> omega))
                  | (refine ⟨?_, ?measure2⟩
                     (repeat apply Exists.intro)
                     refine ⟨?rel2, rfl⟩
                     case rel2 => exact ⟨k + 1, by go_num, by omega, H4⟩
                     case measure2 => (simp [intOf] <;> omega))
                · by_cases hlt5 : k = i
                  · have l7 : decide ((k : Int) ≤ i) = true := decide_eq_true (by omega)
                    have l7' : decide (k ≤ i) = true := decide_eq_true (by omega)
                    have l8 : decide ((k : Int) < i) = false := decide_eq_false (by omega)
                    have l8' : decide (k < i) = false := decide_eq_false hlt4
                    have Hc := Lib.hid (H3.out.recv 0 false true [] 0 _ (cl_recvR2 i i k (by omega)) (cl_recvS2 i i k (by omega)) rfl)
                    clear H3 HO1
                    go_wp2_with fail
                    refine Hc.out.mono ?_
                    rintro e w8 ⟨A8, cp8, rfl, hone, _⟩
                    have H4 := Lib.hid hone
                    clear hone
                    go_wp2_with fail
                    first
                    | (go_roundw
                       case rel => exact ⟨k + 1, by go_num, by omega, H4⟩
                       case measure => (simp [intOf] <;> omega))
                    | (refine ⟨?_, ?measure2⟩
                       (repeat apply Exists.intro)
                       refine ⟨?rel2, rfl⟩
                       case rel2 => exact ⟨k + 1, by go_num, by omega, H4⟩
                       case measure2 => (simp [intOf] <;> omega))
                  · have l7 : decide ((k : Int) ≤ i) = false := decide_eq_false (by omega)
                    have l7' : decide (k ≤ i) = false := decide_eq_false (by omega)
                    have Hc := Lib.hid (H3.out.wait (1, 0, 0) true 5 _ (cl_waitR9 i i k) (cl_waitS9 i i k) ⟨by simp [clZ], by simp [clZ]⟩)
                    clear H3 HO1
                    go_wp2_with fail
                    refine Hc.out.mono ?_
                    rintro e w8 ⟨rfl, hone⟩
                    have H5 := Lib.hid hone
                    clear hone
                    go_wp2_with fail
                    refine (Haw.out _).mono ?_
                    rintro e w10 ⟨rfl, hf3⟩
                    have F3 := Lib.hid (H5.out.fr.trans0 hf3)
                    clear hf3
                    go_wp2_with fail
                    go_ret
                    exact ⟨rfl, F3.out⟩
set_option maxHeartbeats 4000000 in
theorem closes_recv (w : World) (size v0 m : Nat) (h1 : size ≤ 20) (h2 : v0 ≤ size) (h3 : m ≤ 20) (h4 : 0 < m) :
    Calls Try.prog 4 #[.int .i64 size, .int .i64 v0, .int .i64 m, .bool false] w fun e w' => e = .returned (.bool true) ∧ Fr Nob w w' := by
  have Haw := Lib.hid (fun W => awake9 W)
  have Hnew := Lib.hid (fun W => chan_new W size (by omega))
  have d1 : decide ((size : Int) < 0) = false := decide_eq_false (by omega)
  have d2 : decide ((20 : Int) < size) = false := decide_eq_false (by omega)
  have d2' : decide (20 < size) = false := decide_eq_false (by omega)
  have d3 : decide ((v0 : Int) < 0) = false := decide_eq_false (by omega)
  have d4 : decide ((size : Int) < v0) = false := decide_eq_false (by omega)
  have d4' : decide (size < v0) = false := decide_eq_false (by omega)
  have d5 : decide ((m : Int) < 0) = false := decide_eq_false (by omega)
  have d6 : decide ((20 : Int) < m) = false := decide_eq_false (by omega)
  have d6' : decide (20 < m) = false := decide_eq_false (by omega)
  have d7 : decide ((0 : Int) < m) = true := decide_eq_true (by omega)
  have d7' : decide (0 < m) = true := decide_eq_true h4
  have hvs : 0 ≤ size := by omega
  go_enter Try.func4, Try.ntmps4
  go_wp2_with fail
  refine (Hnew.out _).mono ?_
  intro e w1 hnew
  obtain ⟨b, rfl, hone⟩ := One.ofNew hnew
  have Hone : Hid (One w w1 b (clC false size 0 0)) := Lib.hid hone
  clear hnew hone
  go_wp2_with fail
  go_loopw [11] (fun vi wr => ∃ i : Nat, vi = .int .i64 i ∧ i ≤ 0 ∧ Hid (One w wr b (clC false size i 0))) (fun vi _ => 0 - (intOf vi).toNat)
  case atStart => exact ⟨0, rfl, Nat.zero_le _, Hone⟩
  case round =>
    obtain ⟨i, rfl, hi, H1⟩ := hrel
    have hlt : ¬ i < 0 := by omega
    have hiw : i = 0 := by omega
    subst hiw
    obtain ⟨wa, rfl⟩ : ∃ wa : World, wa = wr := ⟨_, rfl⟩
    have l1 : decide ((0 : Int) < 0) = false := decide_eq_false (by omega)
    clear Hone
    go_wp2_with fail
    go_loopw [15] (fun vj wr => ∃ j : Nat, vj = .int .i64 j ∧ j ≤ m ∧ Hid (One w wr b (clC false size 0 j))) (fun vj _ => m - (intOf vj).toNat)
    case atStart => exact ⟨0, rfl, Nat.zero_le _, H1⟩
    case round =>
      obtain ⟨j, rfl, hj, H2⟩ := hrel
      by_cases hlt2 : j < m
      · have l3 : decide ((j : Int) < m) = true := decide_eq_true (by omega)
        have l4 : decide (j < m) = true := decide_eq_true hlt2
        have hq : (if false then 0 = size else 0 = 0) := by first | (simp; done) | (exfalso; omega)
        have Hc := Lib.hid (H2.out.wait (clW j) false 0 _ (cl_waitR false size 0 j hq) (cl_waitS false size 0 j hq) (cl_few false size 0 j (by omega)))
        clear H1 H2 hq
        go_wp2_with fail
        refine Hc.out.mono ?_
        rintro e w2 ⟨rfl, hone⟩
        have H3 := Lib.hid hone
        clear hone
        go_wp2_with fail
        first
        | (go_roundw
           case rel => exact ⟨j + 1, by go_num, by omega, H3⟩
           case measure => (simp [intOf] <;> omega))
        | (refine ⟨?_, ?measure2⟩
           (repeat apply Exists.intro)
           refine ⟨?rel2, rfl⟩
           case rel2 => exact ⟨j + 1, by go_num, by omega, H3⟩
           case measure2 => (simp [intOf] <;> omega))
      · have hjm : j = m := by omega
        subst hjm
        have l3 : decide ((j : Int) < j) = false := decide_eq_false (by omega)
        obtain ⟨S, hcs, hge, hfr⟩ := H2.out
        have Hcl := Lib.hid (chan_close hcs _ j 0 (cl_closeR false size 0 j) (cl_closeS false size 0 j) (by simp))
        have Hge := Lib.hid hge; have Hfr := Lib.hid hfr
        clear hcs hge hfr H1 H2
        go_wp2_with fail
        refine Hcl.out.mono ?_
        rintro e w5 ⟨A5, cp5, rfl, hf, hc, hs⟩
        have Hf := Lib.hid (Hfr.out.trans hf fun k hk q => by have := Hge.out k q; omega)
        have Hcl2 := Lib.hid (chan_close hc [] 0 5 (cl_closeR2 size 0 0) (cl_closeS2 size 0 0) rfl)
        have Hs := Lib.hid hs
        clear hf hc hs Hcl
        go_wp2_with fail
        refine Hcl2.out.mono ?_
        rintro e w6 ⟨A6, cp6, rfl, hf, hc, _⟩
        have HO : Hid (One w w6 b (clZ size 0 0)) := Lib.hid ⟨S, hc, Hge.out, Hf.out.trans hf fun k hk q => by have := Hge.out k q; omega⟩
        have HR := Lib.hid ((Hs.out.fr hf fun k q q' => q.2 q').rd)
        clear hf hc Hcl2 Hs Hf
        have Hwt : Hid (∀ W, Fr Nob w6 W → Calls Try.prog 17 #[.pointer (some ⟨b, 0, none⟩), .bool false] W fun e w' => (∃ (A : Option Addr) (cp : Nat), e = .returned (.slice A 0 cp)) ∧ Fr Nob W w') := Lib.hid fun W hf => by
          obtain ⟨S, h1, h2, h3⟩ := HO.out.fr0 hf
          refine (chan_waiting W S b _ h1 false _ 0 rfl (cl_queue false size 0 0)).mono ?_
          rintro e w' ⟨v, he, hf, hs⟩
          obtain ⟨A, cp, rfl⟩ := hs.slice
          exact ⟨⟨A, cp, he⟩, hf⟩
        have hii : ((j : Int) == (j : Int)) = true := beq_self_eq_true _
        go_wp2_with fail
        refine (Hwt.out w6 (Fr.refl _ _)).mono ?_
        rintro e w7 ⟨⟨A7, cp7, rfl⟩, hf7⟩
        have HO7 := Lib.hid (HO.out.fr0 hf7); have HR7 := Lib.hid (HR.out.fr hf7)
        clear hf7 HO HR Hwt
        go_wp2_with fail
        go_loopw [20] (fun vi wr => ∃ p : Nat, vi = .int .i64 p ∧ p ≤ j ∧ Fr Nob w7 wr) (fun vi _ => j - (intOf vi).toNat)
        case atStart => exact ⟨0, rfl, Nat.zero_le _, Fr.refl _ _⟩
        case round =>
          obtain ⟨p, rfl, hp, hfj⟩ := hrel
          have Hfj := Lib.hid hfj
          clear hfj
          by_cases hlt3 : p < j
          · have l5 : decide ((p : Int) < j) = true := decide_eq_true (by omega)
            have l6 : decide (p < j) = true := decide_eq_true hlt3
            have i0 : (0 : Int) ≤ p := by omega
            have iN : (p : Int) < j := by omega
            obtain ⟨g, o, rfl, hcp, hk⟩ := rd_wk HR7.out p (clK false p) hlt3 (by rw [List.getElem?_map, List.getElem?_range hlt3]; rfl)
            obtain ⟨c0, c1, c2, c3, c4⟩ := hk.fr Hfj.out id
            clear hk
            dsimp only at c0 c1 c2 c3 c4
            go_wp2_with fail
            first
            | (go_roundw
               case rel => exact ⟨p + 1, by go_num, by omega, Hfj.out⟩
               case measure => (simp [intOf] <;> omega))
            | (refine ⟨?_, ?measure2⟩
               (repeat apply Exists.intro)
               refine ⟨?rel2, rfl⟩
               case rel2 => exact ⟨p + 1, by go_num, by omega, Hfj.out⟩
               case measure2 => (simp [intOf] <;> omega))
          · have hpj : p = j := by omega
            subst hpj
            have l5 : decide ((p : Int) < p) = false := decide_eq_false (by omega)
            have HO1 := Lib.hid (HO7.out.fr0 Hfj.out)
            clear HO7 HR7 Hfj
            go_wp2_with fail
            go_loopw [21] (fun vi wr => ∃ k : Nat, vi = .int .i64 k ∧ k ≤ 0 + 1 ∧ Hid (One w wr b (clZ size 0 k))) (fun vi _ => 0 + 1 - (intOf vi).toNat)
            case atStart => exact ⟨0, rfl, Nat.zero_le _, HO1⟩
            case round =>
              obtain ⟨k, rfl, hk, H3⟩ := hrel
              have hlt4 : ¬ k < 0 := by omega
              by_cases hlt5 : k = 0
              · have l7 : decide ((k : Int) ≤ 0) = true := decide_eq_true (by omega)
                have l7' : decide (k ≤ 0) = true := decide_eq_true (by omega)
                have l8 : decide ((k : Int) < 0) = false := decide_eq_false (by omega)
                have l8' : decide (k < 0) = false := decide_eq_false hlt4
                have Hc := Lib.hid (H3.out.recv 0 false true [] 0 _ (cl_recvR2 size 0 k (by omega)) (cl_recvS2 size 0 k (by omega)) rfl)
                clear H3 HO1
                go_wp2_with fail
                refine Hc.out.mono ?_
                rintro e w8 ⟨A8, cp8, rfl, hone, _⟩
                have H4 := Lib.hid hone
                clear hone
                go_wp2_with fail
                first
                | (go_roundw
                   case rel => exact ⟨k + 1, by go_num, by omega, H4⟩
                   case measure => (simp [intOf] <;> omega))
                | (refine ⟨?_, ?measure2⟩
                   (repeat apply Exists.intro)
                   refine ⟨?rel2, rfl⟩
                   case rel2 => exact ⟨k + 1, by go_num, by omega, H4⟩
                   case measure2 => (simp [intOf] <;> omega))
              · have l7 : decide ((k : Int) ≤ 0) = false := decide_eq_false (by omega)
                have l7' : decide (k ≤ 0) = false := decide_eq_false (by omega)
                have Hc := Lib.hid (H3.out.wait (1, 0, 0) true 5 _ (cl_waitR9 size 0 k) (cl_waitS9 size 0 k) ⟨by simp [clZ], by simp [clZ]⟩)
                clear H3 HO1
                go_wp2_with fail
                refine Hc.out.mono ?_
                rintro e w8 ⟨rfl, hone⟩
                have H5 := Lib.hid hone
                clear hone
                go_wp2_with fail
                refine (Haw.out _).mono ?_
                rintro e w10 ⟨rfl, hf3⟩
                have F3 := Lib.hid (H5.out.fr.trans0 hf3)
                clear hf3
                go_wp2_with fail
                go_ret
                exact ⟨rfl, F3.out⟩


set_option maxHeartbeats 4000000 in
theorem closes_none (w : World) (size v0 m : Nat) (h1 : size ≤ 20) (h2 : v0 ≤ size) (h3 : m ≤ 20) (h4 : m = 0) :
    Calls Try.prog 4 #[.int .i64 size, .int .i64 v0, .int .i64 m, .bool false] w fun e w' => e = .returned (.bool true) ∧ Fr Nob w w' := by
  have Haw := Lib.hid (fun W => awake9 W)
  have Hnew := Lib.hid (fun W => chan_new W size (by omega))
  have d1 : decide ((size : Int) < 0) = false := decide_eq_false (by omega)
  have d2 : decide ((20 : Int) < size) = false := decide_eq_false (by omega)
  have d2' : decide (20 < size) = false := decide_eq_false (by omega)
  have d3 : decide ((v0 : Int) < 0) = false := decide_eq_false (by omega)
  have d4 : decide ((size : Int) < v0) = false := decide_eq_false (by omega)
  have d4' : decide (size < v0) = false := decide_eq_false (by omega)
  have d5 : decide ((m : Int) < 0) = false := decide_eq_false (by omega)
  have d6 : decide ((20 : Int) < m) = false := decide_eq_false (by omega)
  have d6' : decide (20 < m) = false := decide_eq_false (by omega)
  have d7 : decide ((0 : Int) < m) = false := decide_eq_false (by omega)
  have d7' : decide (0 < m) = false := decide_eq_false (by omega)
  have H4 := Lib.hid h4
  clear h4
  have hvs : v0 ≤ size := by omega
  go_enter Try.func4, Try.ntmps4
  go_wp2_with fail
  refine (Hnew.out _).mono ?_
  intro e w1 hnew
  obtain ⟨b, rfl, hone⟩ := One.ofNew hnew
  have Hone : Hid (One w w1 b (clC false size 0 0)) := Lib.hid hone
  clear hnew hone
  go_wp2_with fail
  go_loopw [11] (fun vi wr => ∃ i : Nat, vi = .int .i64 i ∧ i ≤ v0 ∧ Hid (One w wr b (clC false size i 0))) (fun vi _ => v0 - (intOf vi).toNat)
  case atStart => exact ⟨0, rfl, Nat.zero_le _, Hone⟩
  case round =>
    obtain ⟨i, rfl, hi, H1⟩ := hrel
    by_cases hlt : i < v0
    · have l1 : decide ((i : Int) < v0) = true := decide_eq_true (by omega)
      have l2 : decide (i < v0) = true := decide_eq_true hlt
      have Hc := Lib.hid (H1.out.send (clV i) true [] 0 0 _ (cl_sendR false size i (by omega)) (cl_sendS false size i (by omega)) rfl)
      clear H1 Hone
      go_wp2_with fail
      refine Hc.out.mono ?_
      rintro e w2 ⟨A2, cp2, rfl, hone, _⟩
      have H2 := Lib.hid hone
      clear hone
      go_wp2_with fail
      first
      | (go_roundw
         case rel => exact ⟨i + 1, by go_num, by omega, H2⟩
         case measure => (simp [intOf] <;> omega))
      | (refine ⟨?_, ?measure2⟩
         (repeat apply Exists.intro)
         refine ⟨?rel2, rfl⟩
         case rel2 => exact ⟨i + 1, by go_num, by omega, H2⟩
         case measure2 => (simp [intOf] <;> omega))
    · have hiw : i = v0 := by omega
      subst hiw
      obtain ⟨wa, rfl⟩ : ∃ wa : World, wa = wr := ⟨_, rfl⟩
      have l1 : decide ((i : Int) < i) = false := decide_eq_false (by omega)
      clear Hone
      go_wp2_with fail
      go_loopw [15] (fun vj wr => ∃ j : Nat, vj = .int .i64 j ∧ j ≤ m ∧ Hid (One w wr b (clC false size i j))) (fun vj _ => m - (intOf vj).toNat)
      case atStart => exact ⟨0, rfl, Nat.zero_le _, H1⟩
      case round =>
        obtain ⟨j, rfl, hj, H2⟩ := hrel
        have hlt2 : ¬ j < m := by have := H4.out; omega
        have hjm : j = m := by omega
        subst hjm
        have l3 : decide ((j : Int) < j) = false := decide_eq_false (by omega)
        obtain ⟨S, hcs, hge, hfr⟩ := H2.out
        have Hcl := Lib.hid (chan_close hcs _ j 0 (cl_closeR false size i j) (cl_closeS false size i j) (by simp))
        have Hge := Lib.hid hge; have Hfr := Lib.hid hfr
        clear hcs hge hfr H1 H2
        go_wp2_with fail
        refine Hcl.out.mono ?_
        rintro e w5 ⟨A5, cp5, rfl, hf, hc, hs⟩
        have Hf := Lib.hid (Hfr.out.trans hf fun k hk q => by have := Hge.out k q; omega)
        have Hcl2 := Lib.hid (chan_close hc [] 0 5 (cl_closeR2 size i 0) (cl_closeS2 size i 0) rfl)
        have Hs := Lib.hid hs
        clear hf hc hs Hcl
        go_wp2_with fail
        refine Hcl2.out.mono ?_
        rintro e w6 ⟨A6, cp6, rfl, hf, hc, _⟩
        have HO : Hid (One w w6 b (clZ size i 0)) := Lib.hid ⟨S, hc, Hge.out, Hf.out.trans hf fun k hk q => by have := Hge.out k q; omega⟩
        have HR := Lib.hid ((Hs.out.fr hf fun k q q' => q.2 q').rd)
        clear hf hc Hcl2 Hs Hf
        have Hwt : Hid (∀ W, Fr Nob w6 W → Calls Try.prog 17 #[.pointer (some ⟨b, 0, none⟩), .bool false] W fun e w' => (∃ (A : Option Addr) (cp : Nat), e = .returned (.slice A 0 cp)) ∧ Fr Nob W w') := Lib.hid fun W hf => by
          obtain ⟨S, h1, h2, h3⟩ := HO.out.fr0 hf
          refine (chan_waiting W S b _ h1 false _ 0 rfl (cl_queue false size i 0)).mono ?_
          rintro e w' ⟨v, he, hf, hs⟩
          obtain ⟨A, cp, rfl⟩ := hs.slice
          exact ⟨⟨A, cp, he⟩, hf⟩
        have hii : ((j : Int) == (j : Int)) = true := beq_self_eq_true _
        go_wp2_with fail
        refine (Hwt.out w6 (Fr.refl _ _)).mono ?_
        rintro e w7 ⟨⟨A7, cp7, rfl⟩, hf7⟩
        have HO7 := Lib.hid (HO.out.fr0 hf7); have HR7 := Lib.hid (HR.out.fr hf7)
        clear hf7 HO HR Hwt
        go_wp2_with fail
        go_loopw [20] (fun vi wr => ∃ p : Nat, vi = .int .i64 p ∧ p ≤ j ∧ Fr Nob w7 wr) (fun vi _ => j - (intOf vi).toNat)
        case atStart => exact ⟨0, rfl, Nat.zero_le _, Fr.refl _ _⟩
        case round =>
          obtain ⟨p, rfl, hp, hfj⟩ := hrel
          have Hfj := Lib.hid hfj
          clear hfj
          have hlt3 : ¬ p < j := by have := H4.out; omega
          have hpj : p = j := by omega
          subst hpj
          have l5 : decide ((p : Int) < p) = false := decide_eq_false (by omega)
          have HO1 := Lib.hid (HO7.out.fr0 Hfj.out)
          clear HO7 HR7 Hfj
          go_wp2_with fail
          go_loopw [21] (fun vi wr => ∃ k : Nat, vi = .int .i64 k ∧ k ≤ i + 1 ∧ Hid (One w wr b (clZ size i k))) (fun vi _ => i + 1 - (intOf vi).toNat)
          case atStart => exact ⟨0, rfl, Nat.zero_le _, HO1⟩
          case round =>
            obtain ⟨k, rfl, hk, H3⟩ := hrel
            by_cases hlt4 : k < i
            · have l7 : decide ((k : Int) ≤ i) = true := decide_eq_true (by omega)
              have l7' : decide (k ≤ i) = true := decide_eq_true (by omega)
              have l8 : decide ((k : Int) < i) = true := decide_eq_true (by omega)
              have l8' : decide (k < i) = true := decide_eq_true hlt4
              have Hc := Lib.hid (H3.out.recv (clV k) true true [] 0 _ (cl_recvR1 size i k hlt4) (cl_recvS1 size i k hlt4) rfl)
              clear H3 HO1
              go_wp2_with fail
              refine Hc.out.mono ?_
              rintro e w8 ⟨A8, cp8, rfl, hone, _⟩
              have H4 := Lib.hid hone
              clear hone
              go_wp2_with fail
              first
              | (go_roundw
                 case rel => exact ⟨k + 1, by go_num, by omega, H4⟩
                 case measure => (simp [intOf] <;> omega))
              | (refine ⟨?_, ?measure2⟩
                 (repeat apply Exists.intro)
                 refine ⟨?rel2, rfl⟩
                 case rel2 => exact ⟨k + 1, by go_num, by omega, H4⟩
                 case measure2 => (simp [intOf] <;> omega))
            · by_cases hlt5 : k = i
              · have l7 : decide ((k : Int) ≤ i) = true := decide_eq_true (by omega)
                have l7' : decide (k ≤ i) = true := decide_eq_true (by omega)
                have l8 : decide ((k : Int) < i) = false := decide_eq_false (by omega)
                have l8' : decide (k < i) = false := decide_eq_false hlt4
                have Hc := Lib.hid (H3.out.recv 0 false true [] 0 _ (cl_recvR2 size i k (by omega)) (cl_recvS2 size i k (by omega)) rfl)
                clear H3 HO1
                go_wp2_with fail
                refine Hc.out.mono ?_
                rintro e w8 ⟨A8, cp8, rfl, hone, _⟩
                have H4 := Lib.hid hone
                clear hone
                go_wp2_with fail
                first
                | (go_roundw
                   case rel => exact ⟨k + 1, by go_num, by omega, H4⟩
                   case measure => (simp [intOf] <;> omega))
                | (refine ⟨?_, ?measure2⟩
                   (repeat apply Exists.intro)
                   refine ⟨?rel2, rfl⟩
                   case rel2 => exact ⟨k + 1, by go_num, by omega, H4⟩
                   case measure2 => (simp [intOf] <;> omega))
              · have l7 : decide ((k : Int) ≤ i) = false := decide_eq_false (by omega)
                have l7' : decide (k ≤ i) = false := decide_eq_false (by omega)
                have Hc := Lib.hid (H3.out.wait (1, 0, 0) true 5 _ (cl_waitR9 size i k) (cl_waitS9 size i k) ⟨by simp [clZ], by simp [clZ]⟩)
                clear H3 HO1
                go_wp2_with fail
                refine Hc.out.mono ?_
                rintro e w8 ⟨rfl, hone⟩
                have H5 := Lib.hid hone
                clear hone
                go_wp2_with fail
                refine (Haw.out _).mono ?_
                rintro e w10 ⟨rfl, hf3⟩
                have F3 := Lib.hid (H5.out.fr.trans0 hf3)
                clear hf3
                go_wp2_with fail
                go_ret
                exact ⟨rfl, F3.out⟩


theorem closes_bad (w : World) (a0 a1 a2 : Int) (a3 : Bool) (h : a0 < 0 ∨ 20 < a0 ∨ a1 < 0 ∨ a0 < a1 ∨ a2 < 0 ∨ 20 < a2) :
    Calls Try.prog 4 #[.int .i64 a0, .int .i64 a1, .int .i64 a2, .bool a3] w fun e w' => e = .returned (.bool true) ∧ Fr Nob w w' := by
  have Haw := Lib.hid (fun W => awake9 W)
  by_cases h0 : a0 < 0
  · have d0 : decide (a0 < 0) = true := decide_eq_true h0
    clear h h0
    go_enter Try.func4, Try.ntmps4
    go_wp2_with fail
    refine (Haw.out _).mono ?_
    rintro e w2 ⟨rfl, hf2⟩
    have F2 := Lib.hid (hf2)
    clear hf2
    go_wp2_with fail
    go_ret
    exact ⟨rfl, F2.out⟩
  · have d0 : decide (a0 < 0) = false := decide_eq_false h0
    by_cases h1 : 20 < a0
    · have d1 : decide (20 < a0) = true := decide_eq_true h1
      clear h h0 h1
      go_enter Try.func4, Try.ntmps4
      go_wp2_with fail
      refine (Haw.out _).mono ?_
      rintro e w2 ⟨rfl, hf2⟩
      have F2 := Lib.hid (hf2)
      clear hf2
      go_wp2_with fail
      go_ret
      exact ⟨rfl, F2.out⟩
    · have d1 : decide (20 < a0) = false := decide_eq_false h1
      by_cases h2 : a1 < 0
      · have d2 : decide (a1 < 0) = true := decide_eq_true h2
        clear h h0 h1 h2
        go_enter Try.func4, Try.ntmps4
        go_wp2_with fail
        refine (Haw.out _).mono ?_
        rintro e w2 ⟨rfl, hf2⟩
        have F2 := Lib.hid (hf2)
        clear hf2
        go_wp2_with fail
        go_ret
        exact ⟨rfl, F2.out⟩
      · have d2 : decide (a1 < 0) = false := decide_eq_false h2
        by_cases h3 : a0 < a1
        · have d3 : decide (a0 < a1) = true := decide_eq_true h3
          clear h h0 h1 h2 h3
          go_enter Try.func4, Try.ntmps4
          go_wp2_with fail
          refine (Haw.out _).mono ?_
          rintro e w2 ⟨rfl, hf2⟩
          have F2 := Lib.hid (hf2)
          clear hf2
          go_wp2_with fail
          go_ret
          exact ⟨rfl, F2.out⟩
        · have d3 : decide (a0 < a1) = false := decide_eq_false h3
          by_cases h4 : a2 < 0
          · have d4 : decide (a2 < 0) = true := decide_eq_true h4
            clear h h0 h1 h2 h3 h4
            go_enter Try.func4, Try.ntmps4
            go_wp2_with fail
            refine (Haw.out _).mono ?_
            rintro e w2 ⟨rfl, hf2⟩
            have F2 := Lib.hid (hf2)
            clear hf2
            go_wp2_with fail
            go_ret
            exact ⟨rfl, F2.out⟩
          · have d4 : decide (a2 < 0) = false := decide_eq_false h4
            have d5 : decide (20 < a2) = true := decide_eq_true (by omega)
            clear h h0 h1 h2 h3 h4
            go_enter Try.func4, Try.ntmps4
            go_wp2_with fail
            refine (Haw.out _).mono ?_
            rintro e w2 ⟨rfl, hf2⟩
            have F2 := Lib.hid (hf2)
            clear hf2
            go_wp2_with fail
            go_ret
            exact ⟨rfl, F2.out⟩

theorem chanCloses_walk (a0 a1 a2 : Int) (a3 : Bool) (w : World) (w0 : (Lit.int .i64 a0).wf = true) (w1 : (Lit.int .i64 a1).wf = true) (w2 : (Lit.int .i64 a2).wf = true) :
    Calls Try.prog 4 #[.int .i64 a0, .int .i64 a1, .int .i64 a2, .bool a3] w fun e w' => e = .returned (.bool true) ∧ Below w.heap.size w w' := by
  have key : Calls Try.prog 4 #[.int .i64 a0, .int .i64 a1, .int .i64 a2, .bool a3] w fun e w' => e = .returned (.bool true) ∧ Fr Nob w w' := by
    by_cases h : a0 < 0 ∨ 20 < a0 ∨ a1 < 0 ∨ a0 < a1 ∨ a2 < 0 ∨ 20 < a2
    · exact closes_bad w a0 a1 a2 a3 h
    · obtain ⟨x, rfl⟩ : ∃ n : Nat, a0 = n := ⟨a0.toNat, by omega⟩
      obtain ⟨y, rfl⟩ : ∃ n : Nat, a1 = n := ⟨a1.toNat, by omega⟩
      obtain ⟨z, rfl⟩ : ∃ n : Nat, a2 = n := ⟨a2.toNat, by omega⟩
      cases a3
      · by_cases hz : 0 < z
        · exact closes_recv w x y z (by omega) (by omega) (by omega) hz
        · exact closes_none w x y z (by omega) (by omega) (by omega) (by omega)
      · exact closes_send w x y z (by omega) (by omega) (by omega)
  exact key.mono fun e w' ⟨h1, h2⟩ => ⟨h1, h2.below (Nat.le_refl _) fun _ q => q.elim⟩

/-! The row: out of the walk above. -/
namespace chanCloses
open Go.ChangeShapes Go.WideShapes Go.ChangeAt Go.RowKit
open Go.ChangeMaps (open_string shut_string)
theorem own : ownKnob Try.prog.godebug = none := by kernel_rfl
theorem laidOut : laidOutB Try.prog = true := by kernel_rfl
set_option maxRecDepth 100000 in
theorem lifted (os : Os) (started : os.Started) (H : Type) (enc : TypeId × Value → H) :
    ReturnsInHanded {} Try.checked os 4 .any (Rows.chanClosesSpec.pre6 enc Try.prog Try.f4 Rows.chanClosesRow.domain false) (Rows.chanClosesSpec.post enc Try.prog Try.f4 false true false false) := by
  refine returnsInHanded_of_change (C := Try.checked) own started (by kernel_rfl) Try.func4
    (ChangeSpec.witness6 (enc := enc) (C := Try.checked) false ⟨#[], #[.int .i64 0, .int .i64 0, .int .i64 0, .bool false], []⟩ 8 (by kernel_rfl) (by kernel_rfl) (by kernel_rfl) (by kernel_rfl)) ?_
  intro W base args ds gs before hval0 hW hcnd _
  have hval : ∀ (j : Nat) t v, Try.f4.params[j]? = some t → args[j]? = some v → Value.okWide Try.prog W .any base t v := hval0
  have hW' := hW
  obtain ⟨p, q, hA0, hV, rfl, hfz, hnd⟩ := hW
  have hA : DataW.TrodAll enc Try.prog W 0 (fun _ => true) true Try.f4.params.toList args.toList ds p := hA0
  rw [Try.params4] at hA hval
  obtain ⟨v0, vs0, d0, ds0, p0, q0, hargs, rfl, rfl, h0, r0⟩ := trodAll_cons hA
  obtain ⟨v1, vs1, d1, ds1, p1, q1, rfl, rfl, rfl, h1, r1⟩ := trodAll_cons r0
  obtain ⟨v2, vs2, d2, ds2, p2, q2, rfl, rfl, rfl, h2, r2⟩ := trodAll_cons r1
  obtain ⟨v3, vs3, d3, ds3, p3, q3, rfl, rfl, rfl, h3, r3⟩ := trodAll_cons r2
  obtain ⟨rfl, rfl, rfl⟩ := trodAll_nil r3
  obtain rfl : args = #[v0, v1, v2, v3] := by cases args; simp_all
  obtain ⟨rfl, rfl⟩ := trodVars_none hV
  obtain ⟨a0, rfl, rfl, rfl, w0⟩ := open_int Try.underlying3 (hval 0 3 v0 rfl rfl) h0
  obtain ⟨a1, rfl, rfl, rfl, w1⟩ := open_int Try.underlying3 (hval 1 3 v1 rfl rfl) h1
  obtain ⟨a2, rfl, rfl, rfl, w2⟩ := open_int Try.underlying3 (hval 2 3 v2 rfl rfl) h2
  obtain ⟨a3, rfl, rfl, rfl⟩ := open_bool Try.underlying4 (hval 3 4 v3 rfl rfl) h3
  clear hA0 hval0
  refine (chanCloses_walk a0 a1 a2 a3 W w0 w1 w2).mono fun e W' ⟨he, bel⟩ => ?_
  subst he
  exact ⟨_, rfl, _, _, _, [], _, [], hW', trodAll_mk1 (shut_bool Try.underlying4 _), (trodAll_cons_mk (shut_int Try.underlying3 w0) (trodAll_cons_mk (shut_int Try.underlying3 w1) (trodAll_cons_mk (shut_int Try.underlying3 w2) (trodAll_cons_mk (shut_bool Try.underlying4 _) trodAll_mk0)))), rfl, bel.frame _, fun h => by cases h⟩
theorem over : Rows.chanClosesRow.holds Try.pinned (OpenSpec.ofChange Rows.chanClosesSpec) :=
  OpenClaim.holds_of_wide 4 Try.f4 rfl rfl rfl rfl rfl rfl rfl ⟨rfl, rfl, rfl, rfl, rfl⟩ rfl rfl rfl rfl rfl (by kernel_rfl) Try.func4 (by kernel_rfl)
    (of_decide_eq_true (by kernel_rfl)) (by unfold Func.isWrapper; first | (rw [if_pos (by decide +kernel)]; kernel_rfl) | (rw [if_neg (by decide +kernel)]; exact ⟨rfl, rfl⟩))
    (fun os started H enc _ => lifted os started H enc)
end chanCloses
/-- THE STATEMENT. -/
theorem chanCloses_holds : Rows.ChanClosesSaid := chanCloses.over
#print axioms chanCloses_holds
end Go.Proofs.Ytfpcnagimjmkpaa
