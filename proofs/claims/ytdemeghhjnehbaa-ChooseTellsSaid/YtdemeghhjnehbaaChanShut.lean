/- What end, Close and End of a channel do. -/
import Derived.Test.YtdemeghhjnehbaaChanEnd
import Derived.Deep.RegionHeld3
import Derived.LaidEqlPtr
set_option linter.unusedVariables false
set_option linter.unusedSimpArgs false
namespace Go.Proofs.Ytdemeghhjnehbaa
open Go.RowKit
set_option maxRecDepth 100000
def EndP (w : World) (S : Nat → Prop) (b : Nat) (c : ChS) (l : List Wk) (n : Nat) (e : Ending) (w' : World) : Prop := ∃ (A : Option Addr) (cp : Nat), e = .returned (.slice A n cp) ∧ Fr S w w' ∧ ChanAt w' S b c ∧ Sl w' (Off w.heap.size S) 37 5 (.slice A n cp) n (wks l)
theorem WaitAt.block {w : World} {S : Nat → Prop} {b : Nat} {l : List Wt} (h : WaitAt w S b l) : ∃ cs T, w.heap[b]? = some (.cells cs T (0, 0)) := by
  obtain ⟨xs, h, _⟩ := h; exact ⟨_, _, h.blk⟩
theorem eql_queue_same (w : World) (q : Nat) : (binOp .eql 82 (.pointer (some ⟨q, 0, none⟩)) (.pointer (some ⟨q, 0, none⟩))).run Try.prog w = .ok (.bool true) w := by
  obtain ⟨j, hj, _⟩ := Option.map_eq_some_iff.1 (show (Try.prog.info? 119).map (fun i => i.size) = some 3 by kernel_rfl)
  exact run_eql_ptr_same w _ Try.underlying82 hj
theorem eql_queue_other {w : World} {p q : Nat} {S T : Nat → Prop} {k l : List Wt} (hp : WaitAt w S p k) (hq : WaitAt w T q l) (hne : p ≠ q) : (binOp .eql 82 (.pointer (some ⟨p, 0, none⟩)) (.pointer (some ⟨q, 0, none⟩))).run Try.prog w = .ok (.bool false) w := by
  obtain ⟨j, hj, hs⟩ := Option.map_eq_some_iff.1 (show (Try.prog.info? 119).map (fun i => i.size) = some 3 by kernel_rfl)
  obtain ⟨_, _, h1⟩ := hp.block
  obtain ⟨_, _, h2⟩ := hq.block
  exact run_eql_ptr_other w Try.underlying82 hj (by omega) (by simp [hne]) h1 h2
set_option maxHeartbeats 8000000 in
theorem chan_end {w : World} {S : Nat → Prop} {b : Nat} {c : ChS} (h : ChanAt w S b c) (n : Nat) (hn : c.ends.length = n) :
    Calls Try.prog 44 #[.pointer (some ⟨b, 0, none⟩)] w (EndP w S b c.shut c.ends n) := by
  obtain ⟨rb, qb, sb, R, A, B, h⟩ := h
  obtain ⟨_, _, _, _, _, p5⟩ := h.cells
  have f5 := blk_froz h.blk 5
  have hc1 := h.close
  obtain ⟨_, p1, p2, _, _, _⟩ := hc1.cells
  have hrv := h.recv.few; have hsd := h.send.few
  have hle := onceW_le false c.rv []
  have hst : EndSt w ((w.setCell ⟨b, 5, none⟩ (.bool true)).alloc (.cells #[.pointer (some ⟨qb, 0, none⟩), .pointer (some ⟨sb, 0, none⟩)] 82)).drew S b rb qb sb R A B { c with closed := true } w.heap.size Nob [] none 0 0 :=
    ⟨(((Fr.refl S w).setCell (p := ⟨b, 5, none⟩) (.inl h.own) _).alloc _).drew, hc1.fr0 (((Fr.refl Nob _).alloc _).drew), by rw [blk_drew]; exact blk_alloc_eq _ (by simp), Nat.le_refl _, h.lt, fun k q => q.elim, Sl.nil _ _ _ _, rfl⟩
  have H := Lib.hid h; have Hn := Lib.hid hn; have Hst := Lib.hid hst; have Hfew := Lib.hid (And.intro hrv hsd); have Hle := Lib.hid hle
  clear h hc1 hn hst hrv hsd hle
  go_enter Try.func44, Try.ntmps44
  go_wp2_with fail
  go_region
  clear p1 p2 p5 f5
  generalize ((w.setCell ⟨b, 5, none⟩ (.bool true)).alloc (.cells #[.pointer (some ⟨qb, 0, none⟩), .pointer (some ⟨sb, 0, none⟩)] 82)).drew = w0 at *
  go_wp2_with fail
  go_loopw [2, 20] (fun v2 v20 wr => ∃ (i : Nat) (a : List Wk) (A2 : Option Addr) (cp m : Nat) (T : Nat → Prop) (cc : ChS), v20 = .int .i64 i ∧ v2 = .slice A2 m cp ∧ Hid (EndSt w wr S b rb qb sb R A B cc w.heap.size T a A2 cp m) ∧ Hid ((i = 0 ∧ cc = { c with closed := true } ∧ a = []) ∨ (i = 1 ∧ cc = { c with closed := true, rv := [] } ∧ a = onceW false [] c.rv) ∨ (i = 2 ∧ cc = { c with closed := true, rv := [], sd := [] } ∧ a = c.ends)) ∧ m ≤ 200000) (fun _ v20 _ => 2 - (intOf v20).toNat)
  case atStart => exact ⟨0, [], none, 0, 0, Nob, _, rfl, rfl, Hst, Lib.hid (.inl ⟨rfl, rfl, rfl⟩), by omega⟩
  case round =>
    obtain ⟨i, a, A2, cp, m, T, cc, rfl, rfl, HE, Hi, hm⟩ := hrel
    clear Hst
    rcases Hi.out with ⟨rfl, rfl, rfl⟩ | ⟨rfl, rfl, rfl⟩ | ⟨rfl, rfl, rfl⟩
    · have z0 := blk_cell HE.out.sqb 0 rfl
      have hm0 : m = 0 := HE.out.len.symm
      obtain ⟨tg, htg⟩ : ∃ tg : List Wk, tg = onceW false [] c.rv := ⟨_, rfl⟩
      have Htg := Lib.hid htg
      have Hm : Hid (m + c.rv.length ≤ 100000) := Lib.hid (by have := Hfew.out.1; omega)
      obtain ⟨a, ha⟩ : ∃ a : List Wk, a = [] := ⟨_, rfl⟩
      have Hgo0 : Hid (onceW false a c.rv = tg) := Lib.hid (by rw [ha, htg])
      rw [← ha] at HE
      clear Hi hm hm0 ha htg
      go_wp2_with fail
      refine (wait_pop_any wr A qb c.rv HE.out.ch.recv).mono ?_
      rintro e w3 ⟨rfl, hf3, hq3⟩
      have HE3 := Lib.hid (HE.out.pop0 hf3 hq3)
      clear hf3 hq3
      go_wp2_with fail
      go_loopw [2, 5, 6] (fun v2 v5 v6 wx => ∃ (L : List Wt) (a : List Wk) (A2 : Option Addr) (cp m pb : Nat) (T : Nat → Prop), v2 = .slice A2 m cp ∧ v5 = .pointer (some ⟨pb, 0, none⟩) ∧ v6 = .bool (okW L) ∧ Hid (EndCur w wx S b rb qb sb R A B { c with closed := true, rv := L.tail } w.heap.size T a A2 cp m pb (hdW L)) ∧ Hid (onceW false a L = tg) ∧ m + L.length ≤ 100000) (fun _ _ v6 wx => cntOf (wx.cell? ⟨qb, 2, none⟩) + okN v6)
      case atStart => exact ⟨c.rv, a, A2, cp, m, w3.heap.size, T, rfl, rfl, rfl, Lib.hid (HE3.out.fresh (hdW c.rv)), Hgo0, by have := Hm.out; omega⟩
      case round =>
        obtain ⟨L, a, A2, cp, m, pb, T, rfl, rfl, rfl, HC0, Hgo, hmL⟩ := hrel
        cases L with
        | nil =>
          have hok : okW [] = false := rfl
          rw [hok]
          go_wp2_with fail
          go_roundw
          case rel => exact ⟨1, a, A2, cp, m, T, _, rfl, rfl, Lib.hid HC0.out.st, Lib.hid (.inr (.inl ⟨rfl, rfl, Hgo.out.trans Htg.out⟩)), by omega⟩
          case measure => simp [intOf]
        | cons x l =>
          have hok : okW (x :: l) = true := rfl
          have hhd : hdW (x :: l) = x := rfl
          have htl : (x :: l).tail = l := rfl
          rw [hok]
          rw [hhd, htl] at HC0
          clear hok hhd htl
          have hstep : onceW false (if a.any (fun y => y.1 == x.1) then a else a ++ [wakeOf x 0 false false]) l = tg := Hgo.out
          simp only [List.length_cons] at hmL
          have hmL0 : m ≤ 200000 := by omega
          have hct := contains_wakes wr (.slice A2 m cp) a m pb x.1 HC0.out.st.len HC0.out.st.sl.rd (blk_cell HC0.out.cur 0 rfl)
          generalize a.any (fun y => y.1 == x.1) = r at *
          have Hstep := Lib.hid hstep; have Hct := Lib.hid hct; have HmL := Lib.hid hmL
          clear hstep hct hmL Hgo
          have hqs : qb ≠ sb := fun e => (HC0.out.st.ch.subB sb HC0.out.st.ch.send.own.1).2.2.2 (by rw [← e]; exact HC0.out.st.ch.recv.own.1)
          cases r with
          | true =>
            have Hs2 : Hid (onceW false a l = tg) := Lib.hid (by have := Hstep.out; rwa [if_pos rfl] at this)
            go_wp2_with fail
            refine Hct.out.mono ?_
            rintro e w2 ⟨rfl, hf2⟩
            have HX := Lib.hid (HC0.out.fr0 hf2)
            have e0 := blk_cell HX.out.cur 0 rfl
            have e1 := blk_cell HX.out.cur 1 rfl
            have e2 := blk_cell HX.out.cur 2 rfl
            have HY := Lib.hid (HX.out.st.fresh x)
            clear hf2
            go_wp2_with fail
            refine (wait_pop_any _ A qb l HY.out.st.ch.recv).mono ?_
            rintro e w4 ⟨rfl, hf4, hq4⟩
            have Hcur := Lib.hid (HY.out.pop0 hf4 hq4)
            have g0 := blk_cell Hcur.out.cur 0 rfl
            have g1 := blk_cell Hcur.out.cur 1 rfl
            have g2 := blk_cell Hcur.out.cur 2 rfl
            have k0 := blk_froz Hcur.out.cur 0
            have k1 := blk_froz Hcur.out.cur 1
            have k2 := blk_froz Hcur.out.cur 2
            have Hcnt := Lib.hid hq4.count
            clear hf4 hq4
            go_wp2_with fail
            go_roundw
            case rel => exact ⟨l, a, _, _, _, _, _, rfl, rfl, rfl, Lib.hid (Hcur.out.put (hdW l)), Hs2, by have := HmL.out; omega⟩
            case measure =>
              have h1 := okN_le l
              have h2 := ((Hcur.out.put (hdW l)).st.ch.recv).count
              have h3 := HC0.out.st.ch.recv.count
              rw [show cntOf _ = l.tail.length from h2, show cntOf _ = l.length from h3]
              simp [okN] at h1 ⊢
              omega
          | false =>
            have Hs2 : Hid (onceW false (a ++ [wakeOf x 0 false false]) l = tg) := Lib.hid (by have := Hstep.out; rwa [if_neg (by simp)] at this)
            go_wp2_with fail
            refine Hct.out.mono ?_
            rintro e w2 ⟨rfl, hf2⟩
            have HX := Lib.hid (HC0.out.fr0 hf2)
            have hkey : ∀ W, Fr T w2 W → W.cell? ⟨pb, 0, none⟩ = some (.int .i64 x.1) ∧ W.cell? ⟨pb, 1, none⟩ = some (.int .i64 x.2.1) ∧ W.cell? ⟨b, 2, none⟩ = some (.pointer (some ⟨sb, 0, none⟩)) ∧ (binOp .eql 82 (.pointer (some ⟨qb, 0, none⟩)) (.pointer (some ⟨sb, 0, none⟩))).run Try.prog W = .ok (.bool false) W := fun W hf => by
              have hd : ∀ k, S k → T k → False := fun k q q' => by have := HX.out.st.old k q; have := (HX.out.st.tn k q').1; omega
              refine ⟨blk_cell (hf.blk HX.out.pbt HX.out.cur) 0 rfl, blk_cell (hf.blk HX.out.pbt HX.out.cur) 1 rfl, (HX.out.st.ch.fr hf hd).cells.2.2.1, ?_⟩
              exact eql_queue_other (HX.out.st.ch.fr hf hd).recv (HX.out.st.ch.fr hf hd).send hqs
            have Key := Lib.hid hkey
            clear hf2 hkey
            go_wp2_with fail
            go_region_held3 (fun W => W.cell? ⟨pb, 0, none⟩ = some (.int .i64 x.1) ∧ W.cell? ⟨pb, 1, none⟩ = some (.int .i64 x.2.1) ∧ W.cell? ⟨b, 2, none⟩ = some (.pointer (some ⟨sb, 0, none⟩)) ∧ (binOp .eql 82 (.pointer (some ⟨qb, 0, none⟩)) (.pointer (some ⟨sb, 0, none⟩))).run Try.prog W = .ok (.bool false) W)
              ((refine Key.out _ ?_; repeat (first | with_reducible exact hf5 | with_reducible exact Fr.refl _ _ | with_reducible refine Fr.drew ?_ | with_reducible refine Fr.alloc ?_ _)))
              ((first | (refine step_append_sl _ rfl _ _ _ rfl T 37 _ 5 32 Try.underlying32 info_wake rfl (by omega) (.slice A2 m cp) m (wks a) rfl ((HX.out.st.sl.alloc _).drew) ⟨w2.heap.size, 0, none⟩ 1 1 [.int .i64 x.1, .int .i64 x.2.1, .int .i64 0, .bool false, .bool false] rfl rfl (fun j u hj => by rw [Addr.add_lit]; exact blk_cell (heap_alloc_new w2 _) _ (by rw [Nat.zero_add]; simpa using hj)) rfl (by omega) (by omega) ?_; intro v5 w5 hs5 hf50; have hf5 := (((Fr.refl T w2).alloc (.cells #[.int .i64 x.1, .int .i64 x.2.1, .int .i64 0, .bool false, .bool false] 37)).drew).trans0 hf50)))
            obtain ⟨A3, c3, rfl⟩ := hs5.slice
            have HX2 := Lib.hid ((HX.out.fr0 (((Fr.refl Nob w2).alloc (.cells #[.int .i64 x.1, .int .i64 x.2.1, .int .i64 0, .bool false, .bool false] 37)).drew)).append hf50 (wakeOf x 0 false false) hs5)
            have e20 := blk_cell HX2.out.cur 0 rfl
            have e21 := blk_cell HX2.out.cur 1 rfl
            have e22 := blk_cell HX2.out.cur 2 rfl
            clear hs5 hf5 hf50
            have HY := Lib.hid (HX2.out.st.fresh x)
            go_wp2_with fail
            refine (wait_pop_any _ A qb l HY.out.st.ch.recv).mono ?_
            rintro e w4 ⟨rfl, hf4, hq4⟩
            have Hcur := Lib.hid (HY.out.pop0 hf4 hq4)
            have g0 := blk_cell Hcur.out.cur 0 rfl
            have g1 := blk_cell Hcur.out.cur 1 rfl
            have g2 := blk_cell Hcur.out.cur 2 rfl
            have k0 := blk_froz Hcur.out.cur 0
            have k1 := blk_froz Hcur.out.cur 1
            have k2 := blk_froz Hcur.out.cur 2
            have Hcnt := Lib.hid hq4.count
            clear hf4 hq4
            go_wp2_with fail
            go_roundw
            case rel => exact ⟨l, (a ++ [wakeOf x 0 false false]), _, _, _, _, _, rfl, rfl, rfl, Lib.hid (Hcur.out.put (hdW l)), Hs2, by have := HmL.out; omega⟩
            case measure =>
              have h1 := okN_le l
              have h2 := ((Hcur.out.put (hdW l)).st.ch.recv).count
              have h3 := HC0.out.st.ch.recv.count
              rw [show cntOf _ = l.tail.length from h2, show cntOf _ = l.length from h3]
              simp [okN] at h1 ⊢
              omega
    · have z1 := blk_cell HE.out.sqb 1 rfl
      have hm1 : m ≤ 100000 := by have := HE.out.len; have := Hle.out; have := Hfew.out.1; simp at *; omega
      obtain ⟨tg, htg⟩ : ∃ tg : List Wk, tg = c.ends := ⟨_, rfl⟩
      have Htg := Lib.hid htg
      have Hm : Hid (m + c.sd.length ≤ 200000) := Lib.hid (by have := Hfew.out.2; omega)
      obtain ⟨a, ha⟩ : ∃ a : List Wk, a = onceW false [] c.rv := ⟨_, rfl⟩
      have Hgo0 : Hid (onceW true a c.sd = tg) := Lib.hid (by rw [ha, htg]; rfl)
      rw [← ha] at HE
      clear Hi hm hm1 ha htg
      go_wp2_with fail
      refine (wait_pop_any wr B sb c.sd HE.out.ch.send).mono ?_
      rintro e w3 ⟨rfl, hf3, hq3⟩
      have HE3 := Lib.hid (HE.out.pop1 hf3 hq3)
      clear hf3 hq3
      go_wp2_with fail
      go_loopw [2, 5, 6] (fun v2 v5 v6 wx => ∃ (L : List Wt) (a : List Wk) (A2 : Option Addr) (cp m pb : Nat) (T : Nat → Prop), v2 = .slice A2 m cp ∧ v5 = .pointer (some ⟨pb, 0, none⟩) ∧ v6 = .bool (okW L) ∧ Hid (EndCur w wx S b rb qb sb R A B { c with closed := true, rv := [], sd := L.tail } w.heap.size T a A2 cp m pb (hdW L)) ∧ Hid (onceW true a L = tg) ∧ m + L.length ≤ 200000) (fun _ _ v6 wx => cntOf (wx.cell? ⟨sb, 2, none⟩) + okN v6)
      case atStart => exact ⟨c.sd, a, A2, cp, m, w3.heap.size, T, rfl, rfl, rfl, Lib.hid (HE3.out.fresh (hdW c.sd)), Hgo0, by have := Hm.out; omega⟩
      case round =>
        obtain ⟨L, a, A2, cp, m, pb, T, rfl, rfl, rfl, HC0, Hgo, hmL⟩ := hrel
        cases L with
        | nil =>
          have hok : okW [] = false := rfl
          rw [hok]
          go_wp2_with fail
          go_roundw
          case rel => exact ⟨2, a, A2, cp, m, T, _, rfl, rfl, Lib.hid HC0.out.st, Lib.hid (.inr (.inr ⟨rfl, rfl, Hgo.out.trans Htg.out⟩)), by omega⟩
          case measure => simp [intOf]
        | cons x l =>
          have hok : okW (x :: l) = true := rfl
          have hhd : hdW (x :: l) = x := rfl
          have htl : (x :: l).tail = l := rfl
          rw [hok]
          rw [hhd, htl] at HC0
          clear hok hhd htl
          have hstep : onceW true (if a.any (fun y => y.1 == x.1) then a else a ++ [wakeOf x 0 false true]) l = tg := Hgo.out
          simp only [List.length_cons] at hmL
          have hmL0 : m ≤ 200000 := by omega
          have hct := contains_wakes wr (.slice A2 m cp) a m pb x.1 HC0.out.st.len HC0.out.st.sl.rd (blk_cell HC0.out.cur 0 rfl)
          generalize a.any (fun y => y.1 == x.1) = r at *
          have Hstep := Lib.hid hstep; have Hct := Lib.hid hct; have HmL := Lib.hid hmL
          clear hstep hct hmL Hgo
          have hqs : True := trivial
          cases r with
          | true =>
            have Hs2 : Hid (onceW true a l = tg) := Lib.hid (by have := Hstep.out; rwa [if_pos rfl] at this)
            go_wp2_with fail
            refine Hct.out.mono ?_
            rintro e w2 ⟨rfl, hf2⟩
            have HX := Lib.hid (HC0.out.fr0 hf2)
            have e0 := blk_cell HX.out.cur 0 rfl
            have e1 := blk_cell HX.out.cur 1 rfl
            have e2 := blk_cell HX.out.cur 2 rfl
            have HY := Lib.hid (HX.out.st.fresh x)
            clear hf2
            go_wp2_with fail
            refine (wait_pop_any _ B sb l HY.out.st.ch.send).mono ?_
            rintro e w4 ⟨rfl, hf4, hq4⟩
            have Hcur := Lib.hid (HY.out.pop1 hf4 hq4)
            have g0 := blk_cell Hcur.out.cur 0 rfl
            have g1 := blk_cell Hcur.out.cur 1 rfl
            have g2 := blk_cell Hcur.out.cur 2 rfl
            have k0 := blk_froz Hcur.out.cur 0
            have k1 := blk_froz Hcur.out.cur 1
            have k2 := blk_froz Hcur.out.cur 2
            have Hcnt := Lib.hid hq4.count
            clear hf4 hq4
            go_wp2_with fail
            go_roundw
            case rel => exact ⟨l, a, _, _, _, _, _, rfl, rfl, rfl, Lib.hid (Hcur.out.put (hdW l)), Hs2, by have := HmL.out; omega⟩
            case measure =>
              have h1 := okN_le l
              have h2 := ((Hcur.out.put (hdW l)).st.ch.send).count
              have h3 := HC0.out.st.ch.send.count
              rw [show cntOf _ = l.tail.length from h2, show cntOf _ = l.length from h3]
              simp [okN] at h1 ⊢
              omega
          | false =>
            have Hs2 : Hid (onceW true (a ++ [wakeOf x 0 false true]) l = tg) := Lib.hid (by have := Hstep.out; rwa [if_neg (by simp)] at this)
            go_wp2_with fail
            refine Hct.out.mono ?_
            rintro e w2 ⟨rfl, hf2⟩
            have HX := Lib.hid (HC0.out.fr0 hf2)
            have hkey : ∀ W, Fr T w2 W → W.cell? ⟨pb, 0, none⟩ = some (.int .i64 x.1) ∧ W.cell? ⟨pb, 1, none⟩ = some (.int .i64 x.2.1) ∧ W.cell? ⟨b, 2, none⟩ = some (.pointer (some ⟨sb, 0, none⟩)) ∧ (binOp .eql 82 (.pointer (some ⟨sb, 0, none⟩)) (.pointer (some ⟨sb, 0, none⟩))).run Try.prog W = .ok (.bool true) W := fun W hf => by
              have hd : ∀ k, S k → T k → False := fun k q q' => by have := HX.out.st.old k q; have := (HX.out.st.tn k q').1; omega
              refine ⟨blk_cell (hf.blk HX.out.pbt HX.out.cur) 0 rfl, blk_cell (hf.blk HX.out.pbt HX.out.cur) 1 rfl, (HX.out.st.ch.fr hf hd).cells.2.2.1, ?_⟩
              exact eql_queue_same W sb
            have Key := Lib.hid hkey
            clear hf2 hkey
            go_wp2_with fail
            go_region_held3 (fun W => W.cell? ⟨pb, 0, none⟩ = some (.int .i64 x.1) ∧ W.cell? ⟨pb, 1, none⟩ = some (.int .i64 x.2.1) ∧ W.cell? ⟨b, 2, none⟩ = some (.pointer (some ⟨sb, 0, none⟩)) ∧ (binOp .eql 82 (.pointer (some ⟨sb, 0, none⟩)) (.pointer (some ⟨sb, 0, none⟩))).run Try.prog W = .ok (.bool true) W)
              ((refine Key.out _ ?_; repeat (first | with_reducible exact hf5 | with_reducible exact Fr.refl _ _ | with_reducible refine Fr.drew ?_ | with_reducible refine Fr.alloc ?_ _)))
              ((first | (refine step_append_sl _ rfl _ _ _ rfl T 37 _ 5 32 Try.underlying32 info_wake rfl (by omega) (.slice A2 m cp) m (wks a) rfl ((HX.out.st.sl.alloc _).drew) ⟨w2.heap.size, 0, none⟩ 1 1 [.int .i64 x.1, .int .i64 x.2.1, .int .i64 0, .bool false, .bool true] rfl rfl (fun j u hj => by rw [Addr.add_lit]; exact blk_cell (heap_alloc_new w2 _) _ (by rw [Nat.zero_add]; simpa using hj)) rfl (by omega) (by omega) ?_; intro v5 w5 hs5 hf50; have hf5 := (((Fr.refl T w2).alloc (.cells #[.int .i64 x.1, .int .i64 x.2.1, .int .i64 0, .bool false, .bool true] 37)).drew).trans0 hf50)))
            obtain ⟨A3, c3, rfl⟩ := hs5.slice
            have HX2 := Lib.hid ((HX.out.fr0 (((Fr.refl Nob w2).alloc (.cells #[.int .i64 x.1, .int .i64 x.2.1, .int .i64 0, .bool false, .bool true] 37)).drew)).append hf50 (wakeOf x 0 false true) hs5)
            have e20 := blk_cell HX2.out.cur 0 rfl
            have e21 := blk_cell HX2.out.cur 1 rfl
            have e22 := blk_cell HX2.out.cur 2 rfl
            clear hs5 hf5 hf50
            have HY := Lib.hid (HX2.out.st.fresh x)
            go_wp2_with fail
            refine (wait_pop_any _ B sb l HY.out.st.ch.send).mono ?_
            rintro e w4 ⟨rfl, hf4, hq4⟩
            have Hcur := Lib.hid (HY.out.pop1 hf4 hq4)
            have g0 := blk_cell Hcur.out.cur 0 rfl
            have g1 := blk_cell Hcur.out.cur 1 rfl
            have g2 := blk_cell Hcur.out.cur 2 rfl
            have k0 := blk_froz Hcur.out.cur 0
            have k1 := blk_froz Hcur.out.cur 1
            have k2 := blk_froz Hcur.out.cur 2
            have Hcnt := Lib.hid hq4.count
            clear hf4 hq4
            go_wp2_with fail
            go_roundw
            case rel => exact ⟨l, (a ++ [wakeOf x 0 false true]), _, _, _, _, _, rfl, rfl, rfl, Lib.hid (Hcur.out.put (hdW l)), Hs2, by have := HmL.out; omega⟩
            case measure =>
              have h1 := okN_le l
              have h2 := ((Hcur.out.put (hdW l)).st.ch.send).count
              have h3 := HC0.out.st.ch.send.count
              rw [show cntOf _ = l.tail.length from h2, show cntOf _ = l.length from h3]
              simp [okN] at h1 ⊢
              omega
    · have hmn : m = n := HE.out.len.symm.trans Hn.out
      subst hmn
      clear Hi hm
      go_wp2_with fail
      go_ret
      exact ⟨A2, cp, rfl, HE.out.fr, ⟨_, _, _, _, _, _, HE.out.ch⟩, HE.out.sl.mono fun k _ q => ⟨(HE.out.tn k q).1, fun q' => by have := HE.out.old k q'; have := (HE.out.tn k q).1; omega⟩⟩
def CloseP (w : World) (S : Nat → Prop) (b : Nat) (c : ChS) (l : List Wk) (n : Nat) (er : Int) (e : Ending) (w' : World) : Prop := ∃ (A : Option Addr) (cp : Nat), e = .returned (.tuple #[.slice A n cp, .int .i64 er]) ∧ Fr S w w' ∧ ChanAt w' S b c ∧ Sl w' (Off w.heap.size S) 37 5 (.slice A n cp) n (wks l)
theorem chan_close {w : World} {S : Nat → Prop} {b : Nat} {c c' : ChS} (h : ChanAt w S b c) (l : List Wk) (n : Nat) (er : Int) (hr : c.closeR = (l, er)) (hs : c.closeS = c') (hn : l.length = n) :
    Calls Try.prog 18 #[.pointer (some ⟨b, 0, none⟩)] w (CloseP w S b c' l n er) := by
  unfold ChS.closeR at hr; unfold ChS.closeS at hs
  by_cases hmu : c.mute = true
  · rw [if_pos hmu] at hr hs
    cases hr; subst hs; subst hn
    have Hm := Lib.hid (chan_mute w S b c h true hmu); have H := Lib.hid h
    clear h hmu
    go_enter Try.func18, Try.ntmps18
    go_wp2_with fail
    refine Hm.out.mono ?_
    rintro e _ ⟨rfl, rfl⟩
    go_wp2_with fail
    go_ret2
    exact ⟨none, 0, rfl, Fr.refl _ _, H.out, Sl.nil _ _ _ _⟩
  · rw [if_neg hmu] at hr hs
    have Hm := Lib.hid (chan_mute w S b c h false (by simpa using hmu))
    obtain ⟨rb, qb, sb, R, A, B, hp⟩ := id h
    obtain ⟨_, _, _, _, _, p5⟩ := hp.cells
    clear hp hmu
    by_cases hcl : c.closed = true
    · rw [if_pos hcl] at hr hs
      cases hr; subst hs; subst hn
      rw [hcl] at p5
      have H := Lib.hid h
      clear h hcl
      go_enter Try.func18, Try.ntmps18
      go_wp2_with fail
      refine Hm.out.mono ?_
      rintro e _ ⟨rfl, rfl⟩
      go_wp2_with fail
      go_ret2
      exact ⟨none, 0, rfl, Fr.refl _ _, H.out, Sl.nil _ _ _ _⟩
    · rw [if_neg hcl] at hr hs
      have hcl' : c.closed = false := by simpa using hcl
      cases hr; subst hs
      rw [hcl'] at p5
      have He := Lib.hid (chan_end h n hn)
      clear h hcl hcl'
      go_enter Try.func18, Try.ntmps18
      go_wp2_with fail
      refine Hm.out.mono ?_
      rintro e _ ⟨rfl, rfl⟩
      go_wp2_with fail
      refine He.out.mono ?_
      rintro e w1 ⟨A1, cp, rfl, hf, hc, hs⟩
      have Hf := Lib.hid hf; have Hc := Lib.hid hc; have Hs := Lib.hid hs
      clear hf hc hs
      go_wp2_with fail
      go_ret2
      exact ⟨_, _, rfl, Hf.out, Hc.out, Hs.out⟩
theorem chan_over {w : World} {S : Nat → Prop} {b : Nat} {c c' : ChS} (h : ChanAt w S b c) (l : List Wk) (n : Nat) (hr : c.endR = l) (hs : c.endS = c') (hn : l.length = n) :
    Calls Try.prog 57 #[.pointer (some ⟨b, 0, none⟩)] w (EndP w S b c' l n) := by
  unfold ChS.endR at hr; unfold ChS.endS at hs
  obtain ⟨rb, qb, sb, R, A, B, hp⟩ := id h
  obtain ⟨_, _, _, _, p4, p5⟩ := hp.cells
  have He := fun n hn => chan_end h n hn
  obtain ⟨sg, hsg⟩ : ∃ sg, c.signal = sg := ⟨_, rfl⟩
  obtain ⟨cl, hcl⟩ : ∃ cl, c.closed = cl := ⟨_, rfl⟩
  have H := Lib.hid h
  rw [hsg] at p4; rw [hcl] at p5
  cases sg with
  | false =>
    rw [hsg, if_pos (show (!false || c.closed) = true from rfl)] at hr
    rw [if_pos (show (!c.signal || c.closed) = true from by rw [hsg]; rfl)] at hs
    subst hr; subst hs; subst hn
    clear h hp He hsg hcl
    go_enter Try.func57, Try.ntmps57
    go_wp2_with fail
    go_ret
    exact ⟨none, 0, rfl, Fr.refl _ _, H.out, Sl.nil _ _ _ _⟩
  | true =>
    cases cl with
    | true =>
      rw [if_pos (show (!c.signal || c.closed) = true from by rw [hsg, hcl]; rfl)] at hs hr
      subst hr; subst hs; subst hn
      clear h hp He hsg hcl
      go_enter Try.func57, Try.ntmps57
      go_wp2_with fail
      go_ret
      exact ⟨none, 0, rfl, Fr.refl _ _, H.out, Sl.nil _ _ _ _⟩
    | false =>
      rw [if_neg (show ¬ (!c.signal || c.closed) = true from by rw [hsg, hcl]; simp)] at hs hr
      subst hr; subst hs
      have He2 := Lib.hid (He n hn)
      clear h hp He hsg hcl
      go_enter Try.func57, Try.ntmps57
      go_wp2_with fail
      refine He2.out.mono ?_
      rintro e w1 ⟨A1, cp, rfl, hf, hc, hs⟩
      have Hf := Lib.hid hf; have Hc := Lib.hid hc; have Hs := Lib.hid hs
      clear hf hc hs
      go_wp2_with fail
      go_ret
      exact ⟨_, _, rfl, Hf.out, Hc.out, Hs.out⟩
end Go.Proofs.Ytdemeghhjnehbaa

