/- What end, Close and End of the document's own channel do. -/
import Derived.Test.YtdemeghhjnehbaaRefWaits
import Derived.Test.YtdemeghhjnehbaaRefMore
set_option linter.unusedVariables false
set_option linter.unusedSimpArgs false
namespace Go.Proofs.Ytdemeghhjnehbaa
open Go.RowKit
set_option maxRecDepth 100000
theorem once_snoc (pn : Bool) (x : Wt) : ∀ (l : List Wt) (acc : List Wk), onceW pn acc (l ++ [x]) = if (onceW pn acc l).any (fun y => y.1 == x.1) then onceW pn acc l else onceW pn acc l ++ [wakeOf x 0 false pn]
  | [], acc => by simp only [List.nil_append, onceW]; rfl
  | y :: l, acc => by
    rw [List.cons_append]
    unfold onceW
    exact once_snoc pn x l _
theorem once_take (pn : Bool) (l : List Wt) (acc : List Wk) (k : Nat) (x : Wt) (hx : l[k]? = some x) : onceW pn acc (l.take (k + 1)) = if (onceW pn acc (l.take k)).any (fun y => y.1 == x.1) then onceW pn acc (l.take k) else onceW pn acc (l.take k) ++ [wakeOf x 0 false pn] := by
  rw [List.take_add_one, hx]
  exact once_snoc pn x _ _
def EndF (w : World) (S : Nat → Prop) (b : Nat) (c' : ChS) (l : List Wk) (n : Nat) (e : Ending) (w' : World) : Prop := ∃ (A : Option Addr) (cp : Nat), e = .returned (.slice A n cp) ∧ RfTo w S b c' w' ∧ Rd w' 5 (.slice A n cp) n (wks l)
set_option maxHeartbeats 4000000 in
theorem rfend {w : World} {S : Nat → Prop} {b : Nat} {c : ChS} (h : RefAt w S b c) (hfew : c.Few) (n : Nat) (hn : c.ends.length = n) :
    Calls Try.prog 77 #[.pointer (some ⟨b, 0, none⟩)] w (EndF w S b c.shut c.ends n) := by
  obtain ⟨v1, v2, v3, h⟩ := h
  have hmk := fun W (hf : Fr (fun k => k = b) w W) (hb : W.heap[b]? = some (refObj c.shut v1 (.slice none 0 0) (.slice none 0 0))) => RfTo.make3 h hf hb rfl rfl (Sl.nil _ _ _ _) (Sl.nil _ _ _ _)
  obtain ⟨A1, c1, A2, c2, A3, c3, rfl, rfl, rfl, p0, p1, p2, p3, p4, p5, p6⟩ := h.cells
  have hR2 := h.sd.rd; have hR3 := h.rv.rd
  obtain ⟨m2, hm2⟩ : ∃ m2, c.sd.length = m2 := ⟨_, rfl⟩
  obtain ⟨m3, hm3⟩ : ∃ m3, c.rv.length = m3 := ⟨_, rfl⟩
  have hb := h.blk
  have hbl := lt_of_block hb
  rw [hm2] at p5 hR2; rw [hm3] at p6 hR3
  rw [hm2, hm3] at hb
  have hl2 : m2 ≤ 1000 := by have := hfew.2.1; omega
  have hl3 : m3 ≤ 1000 := by have := hfew.1; omega
  have hg2 : ∀ k, k < m2 → ∃ x : Wt, c.sd[k]? = some x ∧ ∀ j u, j < 3 → (wtCells x)[j]? = some u → (waits c.sd)[k * 3 + j]? = some u := fun k hk => by
    have h0 : c.sd[k]? = some (c.sd[k]'(by omega)) := by simp
    exact ⟨_, h0, fun j u hj hu => (rowsGet wtCells (fun _ => rfl) c.sd k j _ h0 hj).trans hu⟩
  have hg3 : ∀ k, k < m3 → ∃ x : Wt, c.rv[k]? = some x ∧ ∀ j u, j < 3 → (wtCells x)[j]? = some u → (waits c.rv)[k * 3 + j]? = some u := fun k hk => by
    have h0 : c.rv[k]? = some (c.rv[k]'(by omega)) := by simp
    exact ⟨_, h0, fun j u hj hu => (rowsGet wtCells (fun _ => rfl) c.rv k j _ h0 hj).trans hu⟩
  obtain ⟨_, _, A2', c2', e2, hcc1, hcc2, hA2⟩ := hR2
  cases e2
  obtain ⟨_, _, A3', c3', e3, hcc3, hcc4, hA3⟩ := hR3
  cases e3
  have Hmk := Lib.hid hmk; have Hb := Lib.hid hb; have Hg2 := Lib.hid hg2; have Hg3 := Lib.hid hg3; have HA2 := Lib.hid hA2; have HA3 := Lib.hid hA3; have Hn := Lib.hid hn
  have hlen2 : c.sd.length ≤ m2 := by omega
  have hlen3 : c.rv.length ≤ m3 := by omega
  clear hmk hb hg2 hg3 hA2 hA3 h hm2 hm3 hfew hn p0 p1 p2 p3 p4 p5 p6
  go_enter Try.func77, Try.ntmps77
  go_wp2_with fail
  go_loopw [3, 4] (fun vl i wr => ∃ (acc : List Wk) (k p : Nat), Hid (acc = onceW false [] (c.rv.take k)) ∧ Hid (acc.length = p) ∧ p ≤ 0 + k ∧ k ≤ m3 ∧ i = .int .i64 k ∧ ∃ A c, vl = .slice A p c ∧ Fr (From w.heap.size) w wr ∧ Sl wr (From w.heap.size) 37 5 (.slice A p c) p (wks acc)) (fun _ i _ => m3 - (intOf i).toNat)
  case atStart => exact ⟨[], 0, 0, Lib.hid rfl, Lib.hid rfl, by omega, Nat.zero_le _, rfl, none, 0, rfl, Fr.refl _ _, Sl.nil _ _ _ _⟩
  case round =>
    obtain ⟨acc, k, p, hacc, hp, hpk, hkn, rfl, A6, c6, rfl, hfr, hsl⟩ := hrel
    have Hfr := Lib.hid hfr; have Hsl := Lib.hid hsl
    have hfn : Fr Nob w wr := hfr.mono fun k hk q => by unfold From at q; omega
    have q5 := blk_cell (hfn.blk id Hb.out) 5 rfl; have q6 := blk_cell (hfn.blk id Hb.out) 6 rfl
    have hzr := hfn.size
    have Hfn := Lib.hid hfn
    clear hfr hsl hfn
    by_cases hlt : k < m3
    · obtain ⟨x, hx, hq⟩ := Hg3.out k hlt
      obtain ⟨g, o, rfl, hgl, hc⟩ := HA3.out (by omega)
      have hst := once_take false c.rv [] k x hx
      rw [← hacc.out] at hst
      obtain ⟨x0, x1, x2⟩ := x
      have y0 := Hfn.out.cell (p := ⟨g, o + (k * 3 + 0), none⟩) id (hc _ _ (hq 0 _ (by omega) rfl))
      have y1 := Hfn.out.cell (p := ⟨g, o + (k * 3 + 1), none⟩) id (hc _ _ (hq 1 _ (by omega) rfl))
      rw [← Nat.add_assoc] at y1
      rw [Nat.add_zero] at y0
      have hki : (k : Int) < m3 := by omega
      have hgw : g < wr.heap.size := by omega
      have hbw : b < wr.heap.size := by omega
      have Hmt := Lib.hid (ref_met wr _ acc p hp.out x0 Hsl.out.rd)
      have Hst := Lib.hid hst
      clear hst hc hq hx
      generalize hany : (acc.any fun y => y.1 == x0) = an at *
      have Hst2 : Hid (onceW false [] (c.rv.take (k + 1)) = if an = true then acc else acc ++ [wakeOf (x0, x1, x2) 0 false false]) := Lib.hid Hst.out
      clear hany Hst
      go_wp2_with fail
      refine Hmt.out.mono ?_
      rintro e _ ⟨rfl, rfl⟩
      cases an with
      | true =>
        have Hst3 : Hid (acc = onceW false [] (c.rv.take (k + 1))) := Lib.hid (by have := Hst2.out; rw [if_pos rfl] at this; exact this.symm)
        clear Hst2 Hmt
        go_wp2_with fail
        go_roundw
        case rel => exact ⟨acc, k + 1, p, Hst3, hp, by omega, by omega, by go_num, A6, c6, rfl, Hfr.out, Hsl.out⟩
        case measure => simp [intOf]; omega
      | false =>
        have Hst3 : Hid (acc ++ [(x0, x1, 0, false, false)] = onceW false [] (c.rv.take (k + 1))) := Lib.hid (by have := Hst2.out; rw [if_neg (by simp)] at this; exact this.symm)
        clear Hst2 Hmt
        have hkey : ∀ W, Fr (From w.heap.size) wr W → W.cell? ⟨b, 6, none⟩ = some (.slice (some ⟨g, o, none⟩) m3 c3) ∧ W.cell? ⟨g, o + k * 3, none⟩ = some (.int .i64 x0) ∧ W.cell? ⟨g, o + k * 3 + 1, none⟩ = some (.int .i64 x1) := fun W hf => ⟨hf.cell (p := ⟨b, 6, none⟩) (by unfold From; simp; omega) q6, hf.cell (p := ⟨g, o + k * 3, none⟩) (by unfold From; simp; omega) y0, hf.cell (p := ⟨g, o + k * 3 + 1, none⟩) (by unfold From; simp; omega) y1⟩
        have Key := Lib.hid hkey
        clear hkey
        go_wp2_with fail
        go_region_held3 (fun W => W.cell? ⟨b, 6, none⟩ = some (.slice (some ⟨g, o, none⟩) m3 c3) ∧ W.cell? ⟨g, o + k * 3, none⟩ = some (.int .i64 x0) ∧ W.cell? ⟨g, o + k * 3 + 1, none⟩ = some (.int .i64 x1))
          ((refine Key.out _ ?_; repeat (first | with_reducible exact hf5 | with_reducible exact Fr.refl _ _ | with_reducible refine Fr.drew ?_ | with_reducible refine Fr.alloc ?_ _)))
          ((first | (refine step_append_sl _ rfl _ _ _ rfl (From w.heap.size) 37 _ 5 32 Try.underlying32 info_wake rfl (by omega) (.slice A6 p c6) p (wks acc) rfl ((Hsl.out.alloc _).drew) ⟨wr.heap.size, 0, none⟩ 1 1 [.int .i64 x0, .int .i64 x1, .int .i64 0, .bool false, .bool false] rfl rfl (fun j u hj => by rw [Addr.add_lit]; exact blk_cell (heap_alloc_new wr _) _ (by rw [Nat.zero_add]; simpa using hj)) rfl (by omega) (by omega) ?_; intro v5 w5 hs5 hf50; have hf5 := (((Fr.refl (From w.heap.size) wr).alloc (.cells #[.int .i64 x0, .int .i64 x1, .int .i64 0, .bool false, .bool false] 37)).drew).trans0 hf50)))
        all_goals (
          obtain ⟨A3', c3', rfl⟩ := hs5.slice
          have Hs7 : Hid (Sl w5 (From w.heap.size) 37 5 (.slice A3' (p + 1) c3') (p + 1) (wks (acc ++ [(x0, x1, 0, false, false)]))) := Lib.hid (by have := hs5.mono (S' := From w.heap.size) (fun k hk q => by rcases q with q | q; exact q; (have h9 := ((Fr.refl Nob wr).alloc (.cells #[.int .i64 x0, .int .i64 x1, .int .i64 0, .bool false, .bool false] 37)).drew.size; unfold From; omega)); simpa [wks] using this)
          have Hf7 := Lib.hid (Hfr.out.trans0 hf5)
          have Hp7 : Hid ((acc ++ [((x0, x1, 0, false, false) : Wk)]).length = p + 1) := Lib.hid (by rw [List.length_append, hp.out]; rfl)
          clear hs5 hf5 hf50 Key y0 y1 q5 q6
          go_wp2_with fail
          go_roundw
          case rel => exact ⟨acc ++ [(x0, x1, 0, false, false)], k + 1, p + 1, Hst3, Hp7, by omega, by omega, by go_num, A3', c3', rfl, Hf7.out, Hs7.out⟩
          case measure => simp [intOf]; omega)
    · obtain rfl : m3 = k := by omega
      have Hacc1 : Hid (acc = onceW false [] c.rv) := Lib.hid (by rw [hacc.out, List.take_of_length_le (by omega)])
      have Hp1 := hp; have Hfr1 := Hfr; have Hsl1 := Hsl; have hp1k := hpk
      clear hacc hp Hfr Hsl
      generalize acc = acc1 at *
      generalize A6 = A1s at *
      generalize c6 = c1s at *
      generalize p = p1 at *
      go_wp2_with fail
      go_loopw [3, 5] (fun vl i wr => ∃ (acc : List Wk) (k p : Nat), Hid (acc = onceW true acc1 (c.sd.take k)) ∧ Hid (acc.length = p) ∧ p ≤ m3 + k ∧ k ≤ m2 ∧ i = .int .i64 k ∧ ∃ A c, vl = .slice A p c ∧ Fr (From w.heap.size) w wr ∧ Sl wr (From w.heap.size) 37 5 (.slice A p c) p (wks acc)) (fun _ i _ => m2 - (intOf i).toNat)
      case atStart => exact ⟨acc1, 0, p1, Lib.hid rfl, Hp1, by omega, Nat.zero_le _, rfl, A1s, c1s, rfl, Hfr1.out, Hsl1.out⟩
      case round =>
        obtain ⟨acc, k, p, hacc, hp, hpk, hkn, rfl, A6, c6, rfl, hfr, hsl⟩ := hrel
        have Hfr := Lib.hid hfr; have Hsl := Lib.hid hsl
        have hfn : Fr Nob w wr := hfr.mono fun k hk q => by unfold From at q; omega
        have q5 := blk_cell (hfn.blk id Hb.out) 5 rfl; have q6 := blk_cell (hfn.blk id Hb.out) 6 rfl
        have hzr := hfn.size
        have Hfn := Lib.hid hfn
        clear hfr hsl hfn
        by_cases hlt : k < m2
        · obtain ⟨x, hx, hq⟩ := Hg2.out k hlt
          obtain ⟨g, o, rfl, hgl, hc⟩ := HA2.out (by omega)
          have hst := once_take true c.sd acc1 k x hx
          rw [← hacc.out] at hst
          obtain ⟨x0, x1, x2⟩ := x
          have y0 := Hfn.out.cell (p := ⟨g, o + (k * 3 + 0), none⟩) id (hc _ _ (hq 0 _ (by omega) rfl))
          have y1 := Hfn.out.cell (p := ⟨g, o + (k * 3 + 1), none⟩) id (hc _ _ (hq 1 _ (by omega) rfl))
          rw [← Nat.add_assoc] at y1
          rw [Nat.add_zero] at y0
          have hki : (k : Int) < m2 := by omega
          have hgw : g < wr.heap.size := by omega
          have hbw : b < wr.heap.size := by omega
          have Hmt := Lib.hid (ref_met wr _ acc p hp.out x0 Hsl.out.rd)
          have Hst := Lib.hid hst
          clear hst hc hq hx
          generalize hany : (acc.any fun y => y.1 == x0) = an at *
          have Hst2 : Hid (onceW true acc1 (c.sd.take (k + 1)) = if an = true then acc else acc ++ [wakeOf (x0, x1, x2) 0 false true]) := Lib.hid Hst.out
          clear hany Hst
          go_wp2_with fail
          refine Hmt.out.mono ?_
          rintro e _ ⟨rfl, rfl⟩
          cases an with
          | true =>
            have Hst3 : Hid (acc = onceW true acc1 (c.sd.take (k + 1))) := Lib.hid (by have := Hst2.out; rw [if_pos rfl] at this; exact this.symm)
            clear Hst2 Hmt
            go_wp2_with fail
            go_roundw
            case rel => exact ⟨acc, k + 1, p, Hst3, hp, by omega, by omega, by go_num, A6, c6, rfl, Hfr.out, Hsl.out⟩
            case measure => simp [intOf]; omega
          | false =>
            have Hst3 : Hid (acc ++ [(x0, x1, 0, false, true)] = onceW true acc1 (c.sd.take (k + 1))) := Lib.hid (by have := Hst2.out; rw [if_neg (by simp)] at this; exact this.symm)
            clear Hst2 Hmt
            have hkey : ∀ W, Fr (From w.heap.size) wr W → W.cell? ⟨b, 5, none⟩ = some (.slice (some ⟨g, o, none⟩) m2 c2) ∧ W.cell? ⟨g, o + k * 3, none⟩ = some (.int .i64 x0) ∧ W.cell? ⟨g, o + k * 3 + 1, none⟩ = some (.int .i64 x1) := fun W hf => ⟨hf.cell (p := ⟨b, 5, none⟩) (by unfold From; simp; omega) q5, hf.cell (p := ⟨g, o + k * 3, none⟩) (by unfold From; simp; omega) y0, hf.cell (p := ⟨g, o + k * 3 + 1, none⟩) (by unfold From; simp; omega) y1⟩
            have Key := Lib.hid hkey
            clear hkey
            go_wp2_with fail
            go_region_held3 (fun W => W.cell? ⟨b, 5, none⟩ = some (.slice (some ⟨g, o, none⟩) m2 c2) ∧ W.cell? ⟨g, o + k * 3, none⟩ = some (.int .i64 x0) ∧ W.cell? ⟨g, o + k * 3 + 1, none⟩ = some (.int .i64 x1))
              ((refine Key.out _ ?_; repeat (first | with_reducible exact hf5 | with_reducible exact Fr.refl _ _ | with_reducible refine Fr.drew ?_ | with_reducible refine Fr.alloc ?_ _)))
              ((first | (refine step_append_sl _ rfl _ _ _ rfl (From w.heap.size) 37 _ 5 32 Try.underlying32 info_wake rfl (by omega) (.slice A6 p c6) p (wks acc) rfl ((Hsl.out.alloc _).drew) ⟨wr.heap.size, 0, none⟩ 1 1 [.int .i64 x0, .int .i64 x1, .int .i64 0, .bool false, .bool true] rfl rfl (fun j u hj => by rw [Addr.add_lit]; exact blk_cell (heap_alloc_new wr _) _ (by rw [Nat.zero_add]; simpa using hj)) rfl (by omega) (by omega) ?_; intro v5 w5 hs5 hf50; have hf5 := (((Fr.refl (From w.heap.size) wr).alloc (.cells #[.int .i64 x0, .int .i64 x1, .int .i64 0, .bool false, .bool true] 37)).drew).trans0 hf50)))
            all_goals (
              obtain ⟨A3', c3', rfl⟩ := hs5.slice
              have Hs7 : Hid (Sl w5 (From w.heap.size) 37 5 (.slice A3' (p + 1) c3') (p + 1) (wks (acc ++ [(x0, x1, 0, false, true)]))) := Lib.hid (by have := hs5.mono (S' := From w.heap.size) (fun k hk q => by rcases q with q | q; exact q; (have h9 := ((Fr.refl Nob wr).alloc (.cells #[.int .i64 x0, .int .i64 x1, .int .i64 0, .bool false, .bool true] 37)).drew.size; unfold From; omega)); simpa [wks] using this)
              have Hf7 := Lib.hid (Hfr.out.trans0 hf5)
              have Hp7 : Hid ((acc ++ [((x0, x1, 0, false, true) : Wk)]).length = p + 1) := Lib.hid (by rw [List.length_append, hp.out]; rfl)
              clear hs5 hf5 hf50 Key y0 y1 q5 q6
              go_wp2_with fail
              go_roundw
              case rel => exact ⟨acc ++ [(x0, x1, 0, false, true)], k + 1, p + 1, Hst3, Hp7, by omega, by omega, by go_num, A3', c3', rfl, Hf7.out, Hs7.out⟩
              case measure => simp [intOf]; omega)
        · obtain rfl : m2 = k := by omega
          have Hlast : Hid (acc = c.ends) := Lib.hid (by rw [hacc.out, List.take_of_length_le (by omega), Hacc1.out]; rfl)
          have hpn : p = n := by rw [← hp.out, Hlast.out]; exact Hn.out
          subst hpn
          have q3 := blk_cell (Hfn.out.blk id Hb.out) 3 rfl
          have f3 := blk_froz (Hfn.out.blk id Hb.out) 3; have f5 := blk_froz (Hfn.out.blk id Hb.out) 5; have f6 := blk_froz (Hfn.out.blk id Hb.out) 6
          go_wp2_with fail
          go_ret
          have hfx := ((((Fr.refl (fun k => k = b) wr).setCell (p := ⟨b, 6, none⟩) (.inl rfl) (.slice none 0 0)).setCell (p := ⟨b, 5, none⟩) (.inl rfl) (.slice none 0 0)).setCell (p := ⟨b, 3, none⟩) (.inl rfl) (.bool true))
          refine ⟨A6, c6, rfl, Hmk.out _ (Hfn.out.none.trans0 hfx) (by have := blk_set (blk_set (blk_set (Hfn.out.blk id Hb.out) 6 (.slice none 0 0)) 5 (.slice none 0 0)) 3 (.bool true); rw [this]; rfl), ?_⟩
          rw [← Hlast.out]
          exact (Hsl.out.fr hfx fun k q e => by unfold From at q; omega).rd
end Go.Proofs.Ytdemeghhjnehbaa
