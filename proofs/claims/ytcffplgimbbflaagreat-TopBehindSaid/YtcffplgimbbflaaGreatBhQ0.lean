/- TopBehind answers true whatever its inputs are: no condition. -/
import Derived.Test.YtcffplgimbbflaaGreatTkQ24
set_option linter.unusedVariables false
set_option linter.unusedSimpArgs false
namespace Go.Proofs.YtcffplgimbbflaaGreat
open Go.RowKit
set_option maxRecDepth 100000
section
variable {w w' : World} {S : Nat → Prop} {b rb qb sb : Nat} {R A B : Nat → Prop} {c : ChS}
/-- It is closed. -/
theorem ChP.close (h : ChP w S b rb qb sb R A B c) : ChP (w.setCell ⟨b, 5, none⟩ (.bool true)) S b rb qb sb R A B { c with closed := true } := by
  have hf : Fr (fun k => k = b) w (w.setCell ⟨b, 5, none⟩ (.bool true)) := (Fr.refl (fun k => k = b) w).setCell (p := ⟨b, 5, none⟩) (.inl rfl) _
  refine ⟨h.own, fun k q => by have := h.lt k q; have := hf.size; omega, h.subR, h.subA, h.subB, ?_, h.ring.fr hf fun k _ q e => (h.subR k q).2 e, h.recv.fr hf fun k q e => (h.subA k q).2.1 e, h.send.fr hf fun k q e => (h.subB k q).2.1 e⟩
  have := blk_set h.blk 5 (.bool true)
  rw [this]; rfl
end
/-! What the document says a channel does. -/
theorem chan_signal (w : World) : Calls Tryz.prog 185 #[] w (MadeP w chSignal) := by
  have H := Lib.hid (chan_new w 0 (by omega))
  go_enter Tryz.func185, Tryz.ntmps185
  go_wp2_with fail
  refine H.out.mono ?_
  rintro e w1 ⟨b, S, rfl, hf1, ⟨rb, qb, sb, R, A, B, hc1⟩, hS⟩
  obtain ⟨_, _, _, _, p4, _⟩ := hc1.cells
  have f4 := blk_froz hc1.blk 4
  have Hf1 := Lib.hid hf1; have Hc1 := Lib.hid hc1; have HS := Lib.hid hS
  clear hf1 hc1 hS
  go_wp2_with fail
  go_ret
  exact ⟨b, S, rfl, Hf1.out.setCell (p := ⟨b, 4, none⟩) (.inr (HS.out b Hc1.out.own)) _, ⟨rb, qb, sb, R, A, B, Hc1.out.settle (c' := chSignal) 4 _ rfl rfl rfl rfl rfl⟩, HS.out⟩
/-- wakes: the test. -/
theorem test_wakes (w : World) (x : Wk) (t : Int) (pb : Nat) (hp : w.cell? ⟨pb, 0, none⟩ = some (.int .i64 t)) :
    Calls Tryz.prog 209 #[.agg #[.int .i64 x.1, .int .i64 x.2.1, .int .i64 x.2.2.1, .bool x.2.2.2.1, .bool x.2.2.2.2], .pointer (some ⟨pb, 0, none⟩)] w fun e w' => e = .returned (.bool (x.1 == t)) ∧ Fr Nob w w' := by
  obtain ⟨a, d, e, f, m⟩ := x
  have hp1 := ((Fr.refl Nob w).alloc (.cells #[.int .i64 a, .int .i64 d, .int .i64 e, .bool f, .bool m] 225)).cell (p := ⟨pb, 0, none⟩) id hp
  go_enter Tryz.func209, Tryz.ntmps209
  go_wp2_with fail
  go_ret
  exact ⟨by first | rfl | simp, (Fr.refl _ _).alloc _⟩
set_option maxHeartbeats 1000000 in
theorem index_wakes (w : World) (v : Value) (l : List Wk) (n pb : Nat) (t : Int) (hn : l.length = n) (h : Rd w 5 v n (l.flatMap wkEn)) (hp : w.cell? ⟨pb, 0, none⟩ = some (.int .i64 t)) :
    Calls Tryz.prog 215 #[v, .func (.func 209) #[] #[.pointer (some ⟨pb, 0, none⟩)]] w (IxQ (l.any fun y => y.1 == t) w) := by
  obtain ⟨_, hl, A, c, rfl, hc1, hc2, hA⟩ := h
  unfold maxLen at hl
  have hyes : ∀ (k : Nat) (x : Wk), l[k]? = some x → (x.1 == t) = true → (l.any fun y => y.1 == t) = true := fun k x hk e => List.any_eq_true.2 ⟨x, List.mem_of_getElem? hk, e⟩
  have hno : (∀ (k : Nat) (x : Wk), k < n → l[k]? = some x → (x.1 == t) = false) → (l.any fun y => y.1 == t) = false := fun hh => by
    rw [List.any_eq_false]
    intro y hy
    obtain ⟨k, hk, e⟩ := List.mem_iff_getElem.1 hy
    rw [hh k y (by omega) (by rw [List.getElem?_eq_getElem hk, e])]; simp
  have hg : ∀ k, k < n → ∃ x : Wk, l[k]? = some x ∧ ∀ j u, j < 5 → (wkEn x)[j]? = some u → (l.flatMap wkEn)[k * 5 + j]? = some u := fun k hk => by
    have h0 : l[k]? = some (l[k]'(by omega)) := by simp
    exact ⟨_, h0, fun j u hj hu => (rowsGet wkEn (fun _ => rfl) l k j _ h0 hj).trans hu⟩
  have HA := Lib.hid hA; have Hyes := Lib.hid hyes; have Hno := Lib.hid hno; have Hg := Lib.hid hg; have Hp := Lib.hid hp
  generalize (l.any fun y => y.1 == t) = P at *
  clear hA hyes hno hg hp
  go_enter Tryz.func215, Tryz.ntmps215
  go_wp2_with fail
  go_loopw [8] (fun i wr => ∃ k : Nat, k ≤ n ∧ i = .int .i64 k ∧ Fr Nob w wr ∧ Hid (∀ (j : Nat) (x : Wk), j < k → l[j]? = some x → (x.1 == t) = false)) (fun i _ => n - (intOf i).toNat)
  case atStart => exact ⟨0, Nat.zero_le _, rfl, Fr.refl _ _, Lib.hid fun j x hj => by omega⟩
  case round =>
    obtain ⟨k, hk, rfl, hfr, hall⟩ := hrel
    have Hfr := Lib.hid hfr
    clear hfr
    by_cases hlt : k < n
    · obtain ⟨x, hx, hq⟩ := Hg.out k hlt
      obtain ⟨g, o, rfl, hgl, hc⟩ := HA.out (by omega)
      have hbc := fun W (hf : Fr Nob w W) => test_wakes W x t pb (hf.cell id Hp.out)
      have hy := Hyes.out k x hx
      have hall2 : (x.1 == t) = false → ∀ (j : Nat) (y : Wk), j < k + 1 → l[j]? = some y → (y.1 == t) = false := fun hb j y hj hy => by
        by_cases hjk : j = k
        · subst hjk; rw [hx] at hy; cases hy; exact hb
        · exact hall.out j y (by omega) hy
      generalize (x.1 == t) = r at *
      have x0 := Hfr.out.cell (p := ⟨g, o + (k * 5 + 0), none⟩) id (hc _ _ (hq 0 _ (by omega) rfl))
      have x1 := Hfr.out.cell (p := ⟨g, o + (k * 5 + 1), none⟩) id (hc _ _ (hq 1 _ (by omega) rfl))
      have x2 := Hfr.out.cell (p := ⟨g, o + (k * 5 + 2), none⟩) id (hc _ _ (hq 2 _ (by omega) rfl))
      have x3 := Hfr.out.cell (p := ⟨g, o + (k * 5 + 3), none⟩) id (hc _ _ (hq 3 _ (by omega) rfl))
      have x4 := Hfr.out.cell (p := ⟨g, o + (k * 5 + 4), none⟩) id (hc _ _ (hq 4 _ (by omega) rfl))
      rw [← Nat.add_assoc] at x1 x2 x3 x4
      rw [Nat.add_zero] at x0
      obtain ⟨a, d, e, f, m⟩ := x
      dsimp only at x0 x1 x2 x3 x4 hbc
      have Hbc := Lib.hid hbc; have Hy := Lib.hid hy; have Hall2 := Lib.hid hall2
      have hki : (k : Int) < n := by omega
      clear hc hq hx hbc hy hall2
      cases r with
      | false =>
        have Hn2 := Lib.hid (Hall2.out rfl)
        go_wp2_with fail
        refine (Hbc.out _ Hfr.out).mono ?_
        rintro e w2 ⟨rfl, hf2⟩
        have Hf2 := Lib.hid (Hfr.out.trans0 hf2)
        clear hf2
        go_wp2_with fail
        go_roundw
        case rel => exact ⟨k + 1, by omega, by go_num, Hf2.out, Hn2⟩
        case measure => simp [intOf]; omega
      | true =>
        have hP := Hy.out rfl
        have HP := Lib.hid hP
        clear hP
        go_wp2_with fail
        refine (Hbc.out _ Hfr.out).mono ?_
        rintro e w2 ⟨rfl, hf2⟩
        have Hf2 := Lib.hid (Hfr.out.trans0 hf2)
        clear hf2
        go_wp2_with fail
        go_ret
        exact ⟨k, rfl, by rw [HP.out]; simp, Hf2.out⟩
    · obtain rfl : k = n := by omega
      have HP := Lib.hid (Hno.out fun j x hj hx => hall.out j x hj hx)
      go_wp2_with fail
      go_ret
      exact ⟨-1, rfl, by rw [HP.out]; rfl, Hfr.out⟩
theorem contains_wakes (w : World) (v : Value) (l : List Wk) (n pb : Nat) (t : Int) (hn : l.length = n) (h : Rd w 5 v n (l.flatMap wkEn)) (hp : w.cell? ⟨pb, 0, none⟩ = some (.int .i64 t)) :
    Calls Tryz.prog 208 #[v, .func (.func 209) #[] #[.pointer (some ⟨pb, 0, none⟩)]] w fun e w' => e = .returned (.bool (l.any fun y => y.1 == t)) ∧ Fr Nob w w' := by
  have H := Lib.hid (index_wakes w v l n pb t hn h hp)
  obtain ⟨_, _, A, c, rfl, _⟩ := h
  generalize (l.any fun y => y.1 == t) = P at *
  clear hp
  go_enter Tryz.func208, Tryz.ntmps208
  go_wp2_with fail
  refine H.out.mono ?_
  rintro e w' ⟨r, rfl, hr, hf⟩
  have Hf := Lib.hid hf; have Hr := Lib.hid hr
  clear hf hr
  go_wp2_with fail
  go_ret
  exact ⟨by rw [← Hr.out]; rfl, Hf.out⟩
theorem info_wake : (Tryz.prog.info? 225).map (fun i => (i.zero, i.size, i.bytes)) = some (some (.agg #[.int .i64 0, .int .i64 0, .int .i64 0, .bool false, .bool false]), 5, 32) := by kernel_rfl
def hdW : List Wt → Wt
  | [] => (0, 0, 0)
  | x :: _ => x
def okW : List Wt → Bool
  | [] => false
  | _ :: _ => true
def cntOf : Option Value → Nat
  | some (.int _ n) => n.toNat
  | _ => 0
def okN : Value → Nat
  | .bool true => 1
  | _ => 0
theorem wait_pop_any (w : World) (S : Nat → Prop) (b : Nat) (l : List Wt) (h : WaitAt w S b l) :
    Calls Tryz.prog 160 #[.pointer (some ⟨b, 0, none⟩)] w fun e w' => e = .returned (.tuple #[wtVal (hdW l), .bool (okW l)]) ∧ Fr S w w' ∧ WaitAt w' S b l.tail := by
  cases l with
  | nil => exact (wait_pop_none w S b h).mono fun e w' ⟨h1, h2⟩ => ⟨h1, h2.none, h.fr0 h2⟩
  | cons x l => exact wait_pop_some w S b x l h
theorem WaitAt.count {w : World} {S : Nat → Prop} {b : Nat} {l : List Wt} (h : WaitAt w S b l) : cntOf (w.cell? ⟨b, 2, none⟩) = l.length := by
  obtain ⟨xs, h, rfl⟩ := h
  rw [blk_cell h.blk 2 rfl]
  simp [cntOf]
theorem okN_le (l : List Wt) : l.tail.length + okN (.bool (okW l)) = l.length := by cases l <;> simp [okN, okW]
section
variable {w wr w' : World} {S : Nat → Prop} {b rb qb sb : Nat} {R A B : Nat → Prop} {c : ChS} {sq : Nat} {T : Nat → Prop} {a : List Wk} {A2 : Option Addr} {cp n : Nat}
/-- Another who waits is at hand: in a block of its own. -/
theorem EndSt.fresh (h : EndSt w wr S b rb qb sb R A B c sq T a A2 cp n) (x : Wt) :
    EndCur w (wr.alloc (.cells #[.int .i64 x.1, .int .i64 x.2.1, .int .i64 x.2.2] 154)) S b rb qb sb R A B c sq T a A2 cp n wr.heap.size x :=
  ⟨h.fr0 ((Fr.refl _ _).alloc _), heap_alloc_new _ _, h.fr.size, fun e => by have := lt_of_block h.sqb; omega, fun q => by have := (h.tn _ q).2.1; omega⟩
end
theorem onceW_le (pn : Bool) : ∀ (l : List Wt) (acc : List Wk), (onceW pn acc l).length ≤ acc.length + l.length
  | [], acc => by simp [onceW]
  | x :: l, acc => by
    unfold onceW
    refine Nat.le_trans (onceW_le pn l _) ?_
    split <;> simp <;> omega
theorem EndSt.pop0 {w wr w' : World} {S : Nat → Prop} {b rb qb sb : Nat} {R A B : Nat → Prop} {c : ChS} {sq : Nat} {T : Nat → Prop} {a : List Wk} {A2 : Option Addr} {cp n : Nat} (h : EndSt w wr S b rb qb sb R A B c sq T a A2 cp n) {l : List Wt} (hf : Fr A wr w') (hq : WaitAt w' A qb l) : EndSt w w' S b rb qb sb R A B { c with rv := l } sq T a A2 cp n :=
  have hS : ∀ k, A k → k < w.heap.size := fun k q => h.old k (h.ch.subA k q).1
  ⟨h.fr.trans0 (hf.mono fun k _ q => (h.ch.subA k q).1), h.ch.toRecv hf hq, hf.blk (fun q => by have := hS _ q; have := h.sqn; omega) h.sqb, h.sqn, h.old, fun k q => ⟨(h.tn k q).1, by have := (h.tn k q).2.1; have := hf.size; omega, (h.tn k q).2.2⟩, h.sl.fr hf fun k q q' => by have := hS _ q'; have := (h.tn k q).1; omega, h.len⟩
theorem EndCur.pop0 {w wr w' : World} {S : Nat → Prop} {b rb qb sb : Nat} {R A B : Nat → Prop} {c : ChS} {sq : Nat} {T : Nat → Prop} {a : List Wk} {A2 : Option Addr} {cp n pb : Nat} {x : Wt} (h : EndCur w wr S b rb qb sb R A B c sq T a A2 cp n pb x) {l : List Wt} (hf : Fr A wr w') (hq : WaitAt w' A qb l) : EndCur w w' S b rb qb sb R A B { c with rv := l } sq T a A2 cp n pb x :=
  ⟨h.st.pop0 hf hq, hf.blk (fun q => by have := h.st.old _ (h.st.ch.subA _ q).1; have := h.pbn; omega) h.cur, h.pbn, h.pbs, h.pbt⟩
theorem EndSt.pop1 {w wr w' : World} {S : Nat → Prop} {b rb qb sb : Nat} {R A B : Nat → Prop} {c : ChS} {sq : Nat} {T : Nat → Prop} {a : List Wk} {A2 : Option Addr} {cp n : Nat} (h : EndSt w wr S b rb qb sb R A B c sq T a A2 cp n) {l : List Wt} (hf : Fr B wr w') (hq : WaitAt w' B sb l) : EndSt w w' S b rb qb sb R A B { c with sd := l } sq T a A2 cp n :=
  have hS : ∀ k, B k → k < w.heap.size := fun k q => h.old k (h.ch.subB k q).1
  ⟨h.fr.trans0 (hf.mono fun k _ q => (h.ch.subB k q).1), h.ch.toSend hf hq, hf.blk (fun q => by have := hS _ q; have := h.sqn; omega) h.sqb, h.sqn, h.old, fun k q => ⟨(h.tn k q).1, by have := (h.tn k q).2.1; have := hf.size; omega, (h.tn k q).2.2⟩, h.sl.fr hf fun k q q' => by have := hS _ q'; have := (h.tn k q).1; omega, h.len⟩
theorem EndCur.pop1 {w wr w' : World} {S : Nat → Prop} {b rb qb sb : Nat} {R A B : Nat → Prop} {c : ChS} {sq : Nat} {T : Nat → Prop} {a : List Wk} {A2 : Option Addr} {cp n pb : Nat} {x : Wt} (h : EndCur w wr S b rb qb sb R A B c sq T a A2 cp n pb x) {l : List Wt} (hf : Fr B wr w') (hq : WaitAt w' B sb l) : EndCur w w' S b rb qb sb R A B { c with sd := l } sq T a A2 cp n pb x :=
  ⟨h.st.pop1 hf hq, hf.blk (fun q => by have := h.st.old _ (h.st.ch.subB _ q).1; have := h.pbn; omega) h.cur, h.pbn, h.pbs, h.pbt⟩
def EndP (w : World) (S : Nat → Prop) (b : Nat) (c : ChS) (l : List Wk) (n : Nat) (e : Ending) (w' : World) : Prop := ∃ (A : Option Addr) (cp : Nat), e = .returned (.slice A n cp) ∧ Fr S w w' ∧ ChanAt w' S b c ∧ Sl w' (Off w.heap.size S) 225 5 (.slice A n cp) n (wks l)
theorem eql_queue_same (w : World) (q : Nat) : (binOp .eql 83 (.pointer (some ⟨q, 0, none⟩)) (.pointer (some ⟨q, 0, none⟩))).run Tryz.prog w = .ok (.bool true) w := by
  obtain ⟨j, hj, _⟩ := Option.map_eq_some_iff.1 (show (Tryz.prog.info? 152).map (fun i => i.size) = some 3 by kernel_rfl)
  exact run_eql_ptr_same w _ Tryz.underlying83 hj
theorem eql_queue_other {w : World} {p q : Nat} {S T : Nat → Prop} {k l : List Wt} (hp : WaitAt w S p k) (hq : WaitAt w T q l) (hne : p ≠ q) : (binOp .eql 83 (.pointer (some ⟨p, 0, none⟩)) (.pointer (some ⟨q, 0, none⟩))).run Tryz.prog w = .ok (.bool false) w := by
  obtain ⟨j, hj, hs⟩ := Option.map_eq_some_iff.1 (show (Tryz.prog.info? 152).map (fun i => i.size) = some 3 by kernel_rfl)
  obtain ⟨_, _, h1⟩ := hp.block
  obtain ⟨_, _, h2⟩ := hq.block
  exact run_eql_ptr_other w Tryz.underlying83 hj (by omega) (by simp [hne]) h1 h2
set_option maxHeartbeats 8000000 in
theorem chan_end {w : World} {S : Nat → Prop} {b : Nat} {c : ChS} (h : ChanAt w S b c) (n : Nat) (hn : c.ends.length = n) :
    Calls Tryz.prog 195 #[.pointer (some ⟨b, 0, none⟩)] w (EndP w S b c.shut c.ends n) := by
  obtain ⟨rb, qb, sb, R, A, B, h⟩ := h
  obtain ⟨_, _, _, _, _, p5⟩ := h.cells
  have f5 := blk_froz h.blk 5
  have hc1 := h.close
  obtain ⟨_, p1, p2, _, _, _⟩ := hc1.cells
  have hrv := h.recv.few; have hsd := h.send.few
  have hle := onceW_le false c.rv []
  have hst : EndSt w ((w.setCell ⟨b, 5, none⟩ (.bool true)).alloc (.cells #[.pointer (some ⟨qb, 0, none⟩), .pointer (some ⟨sb, 0, none⟩)] 83)).drew S b rb qb sb R A B { c with closed := true } w.heap.size Nob [] none 0 0 :=
    ⟨(((Fr.refl S w).setCell (p := ⟨b, 5, none⟩) (.inl h.own) _).alloc _).drew, hc1.fr0 (((Fr.refl Nob _).alloc _).drew), by rw [blk_drew]; exact blk_alloc_eq _ (by simp), Nat.le_refl _, h.lt, fun k q => q.elim, Sl.nil _ _ _ _, rfl⟩
  have H := Lib.hid h; have Hn := Lib.hid hn; have Hst := Lib.hid hst; have Hfew := Lib.hid (And.intro hrv hsd); have Hle := Lib.hid hle
  clear h hc1 hn hst hrv hsd hle
  go_enter Tryz.func195, Tryz.ntmps195
  go_wp2_with fail
  go_region
  clear p1 p2 p5 f5
  generalize ((w.setCell ⟨b, 5, none⟩ (.bool true)).alloc (.cells #[.pointer (some ⟨qb, 0, none⟩), .pointer (some ⟨sb, 0, none⟩)] 83)).drew = w0 at *
  go_wp2_with fail
  go_loopw [2, 20] (fun v2 v20 wr => ∃ (i : Nat) (a : List Wk) (A2 : Option Addr) (cp m : Nat) (T : Nat → Prop) (cc : ChS), v20 = .int .i64 i ∧ v2 = .slice A2 m cp ∧ Hid (EndSt w wr S b rb qb sb R A B cc w.heap.size T a A2 cp m) ∧ Hid ((i = 0 ∧ cc = { c with closed := true } ∧ a = []) ∨ (i = 1 ∧ cc = { c with closed := true, rv := [] } ∧ a = onceW false [] c.rv) ∨ (i = 2 ∧ cc = { c with closed := true, rv := [], sd := [] } ∧ a = c.ends)) ∧ m ≤ 200000) (fun _ v20 _ => 2 - (intOf v20).toNat)
  case atStart => exact ⟨0, [], none, 0, 0, Nob, _, rfl, rfl, Hst, Lib.hid (.inl ⟨rfl, rfl, rfl⟩), by omega⟩
  case round =>
    obtain ⟨i, a, A2, cp, m, T, cc, rfl, rfl, HE, Hi, hm⟩ := hrel
    clear Hst
    rcases Hi.out with ⟨rfl, rfl, rfl⟩ | ⟨rfl, rfl, rfl⟩ | ⟨rfl, rfl, rfl⟩
    · have z0 := blk_cell HE.out.sqb 0 rfl
      have hm0 : m = 0 := HE.out.len.symm
      obtain ⟨tg, htg⟩ : ∃ tg : List Wk, tg = onceW false [] c.rv := ⟨_, rfl⟩
      have Htg := Lib.hid htg
      have Hm : Hid (m + c.rv.length ≤ 100000) := Lib.hid (by have := Hfew.out.1; omega)
      obtain ⟨a, ha⟩ : ∃ a : List Wk, a = [] := ⟨_, rfl⟩
      have Hgo0 : Hid (onceW false a c.rv = tg) := Lib.hid (by rw [ha, htg])
      rw [← ha] at HE
      clear Hi hm hm0 ha htg
      go_wp2_with fail
      refine (wait_pop_any wr A qb c.rv HE.out.ch.recv).mono ?_
      rintro e w3 ⟨rfl, hf3, hq3⟩
      have HE3 := Lib.hid (HE.out.pop0 hf3 hq3)
      clear hf3 hq3
      go_wp2_with fail
      go_loopw [2, 5, 6] (fun v2 v5 v6 wx => ∃ (L : List Wt) (a : List Wk) (A2 : Option Addr) (cp m pb : Nat) (T : Nat → Prop), v2 = .slice A2 m cp ∧ v5 = .pointer (some ⟨pb, 0, none⟩) ∧ v6 = .bool (okW L) ∧ Hid (EndCur w wx S b rb qb sb R A B { c with closed := true, rv := L.tail } w.heap.size T a A2 cp m pb (hdW L)) ∧ Hid (onceW false a L = tg) ∧ m + L.length ≤ 100000) (fun _ _ v6 wx => cntOf (wx.cell? ⟨qb, 2, none⟩) + okN v6)
      case atStart => exact ⟨c.rv, a, A2, cp, m, w3.heap.size, T, rfl, rfl, rfl, Lib.hid (HE3.out.fresh (hdW c.rv)), Hgo0, by have := Hm.out; omega⟩
      case round =>
        obtain ⟨L, a, A2, cp, m, pb, T, rfl, rfl, rfl, HC0, Hgo, hmL⟩ := hrel
        cases L with
        | nil =>
          have hok : okW [] = false := rfl
          rw [hok]
          go_wp2_with fail
          go_roundw
          case rel => exact ⟨1, a, A2, cp, m, T, _, rfl, rfl, Lib.hid HC0.out.st, Lib.hid (.inr (.inl ⟨rfl, rfl, Hgo.out.trans Htg.out⟩)), by omega⟩
          case measure => simp [intOf]
        | cons x l =>
          have hok : okW (x :: l) = true := rfl
          have hhd : hdW (x :: l) = x := rfl
          have htl : (x :: l).tail = l := rfl
          rw [hok]
          rw [hhd, htl] at HC0
          clear hok hhd htl
          have hstep : onceW false (if a.any (fun y => y.1 == x.1) then a else a ++ [wakeOf x 0 false false]) l = tg := Hgo.out
          simp only [List.length_cons] at hmL
          have hmL0 : m ≤ 200000 := by omega
          have hct := contains_wakes wr (.slice A2 m cp) a m pb x.1 HC0.out.st.len HC0.out.st.sl.rd (blk_cell HC0.out.cur 0 rfl)
          generalize a.any (fun y => y.1 == x.1) = r at *
          have Hstep := Lib.hid hstep; have Hct := Lib.hid hct; have HmL := Lib.hid hmL
          clear hstep hct hmL Hgo
          have hqs : qb ≠ sb := fun e => (HC0.out.st.ch.subB sb HC0.out.st.ch.send.own.1).2.2.2 (by rw [← e]; exact HC0.out.st.ch.recv.own.1)
          cases r with
          | true =>
            have Hs2 : Hid (onceW false a l = tg) := Lib.hid (by have := Hstep.out; rwa [if_pos rfl] at this)
            go_wp2_with fail
            refine Hct.out.mono ?_
            rintro e w2 ⟨rfl, hf2⟩
            have HX := Lib.hid (HC0.out.fr0 hf2)
            have e0 := blk_cell HX.out.cur 0 rfl
            have e1 := blk_cell HX.out.cur 1 rfl
            have e2 := blk_cell HX.out.cur 2 rfl
            have HY := Lib.hid (HX.out.st.fresh x)
            clear hf2
            go_wp2_with fail
            refine (wait_pop_any _ A qb l HY.out.st.ch.recv).mono ?_
            rintro e w4 ⟨rfl, hf4, hq4⟩
            have Hcur := Lib.hid (HY.out.pop0 hf4 hq4)
            have g0 := blk_cell Hcur.out.cur 0 rfl
            have g1 := blk_cell Hcur.out.cur 1 rfl
            have g2 := blk_cell Hcur.out.cur 2 rfl
            have k0 := blk_froz Hcur.out.cur 0
            have k1 := blk_froz Hcur.out.cur 1
            have k2 := blk_froz Hcur.out.cur 2
            have Hcnt := Lib.hid hq4.count
            clear hf4 hq4
            go_wp2_with fail
            go_roundw
            case rel => exact ⟨l, a, _, _, _, _, _, rfl, rfl, rfl, Lib.hid (Hcur.out.put (hdW l)), Hs2, by have := HmL.out; omega⟩
            case measure =>
              have h1 := okN_le l
              have h2 := ((Hcur.out.put (hdW l)).st.ch.recv).count
              have h3 := HC0.out.st.ch.recv.count
              rw [show cntOf _ = l.tail.length from h2, show cntOf _ = l.length from h3]
              simp [okN] at h1 ⊢
              omega
          | false =>
            have Hs2 : Hid (onceW false (a ++ [wakeOf x 0 false false]) l = tg) := Lib.hid (by have := Hstep.out; rwa [if_neg (by simp)] at this)
            go_wp2_with fail
            refine Hct.out.mono ?_
            rintro e w2 ⟨rfl, hf2⟩
            have HX := Lib.hid (HC0.out.fr0 hf2)
            have hkey : ∀ W, Fr T w2 W → W.cell? ⟨pb, 0, none⟩ = some (.int .i64 x.1) ∧ W.cell? ⟨pb, 1, none⟩ = some (.int .i64 x.2.1) ∧ W.cell? ⟨b, 2, none⟩ = some (.pointer (some ⟨sb, 0, none⟩)) ∧ (binOp .eql 83 (.pointer (some ⟨qb, 0, none⟩)) (.pointer (some ⟨sb, 0, none⟩))).run Tryz.prog W = .ok (.bool false) W := fun W hf => by
              have hd : ∀ k, S k → T k → False := fun k q q' => by have := HX.out.st.old k q; have := (HX.out.st.tn k q').1; omega
              refine ⟨blk_cell (hf.blk HX.out.pbt HX.out.cur) 0 rfl, blk_cell (hf.blk HX.out.pbt HX.out.cur) 1 rfl, (HX.out.st.ch.fr hf hd).cells.2.2.1, ?_⟩
              exact eql_queue_other (HX.out.st.ch.fr hf hd).recv (HX.out.st.ch.fr hf hd).send hqs
            have Key := Lib.hid hkey
            clear hf2 hkey
            go_wp2_with fail
            go_region_held3 (fun W => W.cell? ⟨pb, 0, none⟩ = some (.int .i64 x.1) ∧ W.cell? ⟨pb, 1, none⟩ = some (.int .i64 x.2.1) ∧ W.cell? ⟨b, 2, none⟩ = some (.pointer (some ⟨sb, 0, none⟩)) ∧ (binOp .eql 83 (.pointer (some ⟨qb, 0, none⟩)) (.pointer (some ⟨sb, 0, none⟩))).run Tryz.prog W = .ok (.bool false) W)
              ((refine Key.out _ ?_; repeat (first | with_reducible exact hf5 | with_reducible exact Fr.refl _ _ | with_reducible refine Fr.drew ?_ | with_reducible refine Fr.alloc ?_ _)))
              ((first | (refine step_append_sl _ rfl _ _ _ rfl T 225 _ 5 32 Tryz.underlying124 info_wake rfl (by omega) (.slice A2 m cp) m (wks a) rfl ((HX.out.st.sl.alloc _).drew) ⟨w2.heap.size, 0, none⟩ 1 1 [.int .i64 x.1, .int .i64 x.2.1, .int .i64 0, .bool false, .bool false] rfl rfl (fun j u hj => by rw [Addr.add_lit]; exact blk_cell (heap_alloc_new w2 _) _ (by rw [Nat.zero_add]; simpa using hj)) rfl (by omega) (by omega) ?_; intro v5 w5 hs5 hf50; have hf5 := (((Fr.refl T w2).alloc (.cells #[.int .i64 x.1, .int .i64 x.2.1, .int .i64 0, .bool false, .bool false] 225)).drew).trans0 hf50)))
            obtain ⟨A3, c3, rfl⟩ := hs5.slice
            have HX2 := Lib.hid ((HX.out.fr0 (((Fr.refl Nob w2).alloc (.cells #[.int .i64 x.1, .int .i64 x.2.1, .int .i64 0, .bool false, .bool false] 225)).drew)).append hf50 (wakeOf x 0 false false) hs5)
            have e20 := blk_cell HX2.out.cur 0 rfl
            have e21 := blk_cell HX2.out.cur 1 rfl
            have e22 := blk_cell HX2.out.cur 2 rfl
            clear hs5 hf5 hf50
            have HY := Lib.hid (HX2.out.st.fresh x)
            go_wp2_with fail
            refine (wait_pop_any _ A qb l HY.out.st.ch.recv).mono ?_
            rintro e w4 ⟨rfl, hf4, hq4⟩
            have Hcur := Lib.hid (HY.out.pop0 hf4 hq4)
            have g0 := blk_cell Hcur.out.cur 0 rfl
            have g1 := blk_cell Hcur.out.cur 1 rfl
            have g2 := blk_cell Hcur.out.cur 2 rfl
            have k0 := blk_froz Hcur.out.cur 0
            have k1 := blk_froz Hcur.out.cur 1
            have k2 := blk_froz Hcur.out.cur 2
            have Hcnt := Lib.hid hq4.count
            clear hf4 hq4
            go_wp2_with fail
            go_roundw
            case rel => exact ⟨l, (a ++ [wakeOf x 0 false false]), _, _, _, _, _, rfl, rfl, rfl, Lib.hid (Hcur.out.put (hdW l)), Hs2, by have := HmL.out; omega⟩
            case measure =>
              have h1 := okN_le l
              have h2 := ((Hcur.out.put (hdW l)).st.ch.recv).count
              have h3 := HC0.out.st.ch.recv.count
              rw [show cntOf _ = l.tail.length from h2, show cntOf _ = l.length from h3]
              simp [okN] at h1 ⊢
              omega
    · have z1 := blk_cell HE.out.sqb 1 rfl
      have hm1 : m ≤ 100000 := by have := HE.out.len; have := Hle.out; have := Hfew.out.1; simp at *; omega
      obtain ⟨tg, htg⟩ : ∃ tg : List Wk, tg = c.ends := ⟨_, rfl⟩
      have Htg := Lib.hid htg
      have Hm : Hid (m + c.sd.length ≤ 200000) := Lib.hid (by have := Hfew.out.2; omega)
      obtain ⟨a, ha⟩ : ∃ a : List Wk, a = onceW false [] c.rv := ⟨_, rfl⟩
      have Hgo0 : Hid (onceW true a c.sd = tg) := Lib.hid (by rw [ha, htg]; rfl)
      rw [← ha] at HE
      clear Hi hm hm1 ha htg
      go_wp2_with fail
      refine (wait_pop_any wr B sb c.sd HE.out.ch.send).mono ?_
      rintro e w3 ⟨rfl, hf3, hq3⟩
      have HE3 := Lib.hid (HE.out.pop1 hf3 hq3)
      clear hf3 hq3
      go_wp2_with fail
      go_loopw [2, 5, 6] (fun v2 v5 v6 wx => ∃ (L : List Wt) (a : List Wk) (A2 : Option Addr) (cp m pb : Nat) (T : Nat → Prop), v2 = .slice A2 m cp ∧ v5 = .pointer (some ⟨pb, 0, none⟩) ∧ v6 = .bool (okW L) ∧ Hid (EndCur w wx S b rb qb sb R A B { c with closed := true, rv := [], sd := L.tail } w.heap.size T a A2 cp m pb (hdW L)) ∧ Hid (onceW true a L = tg) ∧ m + L.length ≤ 200000) (fun _ _ v6 wx => cntOf (wx.cell? ⟨sb, 2, none⟩) + okN v6)
      case atStart => exact ⟨c.sd, a, A2, cp, m, w3.heap.size, T, rfl, rfl, rfl, Lib.hid (HE3.out.fresh (hdW c.sd)), Hgo0, by have := Hm.out; omega⟩
      case round =>
        obtain ⟨L, a, A2, cp, m, pb, T, rfl, rfl, rfl, HC0, Hgo, hmL⟩ := hrel
        cases L with
        | nil =>
          have hok : okW [] = false := rfl
          rw [hok]
          go_wp2_with fail
          go_roundw
          case rel => exact ⟨2, a, A2, cp, m, T, _, rfl, rfl, Lib.hid HC0.out.st, Lib.hid (.inr (.inr ⟨rfl, rfl, Hgo.out.trans Htg.out⟩)), by omega⟩
          case measure => simp [intOf]
        | cons x l =>
          have hok : okW (x :: l) = true := rfl
          have hhd : hdW (x :: l) = x := rfl
          have htl : (x :: l).tail = l := rfl
          rw [hok]
          rw [hhd, htl] at HC0
          clear hok hhd htl
          have hstep : onceW true (if a.any (fun y => y.1 == x.1) then a else a ++ [wakeOf x 0 false true]) l = tg := Hgo.out
          simp only [List.length_cons] at hmL
          have hmL0 : m ≤ 200000 := by omega
          have hct := contains_wakes wr (.slice A2 m cp) a m pb x.1 HC0.out.st.len HC0.out.st.sl.rd (blk_cell HC0.out.cur 0 rfl)
          generalize a.any (fun y => y.1 == x.1) = r at *
          have Hstep := Lib.hid hstep; have Hct := Lib.hid hct; have HmL := Lib.hid hmL
          clear hstep hct hmL Hgo
          have hqs : True := trivial
          cases r with
          | true =>
            have Hs2 : Hid (onceW true a l = tg) := Lib.hid (by have := Hstep.out; rwa [if_pos rfl] at this)
            go_wp2_with fail
            refine Hct.out.mono ?_
            rintro e w2 ⟨rfl, hf2⟩
            have HX := Lib.hid (HC0.out.fr0 hf2)
            have e0 := blk_cell HX.out.cur 0 rfl
            have e1 := blk_cell HX.out.cur 1 rfl
            have e2 := blk_cell HX.out.cur 2 rfl
            have HY := Lib.hid (HX.out.st.fresh x)
            clear hf2
            go_wp2_with fail
            refine (wait_pop_any _ B sb l HY.out.st.ch.send).mono ?_
            rintro e w4 ⟨rfl, hf4, hq4⟩
            have Hcur := Lib.hid (HY.out.pop1 hf4 hq4)
            have g0 := blk_cell Hcur.out.cur 0 rfl
            have g1 := blk_cell Hcur.out.cur 1 rfl
            have g2 := blk_cell Hcur.out.cur 2 rfl
            have k0 := blk_froz Hcur.out.cur 0
            have k1 := blk_froz Hcur.out.cur 1
            have k2 := blk_froz Hcur.out.cur 2
            have Hcnt := Lib.hid hq4.count
            clear hf4 hq4
            go_wp2_with fail
            go_roundw
            case rel => exact ⟨l, a, _, _, _, _, _, rfl, rfl, rfl, Lib.hid (Hcur.out.put (hdW l)), Hs2, by have := HmL.out; omega⟩
            case measure =>
              have h1 := okN_le l
              have h2 := ((Hcur.out.put (hdW l)).st.ch.send).count
              have h3 := HC0.out.st.ch.send.count
              rw [show cntOf _ = l.tail.length from h2, show cntOf _ = l.length from h3]
              simp [okN] at h1 ⊢
              omega
          | false =>
            have Hs2 : Hid (onceW true (a ++ [wakeOf x 0 false true]) l = tg) := Lib.hid (by have := Hstep.out; rwa [if_neg (by simp)] at this)
            go_wp2_with fail
            refine Hct.out.mono ?_
            rintro e w2 ⟨rfl, hf2⟩
            have HX := Lib.hid (HC0.out.fr0 hf2)
            have hkey : ∀ W, Fr T w2 W → W.cell? ⟨pb, 0, none⟩ = some (.int .i64 x.1) ∧ W.cell? ⟨pb, 1, none⟩ = some (.int .i64 x.2.1) ∧ W.cell? ⟨b, 2, none⟩ = some (.pointer (some ⟨sb, 0, none⟩)) ∧ (binOp .eql 83 (.pointer (some ⟨sb, 0, none⟩)) (.pointer (some ⟨sb, 0, none⟩))).run Tryz.prog W = .ok (.bool true) W := fun W hf => by
              have hd : ∀ k, S k → T k → False := fun k q q' => by have := HX.out.st.old k q; have := (HX.out.st.tn k q').1; omega
              refine ⟨blk_cell (hf.blk HX.out.pbt HX.out.cur) 0 rfl, blk_cell (hf.blk HX.out.pbt HX.out.cur) 1 rfl, (HX.out.st.ch.fr hf hd).cells.2.2.1, ?_⟩
              exact eql_queue_same W sb
            have Key := Lib.hid hkey
            clear hf2 hkey
            go_wp2_with fail
            go_region_held3 (fun W => W.cell? ⟨pb, 0, none⟩ = some (.int .i64 x.1) ∧ W.cell? ⟨pb, 1, none⟩ = some (.int .i64 x.2.1) ∧ W.cell? ⟨b, 2, none⟩ = some (.pointer (some ⟨sb, 0, none⟩)) ∧ (binOp .eql 83 (.pointer (some ⟨sb, 0, none⟩)) (.pointer (some ⟨sb, 0, none⟩))).run Tryz.prog W = .ok (.bool true) W)
              ((refine Key.out _ ?_; repeat (first | with_reducible exact hf5 | with_reducible exact Fr.refl _ _ | with_reducible refine Fr.drew ?_ | with_reducible refine Fr.alloc ?_ _)))
              ((first | (refine step_append_sl _ rfl _ _ _ rfl T 225 _ 5 32 Tryz.underlying124 info_wake rfl (by omega) (.slice A2 m cp) m (wks a) rfl ((HX.out.st.sl.alloc _).drew) ⟨w2.heap.size, 0, none⟩ 1 1 [.int .i64 x.1, .int .i64 x.2.1, .int .i64 0, .bool false, .bool true] rfl rfl (fun j u hj => by rw [Addr.add_lit]; exact blk_cell (heap_alloc_new w2 _) _ (by rw [Nat.zero_add]; simpa using hj)) rfl (by omega) (by omega) ?_; intro v5 w5 hs5 hf50; have hf5 := (((Fr.refl T w2).alloc (.cells #[.int .i64 x.1, .int .i64 x.2.1, .int .i64 0, .bool false, .bool true] 225)).drew).trans0 hf50)))
            obtain ⟨A3, c3, rfl⟩ := hs5.slice
            have HX2 := Lib.hid ((HX.out.fr0 (((Fr.refl Nob w2).alloc (.cells #[.int .i64 x.1, .int .i64 x.2.1, .int .i64 0, .bool false, .bool true] 225)).drew)).append hf50 (wakeOf x 0 false true) hs5)
            have e20 := blk_cell HX2.out.cur 0 rfl
            have e21 := blk_cell HX2.out.cur 1 rfl
            have e22 := blk_cell HX2.out.cur 2 rfl
            clear hs5 hf5 hf50
            have HY := Lib.hid (HX2.out.st.fresh x)
            go_wp2_with fail
            refine (wait_pop_any _ B sb l HY.out.st.ch.send).mono ?_
            rintro e w4 ⟨rfl, hf4, hq4⟩
            have Hcur := Lib.hid (HY.out.pop1 hf4 hq4)
            have g0 := blk_cell Hcur.out.cur 0 rfl
            have g1 := blk_cell Hcur.out.cur 1 rfl
            have g2 := blk_cell Hcur.out.cur 2 rfl
            have k0 := blk_froz Hcur.out.cur 0
            have k1 := blk_froz Hcur.out.cur 1
            have k2 := blk_froz Hcur.out.cur 2
            have Hcnt := Lib.hid hq4.count
            clear hf4 hq4
            go_wp2_with fail
            go_roundw
            case rel => exact ⟨l, (a ++ [wakeOf x 0 false true]), _, _, _, _, _, rfl, rfl, rfl, Lib.hid (Hcur.out.put (hdW l)), Hs2, by have := HmL.out; omega⟩
            case measure =>
              have h1 := okN_le l
              have h2 := ((Hcur.out.put (hdW l)).st.ch.send).count
              have h3 := HC0.out.st.ch.send.count
              rw [show cntOf _ = l.tail.length from h2, show cntOf _ = l.length from h3]
              simp [okN] at h1 ⊢
              omega
    · have hmn : m = n := HE.out.len.symm.trans Hn.out
      subst hmn
      clear Hi hm
      go_wp2_with fail
      go_ret
      exact ⟨A2, cp, rfl, HE.out.fr, ⟨_, _, _, _, _, _, HE.out.ch⟩, HE.out.sl.mono fun k _ q => ⟨(HE.out.tn k q).1, fun q' => by have := HE.out.old k q'; have := (HE.out.tn k q).1; omega⟩⟩
theorem chan_over {w : World} {S : Nat → Prop} {b : Nat} {c c' : ChS} (h : ChanAt w S b c) (l : List Wk) (n : Nat) (hr : c.endR = l) (hs : c.endS = c') (hn : l.length = n) :
    Calls Tryz.prog 161 #[.pointer (some ⟨b, 0, none⟩)] w (EndP w S b c' l n) := by
  unfold ChS.endR at hr; unfold ChS.endS at hs
  obtain ⟨rb, qb, sb, R, A, B, hp⟩ := id h
  obtain ⟨_, _, _, _, p4, p5⟩ := hp.cells
  have He := fun n hn => chan_end h n hn
  obtain ⟨sg, hsg⟩ : ∃ sg, c.signal = sg := ⟨_, rfl⟩
  obtain ⟨cl, hcl⟩ : ∃ cl, c.closed = cl := ⟨_, rfl⟩
  have H := Lib.hid h
  rw [hsg] at p4; rw [hcl] at p5
  cases sg with
  | false =>
    rw [hsg, if_pos (show (!false || c.closed) = true from rfl)] at hr
    rw [if_pos (show (!c.signal || c.closed) = true from by rw [hsg]; rfl)] at hs
    subst hr; subst hs; subst hn
    clear h hp He hsg hcl
    go_enter Tryz.func161, Tryz.ntmps161
    go_wp2_with fail
    go_ret
    exact ⟨none, 0, rfl, Fr.refl _ _, H.out, Sl.nil _ _ _ _⟩
  | true =>
    cases cl with
    | true =>
      rw [if_pos (show (!c.signal || c.closed) = true from by rw [hsg, hcl]; rfl)] at hs hr
      subst hr; subst hs; subst hn
      clear h hp He hsg hcl
      go_enter Tryz.func161, Tryz.ntmps161
      go_wp2_with fail
      go_ret
      exact ⟨none, 0, rfl, Fr.refl _ _, H.out, Sl.nil _ _ _ _⟩
    | false =>
      rw [if_neg (show ¬ (!c.signal || c.closed) = true from by rw [hsg, hcl]; simp)] at hs hr
      subst hr; subst hs
      have He2 := Lib.hid (He n hn)
      clear h hp He hsg hcl
      go_enter Tryz.func161, Tryz.ntmps161
      go_wp2_with fail
      refine He2.out.mono ?_
      rintro e w1 ⟨A1, cp, rfl, hf, hc, hs⟩
      have Hf := Lib.hid hf; have Hc := Lib.hid hc; have Hs := Lib.hid hs
      clear hf hc hs
      go_wp2_with fail
      go_ret
      exact ⟨_, _, rfl, Hf.out, Hc.out, Hs.out⟩
/-- Two lists of whole numbers that read alike: true. -/
theorem alike_ints (w : World) (va vb : Value) (l : List Int) (ha : Rd w 1 va l.length (ints l)) (hb : Rd w 1 vb l.length (ints l)) :
    Calls Tryz.prog 14 #[va, vb] w fun e w' => e = .returned (.bool true) ∧ ∃ m, w' = w.drewN m := by
  obtain ⟨_, hl, A, ca, rfl, hca, hca2, hA⟩ := ha
  obtain ⟨_, _, B, cb, rfl, hcb, hcb2, hB⟩ := hb
  unfold maxLen at hl
  generalize hn : l.length = n at *
  have Hn := Lib.hid hn; clear hn
  have hnn : ((n : Int) != n) = false := by simp
  have HA := Lib.hid hA; have HB := Lib.hid hB; clear hA hB
  go_enter Tryz.func14, Tryz.ntmps14
  go_wp2
  go_loopw [5] (fun i wr => ∃ k m : Nat, k ≤ n ∧ i = .int .i64 k ∧ wr = w.drewN m) (fun i _ => n - (intOf i).toNat)
  case atStart => exact ⟨0, 0, Nat.zero_le _, rfl, rfl⟩
  case round =>
    obtain ⟨k, m, hk, rfl, rfl⟩ := hrel
    by_cases hlt : k < n
    · obtain ⟨g, o, rfl, hg, hc⟩ := HA.out (by omega)
      obtain ⟨g2, o2, rfl, hg2, hc2⟩ := HB.out (by omega)
      have h1 := hc k _ (ints_get (by rw [Hn.out]; exact hlt))
      have h2 := hc2 k _ (ints_get (by rw [Hn.out]; exact hlt))
      clear hc hc2
      generalize l.getD k 0 = x at *
      have hxx : (x != x) = false := by simp
      have hki : (k : Int) < (n : Int) := by omega
      go_wp2
      go_quiet (fail)
      go_wp2
      go_roundw
      case rel => exact ⟨k + 1, m + nq, by omega, by go_num, rfl⟩
      case measure => simp [intOf]; omega
    · go_wp2
      go_ret
      exact ⟨rfl, _, rfl⟩
theorem alike_ints_n (w : World) (va vb : Value) (l : List Int) (n : Nat) (hn : l.length = n) (ha : Rd w 1 va n (ints l)) (hb : Rd w 1 vb n (ints l)) :
    Calls Tryz.prog 14 #[va, vb] w fun e w' => e = .returned (.bool true) ∧ ∃ m, w' = w.drewN m := by
  subst hn; exact alike_ints w va vb l ha hb
theorem kidsN_le (ns : List Nd) (p : Int) : (kidsN ns p).length ≤ ns.length := by
  have := List.length_filter_le (hangs ns p) (List.range ns.length)
  simpa [kidsN] using this
theorem kids_len (ns : List Nd) (p : Int) : (kids ns p).length = (kidsN ns p).length := by simp [kids]
/-! One more -/
theorem kids_snoc_yes (ns : List Nd) (k : Nat) : kids (ns ++ [((k : Int), true)]) k = kids ns k ++ [(ns.length : Int)] := by
  unfold kids
  rw [kidsN_snoc]
  simp
/-! One taken off -/
/-! The walk -/
section
variable {w : World} {S : Nat → Prop} {B : Nat → Nat} {P : Nat → Option ChS} (h : Pool w S B P)
include h
theorem pool_over (i : Nat) {c c' : ChS} (hi : P i = some c) (l : List Wk) (n : Nat) (hr : c.endR = l) (hs : c.endS = c') (hn : l.length = n) :
    Calls Tryz.prog 161 #[.pointer (some ⟨B i, 0, none⟩)] w fun e w' => ∃ (A : Option Addr) (cp : Nat), e = .returned (.slice A n cp) ∧ Fr S w w' ∧ Pool w' S B (Go.Proofs.YtcffplgimbbflaaGreat.upd P i (some c')) ∧ Sl w' (From w.heap.size) 225 5 (.slice A n cp) n (wks l) := by
  obtain ⟨T, h1, h2, h3, _⟩ := h.at hi
  refine (chan_over h1 l n hr hs hn).mono ?_
  rintro e w' ⟨A, cp, rfl, hf, hc, hsl⟩
  exact ⟨A, cp, rfl, hf.mono fun k _ q => h2 k q, h3 w' c' hf hc, hsl.mono fun k _ q => q.1⟩
end
theorem flat_set {α : Type} (en : α → List Value) {sz : Nat} (hen : ∀ a, (en a).length = sz) : ∀ (l : List α) (p : Nat) (a a' : α) (j : Nat) (u : Value), l[p]? = some a → j < sz → en a' = (en a).set j u → (l.flatMap en).set (p * sz + j) u = (l.set p a').flatMap en
  | [], p, a, a', j, u, h, _, _ => by simp at h
  | x :: l, 0, a, a', j, u, h, hj, he => by
    simp at h; subst h
    rw [List.set_cons_zero, List.flatMap_cons, List.flatMap_cons, Nat.zero_mul, Nat.zero_add, List.set_append_left _ _ (by rw [hen]; exact hj), he]
  | x :: l, p + 1, a, a', j, u, h, hj, he => by
    rw [List.set_cons_succ, List.flatMap_cons, List.flatMap_cons, List.set_append_right _ _ (by rw [hen, Nat.add_mul]; omega), hen, show (p + 1) * sz + j - sz = p * sz + j by rw [Nat.add_mul]; omega, flat_set en hen l p a a' j u (by simpa using h) hj he]
/-- One more, that hangs on p. -/
theorem TAt.hang {w w' : World} {S : Nat → Prop} {b p z : Nat} {v v' kv : Value} {xs : List NdV} {x : NdV} {M : Nat → Prop} {K : Nat → Nat → Prop} (h : TAt w S b v xs M K) (hx : xs[p]? = some x) (hlt : xs.length < 1000)
    (hf : Fr (fun k => K p k ∨ M k ∨ k = b) w w') (hz : w.heap.size ≤ z) (hz' : z ≤ w'.heap.size)
    (hb : w'.heap[b]? = some (.cells #[v'] 170 (0, 0)))
    (hk : Sl w' (fun k => K p k ∨ (w.heap.size ≤ k ∧ k < z)) 3 1 kv ((kids (nds xs) p).length + 1) (ints (kids (nds xs) p ++ [(xs.length : Int)])))
    (hm : Sl w' (fun k => M k ∨ (z ≤ k ∧ k < w'.heap.size)) 203 3 v' (xs.length + 1) ((xs.set p (x.1, kv)).flatMap ndEn ++ ndEn (((p : Int), true), .slice none 0 0))) :
    TreeAt w' (And' S w w') b (nds xs ++ [((p : Int), true)]) := by
  have hp := (List.getElem?_eq_some_iff.1 hx).1
  have hbl := lt_of_block h.blk
  have e0 : nds (xs.set p (x.1, kv)) = nds xs := by
    unfold nds; rw [List.map_set]
    apply List.ext_getElem?
    intro i
    rw [List.getElem?_set]
    split
    · next e => subst e; rw [List.getElem?_map, hx]; simp [hp]
    · rfl
  have e1 : nds (xs.set p (x.1, kv) ++ [(((p : Int), true), .slice none 0 0)]) = nds xs ++ [((p : Int), true)] := by
    unfold nds at e0 ⊢; rw [List.map_append, e0]; rfl
  have el : (nds xs).length = xs.length := by simp
  refine ⟨v', xs.set p (x.1, kv) ++ [(((p : Int), true), .slice none 0 0)], fun k => M k ∨ (z ≤ k ∧ k < w'.heap.size), fun i k => if i = p then K p k ∨ (w.heap.size ≤ k ∧ k < z) else K i k, ?_, e1⟩
  refine ⟨.inl h.own, hb, ?_, ?_, ?_, ?_, ?_, ?_, ?_⟩
  · have : (xs.set p (x.1, kv) ++ [(((p : Int), true), Value.slice none 0 0)]).length = xs.length + 1 := by simp
    rw [this, List.flatMap_append]
    simpa using hm
  · intro i y hy
    rw [e1]
    rw [List.getElem?_append] at hy
    split at hy
    · rw [List.getElem?_set] at hy
      split at hy
      · next e =>
        subst e
        first | rw [if_pos (by omega)] at hy | skip
        cases hy
        simp only [if_true]
        rw [kids_snoc_yes, el]
        simpa using hk
      · next e =>
        rw [kids_snoc_no _ _ _ _ (.inr (by omega))]
        have eK : (fun k => if i = p then K p k ∨ (w.heap.size ≤ k ∧ k < z) else K i k) = K i := by
          funext k; rw [if_neg (fun q : i = p => e q.symm)]
        show Sl w' (fun k => if i = p then K p k ∨ (w.heap.size ≤ k ∧ k < z) else K i k) _ _ _ _ _
        rw [eK]
        refine (h.kid i y hy).fr hf fun k q => ?_
        rintro (r | r | r)
        · exact e (h.apart _ _ _ r q)
        · exact (h.inK i k q).2.2.2.1 r
        · exact (h.inK i k q).2.2.1 r
    · next hge =>
      simp at hge
      have hi := (List.getElem?_eq_some_iff.1 hy).1
      simp at hi
      have hi0 : i = xs.length := by omega
      subst hi0
      simp at hy
      subst hy
      have hk0 : kids (nds xs ++ [((p : Int), true)]) xs.length = [] := by
        rw [kids_snoc_no _ _ _ _ (.inr (by omega))]
        unfold kids
        rw [kidsN_out _ h.ok _ (by rw [el]; omega)]; rfl
      rw [hk0]
      exact Sl.nil _ _ _ _
  · rintro k (q | q)
    · exact ⟨.inl (h.inM k q).1, (h.inM k q).2.1, Nat.lt_of_lt_of_le (h.inM k q).2.2 hf.size⟩
    · exact ⟨.inr ⟨by omega, q.2⟩, by omega, q.2⟩
  · intro i k q
    have hsz := hf.size
    by_cases hi : i = p
    · subst hi
      rw [if_pos rfl] at q
      rcases q with q | q
      · have := h.inK _ k q
        exact ⟨by simp; omega, .inl this.2.1, this.2.2.1, fun r => by rcases r with r | r; exact this.2.2.2.1 r; omega, by omega⟩
      · exact ⟨by simp; omega, .inr ⟨q.1, by omega⟩, by omega, fun r => by rcases r with r | r; have := (h.inM k r).2.2; omega; omega, by omega⟩
    · rw [if_neg hi] at q
      have := h.inK _ k q
      exact ⟨by simp; omega, .inl this.2.1, this.2.2.1, fun r => by rcases r with r | r; exact this.2.2.2.1 r; omega, by omega⟩
  · intro i j k qi qj
    by_cases hi : i = p
    · by_cases hj : j = p
      · omega
      · subst hi
        rw [if_pos rfl] at qi
        rw [if_neg hj] at qj
        rcases qi with qi | qi
        · exact h.apart _ _ _ qi qj
        · have := (h.inK _ _ qj).2.2.2.2; omega
    · rw [if_neg hi] at qi
      by_cases hj : j = p
      · subst hj
        rw [if_pos rfl] at qj
        rcases qj with qj | qj
        · exact h.apart _ _ _ qi qj
        · have := (h.inK _ _ qi).2.2.2.2; omega
      · rw [if_neg hj] at qj
        exact h.apart _ _ _ qi qj
  · rw [e1]
    exact ok_snoc _ h.ok _ _ (by omega) (by rw [el]; omega) fun _ => by omega
  · simp; omega
theorem info_intT : (Tryz.prog.info? 3).map (fun i => (i.zero, i.size, i.bytes)) = some (some (.int .i64 0), 1, 8) := by kernel_rfl
theorem tree_kids (w : World) (S : Nat → Prop) (b : Nat) (ns : List Nd) (i : Nat) (hi : i < ns.length) (h : TreeAt w S b ns) :
    Calls Tryz.prog 162 #[.pointer (some ⟨b, 0, none⟩), .int .i64 (i : Int)] w fun e w' => ∃ v, e = .returned v ∧ Fr Nob w w' ∧ Sl w' (From w.heap.size) 3 1 v (kids ns i).length (ints (kids ns i)) := by
  have H := Lib.hid (tree_has_yes w S b ns i _ rfl h hi)
  have hkl : (kids ns i).length ≤ ns.length := by rw [kids_len]; exact kidsN_le ns i
  have hfew := h.ok.2
  obtain ⟨v, xs, M, K, h, rfl⟩ := h
  have hil : i < xs.length := by simpa using hi
  have hy : xs[i]? = some xs[i] := by simp [hil]
  have hk := h.kid i _ hy
  obtain ⟨g, off, cap, hv, hM, hg, hc1, hc2, q0, q1, q2, hfz⟩ := h.cells i _ hy
  generalize xs[i] = y at *
  have c0 := blk_cell h.blk 0 rfl
  obtain ⟨Ak, ck, hAk⟩ := hk.slice
  rw [hAk] at hk q2
  have hcl := clone_ints w _ (kids (nds xs) i) _ rfl (by omega) hk.rd
  have Hcl := Lib.hid hcl
  subst hv
  clear h hy hi hfz q0 q1 hk hcl hAk
  generalize kids (nds xs) i = kk at *
  generalize xs.length = n at *
  have hin : (i : Int) < n := by omega
  unfold maxLen at hc2
  go_enter Tryz.func162, Tryz.ntmps162
  go_wp2_with fail
  refine H.out.mono ?_
  rintro e w' ⟨rfl, rfl⟩
  go_wp2_with fail
  refine Hcl.out.mono ?_
  rintro e w' ⟨v', rfl, hf, hs⟩
  obtain ⟨A', c', rfl⟩ := hs.slice
  have Hf := Lib.hid hf; have Hs := Lib.hid hs
  clear hf hs
  go_wp2_with fail
  go_ret
  exact ⟨_, rfl, Hf.out, Hs.out⟩
set_option maxHeartbeats 2000000 in
theorem tree_add_hang (w : World) (S : Nat → Prop) (b : Nat) (ns : List Nd) (p : Nat) (n : Nat) (hnn : ns.length = n) (h : TreeAt w S b ns) (hp2 : p < n) (hf : n < 1000) :
    Calls Tryz.prog 67 #[.pointer (some ⟨b, 0, none⟩), .int .i64 (p : Int), .bool true] w fun e w' => e = .returned (.tuple #[.int .i64 (n : Int), .int .i64 0]) ∧ Fr S w w' ∧ TreeAt w' (And' S w w') b (ns ++ [((p : Int), true)]) := by
  have hh := tree_has_yes w S b ns p n hnn h hp2
  have hkl : (kids ns p).length ≤ n := by rw [kids_len, ← hnn]; exact kidsN_le ns p
  obtain ⟨v, xs, M, K, h, rfl⟩ := h
  have hl2 : xs.length = n := by simpa using hnn
  have hx : xs[p]? = some xs[p] := by simp
  obtain ⟨g, off, cap, hv, hM, hg, hc1, hc2, q0, q1, q2, hfz⟩ := h.cells p _ hx
  have hk := h.kid p _ hx
  generalize xs[p] = x at *
  rw [hl2] at hv hc1
  subst hv
  have hs := h.main
  rw [hl2] at hs
  have hbM : ¬ M b := fun q => (h.inM _ q).2.1 rfl
  have hbK : ¬ K p b := fun q => (h.inK _ _ q).2.2.1 rfl
  have hgK : ¬ K p g := fun q => (h.inK _ _ q).2.2.2.1 hM
  have hbg : b ≠ g := fun e => hbM (by rw [e]; exact hM)
  have c0 := blk_cell h.blk 0 rfl
  have f0 := blk_froz h.blk 0
  have lb := lt_of_block h.blk
  have f2 := hfz (off + p * 3 + 2)
  generalize hkk' : kids (nds xs) (p : Int) = kk at *
  obtain ⟨Ak, ck, hAk⟩ := hk.slice
  obtain ⟨m, hm⟩ : ∃ m, kk.length = m := ⟨_, rfl⟩
  rw [hm] at hk hAk hkl
  rw [hAk] at hk q2
  have Hm := Lib.hid hm
  have hMS : ∀ k, M k → S k := fun k q => (h.inM k q).1
  have hKS : ∀ k, K p k → S k := fun k q => (h.inK p k q).2.1
  have hfin : ∀ w4 kv w5 v5, Fr (fun k => K p k ∨ k = g) w w4 → Sl w4 (fun k => K p k ∨ w.heap.size ≤ k) 3 1 kv (m + 1) (ints kk ++ [.int .i64 (n : Int)]) →
      Sl w5 (fun k => M k ∨ w4.heap.size ≤ k) 203 3 v5 (n + 1) ((xs.set p (x.1, kv)).flatMap ndEn ++ [.int .i64 (p : Int), .bool true, .slice none 0 0]) → Fr M w4 w5 →
      Fr S w (w5.setCell ⟨b, 0, none⟩ v5) ∧ TreeAt (w5.setCell ⟨b, 0, none⟩ v5) (And' S w (w5.setCell ⟨b, 0, none⟩ v5)) b (nds xs ++ [((p : Int), true)]) := by
    intro w4 kv w5 v5 hf4 hk4 hs5 hf5
    have hb5 := hf5.blk hbM (hf4.blk (fun q => by rcases q with q | q; exact hbK q; exact hbg q) h.blk)
    have hz4 := hf4.size
    have hz5 := hf5.size
    have hset : Fr (fun k => k = b) w5 (w5.setCell ⟨b, 0, none⟩ v5) := (Fr.refl (fun k => k = b) w5).setCell (p := ⟨b, 0, none⟩) (.inl rfl) v5
    have hfw5 : Fr (fun k => K p k ∨ M k ∨ k = b) w (w5.setCell ⟨b, 0, none⟩ v5) :=
      ((hf4.mono (T := fun k => K p k ∨ M k ∨ k = b) fun k _ q => by rcases q with q | q; exact .inl q; exact .inr (.inl (by rw [q]; exact hM))).trans0 (hf5.mono fun k _ q => .inr (.inl q))).trans0 (hset.mono fun k _ q => .inr (.inr q))
    refine ⟨hfw5.mono fun k _ q => by rcases q with q | q | q; exact hKS k q; exact hMS k q; exact q ▸ h.own, h.hang hx (by omega) hfw5 hz4 (by simpa using hz5) (blk_set hb5 0 _) (kv := kv) ?_ ?_⟩
    · rw [hkk', hm, hl2]
      have hk5 := ((hk4.mono (S' := fun k => K p k ∨ (w.heap.size ≤ k ∧ k < w4.heap.size)) fun k hk q => by rcases q with q | q; exact .inl q; exact .inr ⟨q, hk⟩).fr hf5 (fun k q r => by
        rcases q with q | q
        · exact (h.inK p k q).2.2.2.1 r
        · have := (h.inM k r).2.2; omega)).fr hset (fun k q r => by
        have r' : k = b := r
        subst r'
        rcases q with q | q
        · exact hbK q
        · omega)
      simpa [ints] using hk5
    · rw [hl2]
      exact (hs5.fr hset (fun k q r => by
        have r' : k = b := r
        subst r'
        rcases q with q | q
        · exact hbM q
        · omega)).mono fun k hk q => by rcases q with q | q; exact .inl q; exact .inr ⟨q, hk⟩
  have hset2 : ∀ w3 kv, Fr (K p) w w3 → Sl (w3.setCell ⟨g, off + p * 3 + 2, none⟩ kv) M 203 3 (.slice (some ⟨g, off, none⟩) n cap) n ((xs.set p (x.1, kv)).flatMap ndEn) := by
    intro w3 kv hf3
    have h1 := (hs.fr hf3 fun k q r => (h.inK p k r).2.2.2.1 q).set (p * 3 + 2) (by omega) kv
    rw [flat_set ndEn (fun _ => rfl) xs p x (x.1, kv) 2 kv hx (by omega) rfl, ← Nat.add_assoc] at h1
    exact h1
  have Hfin := Lib.hid hfin; have Hset2 := Lib.hid hset2
  have Hk := Lib.hid hk; have Hs := Lib.hid hs; have Hb := Lib.hid h.blk; have Hh := Lib.hid hh; have HM := Lib.hid hM; have HbM := Lib.hid hbM; have HbK := Lib.hid hbK; have HgK := Lib.hid hgK; have Hbg := Lib.hid hbg
  have c0' : w.cell? ⟨b, 0, none⟩ = some (.slice (some ⟨g, off, none⟩) n cap) := c0
  have q2' : w.cell? ⟨g, off + p * 3 + 2, none⟩ = some (.slice Ak m ck) := q2
  have C0 := Lib.hid c0'; have C2 := Lib.hid q2; have F2 := Lib.hid f2
  clear hk hs h hh hx hM hbM hbK hgK hAk hnn hl2 hm hfz q0 q1 c0 hfin hset2 hMS hKS hkk' hbg
  unfold maxLen at hc2
  have h3 : ¬ (1000 : Int) ≤ n := by omega
  have hpi : (p : Int) < n := by omega
  have hp0 : (0 : Int) ≤ p := by omega
  have hb1 : ((p : Int) != -1) = true := by simp
  go_enter Tryz.func67, Tryz.ntmps67
  go_wp2_with fail
  refine Hh.out.mono ?_
  rintro e w' ⟨rfl, rfl⟩
  go_wp2_with fail
  go_region_law ((refine step_append_sl _ (by rfl) _ _ _ (by rfl) (K p) 3 _ 1 8 Tryz.underlying39 info_intT rfl (by omega) (.slice Ak m ck) m (ints kk) (by rfl) ((Hk.out.alloc _).drew) ⟨w.heap.size, 0, none⟩ 1 1 [.int .i64 (n : Int)] (by rfl) (by rfl) (news_lit _ [.int .i64 (n : Int)] 3 (0, 0) _ (heap_alloc_new w _)) (by rfl) (by omega) (by omega) ?_; intro v3 w3 hs3 hf3; obtain ⟨A3, c3, rfl⟩ := hs3.slice; have hfw := ((((Fr.refl (K p) w).alloc (.cells #[.int .i64 (n : Int)] 3)).drew).trans0 hf3); have d0 := hfw.cell (p := ⟨b, 0, none⟩) HbK.out C0.out; have d2 := hfw.cell (p := ⟨g, off + p * 3 + 2, none⟩) HgK.out C2.out; have g2 := (hfw.frozen (p := ⟨g, off + p * 3 + 2, none⟩) HgK.out hg).trans F2.out; have Hs3 := Lib.hid hs3; have Hfw := Lib.hid hfw; clear hs3 hf3 hfw))
  all_goals
    have Hs4 := Lib.hid (Hset2.out w3 (.slice A3 (m + 1) c3) Hfw.out)
    have Hf4 : Hid (Fr (fun k => K p k ∨ k = g) w (w3.setCell ⟨g, off + p * 3 + 2, none⟩ (.slice A3 (m + 1) c3))) := (Hfw.out.mono fun k _ q => .inl q).setCell (.inl (.inr rfl)) _
    have Hk4 : Hid (Sl (w3.setCell ⟨g, off + p * 3 + 2, none⟩ (.slice A3 (m + 1) c3)) (fun k => K p k ∨ w.heap.size ≤ k) 3 1 (.slice A3 (m + 1) c3) (m + 1) (ints kk ++ [.int .i64 (n : Int)])) :=
      (Hs3.out.mono (S' := fun k => K p k ∨ w.heap.size ≤ k) fun k hk q => by rcases q with q | q; exact .inl q; (try simp at q); exact .inr (by omega)).fr ((Fr.refl (fun k => k = g) w3).setCell (p := ⟨g, off + p * 3 + 2, none⟩) (.inl rfl) _) fun k q r => by
        have r' : k = g := r
        subst r'
        rcases q with q | q
        · exact HgK.out q
        · omega
    have e0 := Hf4.out.cell (p := ⟨b, 0, none⟩) (fun q => by rcases q with q | q; exact HbK.out q; exact Hbg.out q) C0.out
    have Hb4 := Lib.hid (Hf4.out.blk (fun q => by rcases q with q | q; exact HbK.out q; exact Hbg.out q) Hb.out)
    clear d0 d2 g2 Hs3 Hfw
    generalize w3.setCell ⟨g, off + p * 3 + 2, none⟩ (.slice A3 (m + 1) c3) = w4 at *
    go_wp2_with (at_builtin; refine wpList_append1 _ rfl _ _ _ rfl M 203 _ 3 40 Tryz.underlying168 info_node rfl (by omega) (.slice (some ⟨g, off, none⟩) n cap) n _ [.int .i64 (p : Int), .bool true, .slice none 0 0] rfl Hs4.out rfl rfl rfl (by omega) (by omega) ?_; intro v5 w5 hs5 hf5 hz5; obtain ⟨A5, c5, rfl⟩ := hs5.slice; have hb5 := hf5.blk HbM.out Hb4.out; have d5 := blk_cell hb5 0 rfl; have g5 := blk_froz hb5 0; have Hs5 := Lib.hid hs5; have Hf5 := Lib.hid hf5; clear hb5 hs5 hf5)
    go_ret2
    exact ⟨rfl, Hfin.out _ _ _ _ Hf4.out Hk4.out Hs5.out Hf5.out⟩
end Go.Proofs.YtcffplgimbbflaaGreat
