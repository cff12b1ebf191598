/- Who waits on a channel, from outside; what two laws need. -/
import Derived.Test.YtcffplgimbbflaaGreatSlQ0
set_option linter.unusedVariables false
set_option linter.unusedSimpArgs false
namespace Go.Proofs.YtcffplgimbbflaaGreat
open Go.RowKit
set_option maxRecDepth 100000
def progB (ps : List Ins) : Bool := decide (ps.length ≤ 100) && ps.all fun i => goodB i ps.length
theorem insGet (ps : List Ins) (k j : Nat) (y : Ins) (h : ps[k]? = some y) (hj : j < 6) : (ps.flatMap insEn)[k * 6 + j]? = (insEn y)[j]? := by
  induction ps generalizing k with
  | nil => simp at h
  | cons x ps ih =>
    rw [List.flatMap_cons]
    cases k with
    | zero =>
      simp at h; subst h
      rw [Nat.zero_mul, Nat.zero_add, List.getElem?_append_left (by simpa using hj)]
    | succ k =>
      rw [List.getElem?_append_right (by simp; omega), show (k + 1) * 6 + j - (insEn x).length = k * 6 + j by simp; omega]
      exact ih k (by simpa using h)
/-- Of an instruction: that it may not be, among n. -/
theorem bad_instr (w : World) (i : Ins) (pb n : Nat) (A : Option Addr) (c : Nat) (hp : w.cell? ⟨pb, 0, none⟩ = some (.slice A n c)) (h : InsOk w i) :
    Calls Tryz.prog 63 #[insV i, .pointer (some ⟨pb, 0, none⟩)] w fun e w' => e = .returned (.bool (!(goodB i n))) ∧ Fr Nob w w' := by
  have hg := fun W (hf : Fr Nob w W) => good_any W i n (h.fr hf)
  obtain ⟨⟨op, a, b, k⟩, v, cs, d⟩ := i
  obtain ⟨_, _, A2, c2, hv, _⟩ := id h
  dsimp only at hv
  subst hv
  have hp1 := ((Fr.refl Nob w).alloc (.cells #[.int .i64 op, .int .i64 a, .int .i64 b, .int .i64 k, .slice A2 cs.length c2, .bool d] 25)).cell (p := ⟨pb, 0, none⟩) id hp
  generalize goodB _ _ = r at *
  have Hg := Lib.hid hg
  clear hg h
  go_enter Tryz.func63, Tryz.ntmps63
  go_wp2_with fail
  refine (Hg.out _ ((Fr.refl _ _).alloc _)).mono ?_
  rintro e w' ⟨rfl, hf⟩
  have Hf := Lib.hid hf
  clear hf hp1
  go_wp2_with fail
  go_ret
  exact ⟨rfl, ((Fr.refl Nob w).alloc _).trans0 Hf.out⟩
set_option maxHeartbeats 1000000 in
theorem index_instrs (w : World) (v : Value) (ps : List Ins) (n pb : Nat) (A0 : Option Addr) (c0 : Nat) (hn : ps.length = n) (h : Rd w 6 v n (ps.flatMap insEn)) (hok : ∀ i ∈ ps, InsOk w i) (hp : w.cell? ⟨pb, 0, none⟩ = some (.slice A0 n c0)) :
    Calls Tryz.prog 65 #[v, .func (.func 63) #[] #[.pointer (some ⟨pb, 0, none⟩)]] w (IxP (ps.any fun i => !(goodB i n)) w) := by
  obtain ⟨_, hl, A, c, rfl, hc1, hc2, hA⟩ := h
  unfold maxLen at hl
  have hyes : ∀ (k : Nat) (x : Ins), ps[k]? = some x → goodB x n = false → (ps.any fun i => !(goodB i n)) = true := fun k x hk e => List.any_eq_true.2 ⟨x, List.mem_of_getElem? hk, by simp [e]⟩
  have hno : (∀ (k : Nat) (x : Ins), k < n → ps[k]? = some x → goodB x n = true) → (ps.any fun i => !(goodB i n)) = false := fun hh => by
    rw [List.any_eq_false]
    intro y hy
    obtain ⟨k, hk, e⟩ := List.mem_iff_getElem.1 hy
    have := hh k y (by omega) (by rw [List.getElem?_eq_getElem hk, e])
    simp [this]
  have hg : ∀ k, k < n → ∃ x : Ins, ps[k]? = some x ∧ InsOk w x ∧ ∀ j u, j < 6 → (insEn x)[j]? = some u → (ps.flatMap insEn)[k * 6 + j]? = some u := fun k hk => by
    have h0 : ps[k]? = some (ps[k]'(by omega)) := by simp
    exact ⟨_, h0, hok _ (List.mem_of_getElem? h0), fun j u hj hu => (insGet ps k j _ h0 hj).trans hu⟩
  have HA := Lib.hid hA; have Hyes := Lib.hid hyes; have Hno := Lib.hid hno; have Hg := Lib.hid hg; have Hp := Lib.hid hp
  generalize (ps.any fun i => !(goodB i n)) = P at *
  clear hA hyes hno hg hok hp
  go_enter Tryz.func65, Tryz.ntmps65
  go_wp2_with fail
  go_loopw [8] (fun i wr => ∃ k : Nat, k ≤ n ∧ i = .int .i64 k ∧ Fr Nob w wr ∧ Hid (∀ (j : Nat) (x : Ins), j < k → ps[j]? = some x → goodB x n = true)) (fun i _ => n - (intOf i).toNat)
  case atStart => exact ⟨0, Nat.zero_le _, rfl, Fr.refl _ _, Lib.hid fun j x hj => by omega⟩
  case round =>
    obtain ⟨k, hk, rfl, hfr, hall⟩ := hrel
    have Hfr := Lib.hid hfr
    clear hfr
    by_cases hlt : k < n
    · obtain ⟨x, hx, hio, hq⟩ := Hg.out k hlt
      obtain ⟨g, o, rfl, hgl, hc⟩ := HA.out (by omega)
      have hbc := fun W (hf : Fr Nob w W) => bad_instr W x pb n A0 c0 (hf.cell id Hp.out) (hio.fr hf)
      have hy := Hyes.out k x hx
      have hall2 : goodB x n = true → ∀ (j : Nat) (y : Ins), j < k + 1 → ps[j]? = some y → goodB y n = true := fun hb j y hj hy => by
        by_cases hjk : j = k
        · subst hjk; rw [hx] at hy; cases hy; exact hb
        · exact hall.out j y (by omega) hy
      generalize goodB x n = r at *
      obtain ⟨⟨op, a, b, e⟩, v, cs, d⟩ := x
      obtain ⟨_, _, A2, c2, hv, _⟩ := id hio
      dsimp only at hv
      subst hv
      have x0 := Hfr.out.cell (p := ⟨g, o + (k * 6 + 0), none⟩) id (hc _ _ (hq 0 _ (by omega) rfl))
      have x1 := Hfr.out.cell (p := ⟨g, o + (k * 6 + 1), none⟩) id (hc _ _ (hq 1 _ (by omega) rfl))
      have x2 := Hfr.out.cell (p := ⟨g, o + (k * 6 + 2), none⟩) id (hc _ _ (hq 2 _ (by omega) rfl))
      have x3 := Hfr.out.cell (p := ⟨g, o + (k * 6 + 3), none⟩) id (hc _ _ (hq 3 _ (by omega) rfl))
      have x4 := Hfr.out.cell (p := ⟨g, o + (k * 6 + 4), none⟩) id (hc _ _ (hq 4 _ (by omega) rfl))
      have x5 := Hfr.out.cell (p := ⟨g, o + (k * 6 + 5), none⟩) id (hc _ _ (hq 5 _ (by omega) rfl))
      rw [← Nat.add_assoc] at x1 x2 x3 x4 x5
      rw [Nat.add_zero] at x0
      dsimp only at x0 x1 x2 x3 x4 x5 hbc
      have Hbc := Lib.hid hbc; have Hy := Lib.hid hy; have Hall2 := Lib.hid hall2
      have hki : (k : Int) < n := by omega
      clear hc hq hx hbc hy hall2 hio
      cases r with
      | true =>
        have Hn2 := Lib.hid (Hall2.out rfl)
        go_wp2_with fail
        refine (Hbc.out _ Hfr.out).mono ?_
        rintro e w2 ⟨rfl, hf2⟩
        have Hf2 := Lib.hid (Hfr.out.trans0 hf2)
        clear hf2
        go_wp2_with fail
        go_roundw
        case rel => exact ⟨k + 1, by omega, by go_num, Hf2.out, Hn2⟩
        case measure => simp [intOf]; omega
      | false =>
        have hP := Hy.out rfl
        have HP := Lib.hid hP
        clear hP
        go_wp2_with fail
        refine (Hbc.out _ Hfr.out).mono ?_
        rintro e w2 ⟨rfl, hf2⟩
        have Hf2 := Lib.hid (Hfr.out.trans0 hf2)
        clear hf2
        go_wp2_with fail
        go_ret
        exact ⟨k, rfl, by rw [HP.out]; simp, Hf2.out⟩
    · obtain rfl : k = n := by omega
      have HP := Lib.hid (Hno.out fun j x hj hx => hall.out j x hj hx)
      go_wp2_with fail
      go_ret
      exact ⟨-1, rfl, by rw [HP.out]; rfl, Hfr.out⟩
theorem contains_instrs (w : World) (v : Value) (ps : List Ins) (n pb : Nat) (A0 : Option Addr) (c0 : Nat) (hn : ps.length = n) (h : Rd w 6 v n (ps.flatMap insEn)) (hok : ∀ i ∈ ps, InsOk w i) (hp : w.cell? ⟨pb, 0, none⟩ = some (.slice A0 n c0)) :
    Calls Tryz.prog 38 #[v, .func (.func 63) #[] #[.pointer (some ⟨pb, 0, none⟩)]] w fun e w' => e = .returned (.bool (ps.any fun i => !(goodB i n))) ∧ Fr Nob w w' := by
  have H := Lib.hid (index_instrs w v ps n pb A0 c0 hn h hok hp)
  obtain ⟨_, _, A, c, rfl, _⟩ := h
  generalize (ps.any fun i => !(goodB i n)) = P at *
  clear hp hok
  go_enter Tryz.func38, Tryz.ntmps38
  go_wp2_with fail
  refine H.out.mono ?_
  rintro e w' ⟨r, rfl, hr, hf⟩
  have Hf := Lib.hid hf; have Hr := Lib.hid hr
  clear hf hr
  go_wp2_with fail
  go_ret
  exact ⟨by rw [← Hr.out]; rfl, Hf.out⟩
theorem check_any (w : World) (v : Value) (ps : List Ins) (n : Nat) (hn : ps.length = n) (h : Rd w 6 v n (ps.flatMap insEn)) (hok : ∀ i ∈ ps, InsOk w i) :
    Calls Tryz.prog 37 #[v] w fun e w' => e = .returned (.int .i64 (if progB ps = true then 0 else 1)) ∧ Fr Nob w w' := by
  obtain ⟨A, c, rfl⟩ : ∃ A c, v = .slice A n c := by obtain ⟨_, _, A, c, rfl, _⟩ := h; exact ⟨_, _, rfl⟩
  have hfa := (Fr.refl Nob w).alloc (.cells #[.slice A n c] 28)
  have hcon := contains_instrs (w.alloc (.cells #[.slice A n c] 28)) _ ps n w.heap.size A c hn (h.fr hfa) (fun i hi => (hok i hi).fr hfa) (blk_cell (heap_alloc_new w _) 0 rfl)
  have hall : (ps.any fun i => !(goodB i n)) = !(ps.all fun i => goodB i n) := by rw [List.any_eq_not_all_not]; simp
  rw [hall] at hcon
  have hpb : progB ps = (decide (n ≤ 100) && ps.all fun i => goodB i n) := by unfold progB; rw [hn]
  rw [hpb]
  generalize (ps.all fun i => goodB i n) = r at *
  have Hcon := Lib.hid hcon; have Hfa := Lib.hid hfa
  clear hcon hfa h hok hall hpb
  by_cases h1 : n ≤ 100
  · have e1 : decide ((100 : Int) < (n : Int)) = false := by simp; omega
    have e2 : decide (100 < n) = false := by simp; omega
    have e3 : (decide (n ≤ 100) && r) = r := by simp [h1]
    rw [e3]
    clear e3
    cases r with
    | true =>
      go_enter Tryz.func37, Tryz.ntmps37
      go_wp2_with fail
      refine Hcon.out.mono ?_
      rintro e w' ⟨rfl, hf⟩
      have Hf := Lib.hid (Hfa.out.trans0 hf)
      clear hf
      go_wp2_with fail
      go_ret
      exact ⟨rfl, Hf.out⟩
    | false =>
      go_enter Tryz.func37, Tryz.ntmps37
      go_wp2_with fail
      refine Hcon.out.mono ?_
      rintro e w' ⟨rfl, hf⟩
      have Hf := Lib.hid (Hfa.out.trans0 hf)
      clear hf
      go_wp2_with fail
      go_ret
      exact ⟨rfl, Hf.out⟩
  · have e1 : decide ((100 : Int) < (n : Int)) = true := by simp; omega
    have e2 : decide (100 < n) = true := by simp; omega
    have e3 : (decide (n ≤ 100) && r) = false := by simp; omega
    rw [e3]
    clear e3
    go_enter Tryz.func37, Tryz.ntmps37
    go_wp2_with fail
    go_ret
    exact ⟨rfl, Hfa.out⟩
def startsI (y : Ins) : Int := if y.1.1 = 8 then y.1.2.2.1 else if y.1.1 = 19 ∨ y.1.1 = 31 then y.1.2.2.2 else -1
theorem prog_starts (w : World) (y : Ins) (h : InsOk w y) : Calls Tryz.prog 40 #[insV y] w fun e w' => e = .returned (.int .i64 (startsI y)) ∧ Fr Nob w w' := by
  obtain ⟨⟨op, a, b, c⟩, v, cs, d⟩ := y
  obtain ⟨_, _, A2, c2, hv, _⟩ := h
  dsimp only at hv
  subst hv
  unfold startsI
  dsimp only
  by_cases h8 : op = 8
  · subst h8
    rw [if_pos rfl]
    go_enter Tryz.func40, Tryz.ntmps40
    go_wp2_with fail
    go_ret
    exact ⟨rfl, (Fr.refl Nob w).alloc _⟩
  · have e8 : (op == 8) = false := by simpa using h8
    rw [if_neg h8]
    by_cases h19 : op = 19
    · subst h19
      rw [if_pos (.inl rfl)]
      clear h8 e8
      go_enter Tryz.func40, Tryz.ntmps40
      go_wp2_with fail
      go_ret
      exact ⟨rfl, (Fr.refl Nob w).alloc _⟩
    · have e19 : (op == 19) = false := by simpa using h19
      by_cases h31 : op = 31
      · subst h31
        rw [if_pos (.inr rfl)]
        clear h8 e8 h19 e19
        go_enter Tryz.func40, Tryz.ntmps40
        go_wp2_with fail
        go_ret
        exact ⟨rfl, (Fr.refl Nob w).alloc _⟩
      · have e31 : (op == 31) = false := by simpa using h31
        rw [if_neg (by omega)]
        clear h8 h19 h31
        go_enter Tryz.func40, Tryz.ntmps40
        go_wp2_with fail
        go_ret
        exact ⟨rfl, (Fr.refl Nob w).alloc _⟩
/-- Of an instruction: that it starts none that is not there. -/
theorem all_instr (w : World) (y : Ins) (pb m : Nat) (A : Option Addr) (c : Nat) (hp : w.cell? ⟨pb, 0, none⟩ = some (.slice A m c)) (h : InsOk w y) (hs : startsI y < m) :
    Calls Tryz.prog 39 #[insV y, .pointer (some ⟨pb, 0, none⟩)] w fun e w' => e = .returned (.bool false) ∧ Fr Nob w w' := by
  have hst := fun W (hf : Fr Nob w W) => prog_starts W y (h.fr hf)
  obtain ⟨⟨op, a, b, k⟩, v, cs, d⟩ := y
  obtain ⟨_, _, A2, c2, hv, _⟩ := id h
  dsimp only at hv
  subst hv
  generalize startsI _ = r at *
  have hr : ¬ (m : Int) ≤ r := by omega
  have Hst := Lib.hid hst
  have hf1 : Fr Nob w (w.alloc (.cells #[.int .i64 op, .int .i64 a, .int .i64 b, .int .i64 k, .slice A2 cs.length c2, .bool d] 25)) := (Fr.refl Nob w).alloc _
  have hb1 := heap_alloc_new w (.cells #[.int .i64 op, .int .i64 a, .int .i64 b, .int .i64 k, .slice A2 cs.length c2, .bool d] 25)
  have key : ∀ W, Fr Nob (w.alloc (.cells #[.int .i64 op, .int .i64 a, .int .i64 b, .int .i64 k, .slice A2 cs.length c2, .bool d] 25)) W → W.cell? ⟨pb, 0, none⟩ = some (.slice A m c) ∧ W.cell? ⟨w.heap.size, 0, none⟩ = some (.int .i64 op) ∧ W.cell? ⟨w.heap.size, 1, none⟩ = some (.int .i64 a) ∧ W.cell? ⟨w.heap.size, 2, none⟩ = some (.int .i64 b) ∧ W.cell? ⟨w.heap.size, 3, none⟩ = some (.int .i64 k) ∧ W.cell? ⟨w.heap.size, 4, none⟩ = some (.slice A2 cs.length c2) ∧ W.cell? ⟨w.heap.size, 5, none⟩ = some (.bool d) := fun W hW => by
    have q := hW.blk (fun q => q) hb1
    exact ⟨(hf1.trans0 hW).cell (fun q => q) hp, blk_cell q 0 rfl, blk_cell q 1 rfl, blk_cell q 2 rfl, blk_cell q 3 rfl, blk_cell q 4 rfl, blk_cell q 5 rfl⟩
  have Key := Lib.hid key; have Hf1 := Lib.hid hf1
  clear hst h hs hb1 key hf1
  go_enter Tryz.func39, Tryz.ntmps39
  go_wp2_with fail
  obtain ⟨w1, hw1⟩ : ∃ w1, w1 = w.alloc (.cells #[.int .i64 op, .int .i64 a, .int .i64 b, .int .i64 k, .slice A2 cs.length c2, .bool d] 25) := ⟨_, rfl⟩
  rw [← hw1] at Key Hf1 ⊢
  generalize w.heap.size = xb at *
  clear hw1 hp
  have hf0 : Fr Nob w1 w1 := Fr.refl _ _
  go_region_held3 (fun W => W.cell? ⟨pb, 0, none⟩ = some (.slice A m c) ∧ W.cell? ⟨xb, 0, none⟩ = some (.int .i64 op) ∧ W.cell? ⟨xb, 1, none⟩ = some (.int .i64 a) ∧ W.cell? ⟨xb, 2, none⟩ = some (.int .i64 b) ∧ W.cell? ⟨xb, 3, none⟩ = some (.int .i64 k) ∧ W.cell? ⟨xb, 4, none⟩ = some (.slice A2 cs.length c2) ∧ W.cell? ⟨xb, 5, none⟩ = some (.bool d))
    ((first | (refine Key.out _ ?_; with_reducible exact hf2) | exact Key.out _ hf0 | exact Key.out _ hf0.drew))
    ((go_at_call 40; refine (Hst.out w1.drew (Hf1.out.drew)).mono ?_; rintro e w2 ⟨rfl, hf2'⟩; have hf2 : Fr Nob w1 w2 := (hf0.drew).trans0 hf2'))
  all_goals
    go_wp2_with fail
    go_ret
    exact ⟨by simp [hr], Hf1.out.trans0 hf2⟩
set_option maxHeartbeats 1000000 in
theorem index_starts (w : World) (v : Value) (ps : List Ins) (n pb m : Nat) (A0 : Option Addr) (c0 : Nat) (hn : ps.length = n) (h : Rd w 6 v n (ps.flatMap insEn)) (hok : ∀ i ∈ ps, InsOk w i) (hp : w.cell? ⟨pb, 0, none⟩ = some (.slice A0 m c0)) (hst : ∀ y ∈ ps, startsI y < m) :
    Calls Tryz.prog 65 #[v, .func (.func 39) #[] #[.pointer (some ⟨pb, 0, none⟩)]] w fun e w' => e = .returned (.int .i64 (-1)) ∧ Fr Nob w w' := by
  obtain ⟨_, hl, A, c, rfl, hc1, hc2, hA⟩ := h
  unfold maxLen at hl
  have hg : ∀ k, k < n → ∃ x : Ins, ps[k]? = some x ∧ InsOk w x ∧ startsI x < m ∧ ∀ j u, j < 6 → (insEn x)[j]? = some u → (ps.flatMap insEn)[k * 6 + j]? = some u := fun k hk => by
    have h0 : ps[k]? = some (ps[k]'(by omega)) := by simp
    exact ⟨_, h0, hok _ (List.mem_of_getElem? h0), hst _ (List.mem_of_getElem? h0), fun j u hj hu => (insGet ps k j _ h0 hj).trans hu⟩
  have HA := Lib.hid hA; have Hg := Lib.hid hg; have Hp := Lib.hid hp
  clear hA hg hok hp hst
  go_enter Tryz.func65, Tryz.ntmps65
  go_wp2_with fail
  go_loopw [8] (fun i wr => ∃ k : Nat, k ≤ n ∧ i = .int .i64 k ∧ Fr Nob w wr) (fun i _ => n - (intOf i).toNat)
  case atStart => exact ⟨0, Nat.zero_le _, rfl, Fr.refl _ _⟩
  case round =>
    obtain ⟨k, hk, rfl, hfr⟩ := hrel
    have Hfr := Lib.hid hfr
    clear hfr
    by_cases hlt : k < n
    · obtain ⟨x, hx, hio, hsx, hq⟩ := Hg.out k hlt
      obtain ⟨g, o, rfl, hgl, hc⟩ := HA.out (by omega)
      have hbc := fun W (hf : Fr Nob w W) => all_instr W x pb m A0 c0 (hf.cell id Hp.out) (hio.fr hf) hsx
      obtain ⟨⟨op, a, b, e⟩, v, cs, d⟩ := x
      obtain ⟨_, _, A2, c2, hv, _⟩ := id hio
      dsimp only at hv
      subst hv
      have x0 := Hfr.out.cell (p := ⟨g, o + (k * 6 + 0), none⟩) id (hc _ _ (hq 0 _ (by omega) rfl))
      have x1 := Hfr.out.cell (p := ⟨g, o + (k * 6 + 1), none⟩) id (hc _ _ (hq 1 _ (by omega) rfl))
      have x2 := Hfr.out.cell (p := ⟨g, o + (k * 6 + 2), none⟩) id (hc _ _ (hq 2 _ (by omega) rfl))
      have x3 := Hfr.out.cell (p := ⟨g, o + (k * 6 + 3), none⟩) id (hc _ _ (hq 3 _ (by omega) rfl))
      have x4 := Hfr.out.cell (p := ⟨g, o + (k * 6 + 4), none⟩) id (hc _ _ (hq 4 _ (by omega) rfl))
      have x5 := Hfr.out.cell (p := ⟨g, o + (k * 6 + 5), none⟩) id (hc _ _ (hq 5 _ (by omega) rfl))
      rw [← Nat.add_assoc] at x1 x2 x3 x4 x5
      rw [Nat.add_zero] at x0
      dsimp only at x0 x1 x2 x3 x4 x5 hbc
      have Hbc := Lib.hid hbc
      have hki : (k : Int) < n := by omega
      clear hc hq hx hbc hio hsx
      go_wp2_with fail
      refine (Hbc.out _ Hfr.out).mono ?_
      rintro e w2 ⟨rfl, hf2⟩
      have Hf2 := Lib.hid (Hfr.out.trans0 hf2)
      clear hf2
      go_wp2_with fail
      go_roundw
      case rel => exact ⟨k + 1, by omega, by go_num, Hf2.out⟩
      case measure => simp [intOf]; omega
    · obtain rfl : k = n := by omega
      go_wp2_with fail
      go_ret
      exact ⟨rfl, Hfr.out⟩
theorem contains_starts (w : World) (v : Value) (ps : List Ins) (n pb m : Nat) (A0 : Option Addr) (c0 : Nat) (hn : ps.length = n) (h : Rd w 6 v n (ps.flatMap insEn)) (hok : ∀ i ∈ ps, InsOk w i) (hp : w.cell? ⟨pb, 0, none⟩ = some (.slice A0 m c0)) (hst : ∀ y ∈ ps, startsI y < m) :
    Calls Tryz.prog 38 #[v, .func (.func 39) #[] #[.pointer (some ⟨pb, 0, none⟩)]] w fun e w' => e = .returned (.bool false) ∧ Fr Nob w w' := by
  have H := Lib.hid (index_starts w v ps n pb m A0 c0 hn h hok hp hst)
  obtain ⟨_, _, A, c, rfl, _⟩ := h
  clear hp hok hst
  go_enter Tryz.func38, Tryz.ntmps38
  go_wp2_with fail
  refine H.out.mono ?_
  rintro e w' ⟨rfl, hf⟩
  have Hf := Lib.hid hf
  clear hf
  go_wp2_with fail
  go_ret
  exact ⟨rfl, Hf.out⟩
/-- Programs as they come in. -/
structure PgIn (w : World) (v : Value) (P : List (List Ins)) (rows : List Value) : Prop where
  len : rows.length = P.length
  rd : Rd w 1 v P.length rows
  row : ∀ (i : Nat) (p : List Ins), P[i]? = some p → ∃ r, rows[i]? = some r ∧ Rd w 6 r p.length (p.flatMap insEn)
  ok : ∀ p ∈ P, ∀ y ∈ p, InsOk w y
  nil : ∀ p ∈ P, ∀ y ∈ p, y.2.2.1 = [] → y.2.1 = .slice none 0 0
  fit : 1 ≤ P.length ∧ P.length ≤ 16
  good : ∀ p ∈ P, progB p = true ∧ ∀ y ∈ p, startsI y < P.length
theorem PgIn.fr {w w' : World} {v : Value} {P : List (List Ins)} {rows : List Value} (h : PgIn w v P rows) (hf : Fr Nob w w') : PgIn w' v P rows :=
  ⟨h.len, h.rd.fr hf, fun i p hp => by obtain ⟨r, a, b⟩ := h.row i p hp; exact ⟨r, a, b.fr hf⟩, fun p hp y hy => (h.ok p hp y hy).fr hf, h.nil, h.fit, h.good⟩
set_option maxHeartbeats 1000000 in
theorem prog_all {w : World} {v : Value} {P : List (List Ins)} {rows : List Value} (h : PgIn w v P rows) : Calls Tryz.prog 19 #[v] w fun e w' => e = .returned (.int .i64 0) ∧ Fr Nob w w' := by
  obtain ⟨hl, _, A, c, rfl, hc1, hc2, hA⟩ := h.rd
  have hfit := h.fit
  generalize hn : P.length = n at *
  have hf0 : Fr Nob w (w.alloc (.cells #[.slice A n c] 33)) := (Fr.refl Nob w).alloc _
  have hp0 : ∀ W, Fr Nob (w.alloc (.cells #[.slice A n c] 33)) W → W.cell? ⟨w.heap.size, 0, none⟩ = some (.slice A n c) := fun W hW => blk_cell (hW.blk (fun q => q) (heap_alloc_new w _)) 0 rfl
  have HA := Lib.hid hA; have H := Lib.hid h; have Hf0 := Lib.hid hf0; have Hp0 := Lib.hid hp0; have Hn := Lib.hid hn
  have e1 : ¬ (n : Int) < 1 := by omega
  have e2 : ¬ (16 : Int) < (n : Int) := by omega
  clear h hA hf0 hp0 hl hn
  go_enter Tryz.func19, Tryz.ntmps19
  go_wp2_with fail
  obtain ⟨w1, hw1⟩ : ∃ w1, w1 = w.alloc (.cells #[.slice A n c] 33) := ⟨_, rfl⟩
  rw [← hw1] at Hf0 Hp0 ⊢
  generalize w.heap.size = xb at *
  clear hw1
  go_loopw [15] (fun i wr => ∃ k : Nat, k ≤ n ∧ i = .int .i64 k ∧ Fr Nob w1 wr) (fun i _ => n - (intOf i).toNat)
  case atStart => exact ⟨0, Nat.zero_le _, rfl, Fr.refl _ _⟩
  case round =>
    obtain ⟨k, hk, rfl, hfr⟩ := hrel
    have Hfr := Lib.hid hfr
    clear hfr
    by_cases hlt : k < n
    · obtain ⟨p, hp⟩ : ∃ p, P[k]? = some p := ⟨P[k]'(by rw [Hn.out]; exact hlt), by simp⟩
      obtain ⟨r, hr, hrd⟩ := H.out.row k p hp
      obtain ⟨g, o, rfl, hgl, hc⟩ := HA.out (by omega)
      have hfw := Hf0.out.trans0 Hfr.out
      have q0 := hfw.cell (p := ⟨g, o + k, none⟩) id (hc k r hr)
      have hmem := List.mem_of_getElem? hp
      have hgood := H.out.good p hmem
      have Hck := Lib.hid (fun W (hW : Fr Nob wr W) => check_any W r p p.length rfl (hrd.fr (hfw.trans0 hW)) (fun i hi => (H.out.ok p hmem i hi).fr (hfw.trans0 hW)))
      have Hcs := Lib.hid (fun W (hW : Fr Nob wr W) => contains_starts W r p p.length xb n _ _ rfl (hrd.fr (hfw.trans0 hW)) (fun i hi => (H.out.ok p hmem i hi).fr (hfw.trans0 hW)) (Hp0.out W (Hfr.out.trans0 hW)) (fun y hy => by have := hgood.2 y hy; rw [Hn.out] at this; exact this))
      have hpb := hgood.1
      have hki : (k : Int) < n := by omega
      clear hc hr hrd hp hmem hgood hfw
      go_wp2_with fail
      refine (Hck.out _ (Fr.refl _ _)).mono ?_
      rintro e w2 ⟨rfl, hf2⟩
      rw [if_pos hpb]
      have Hf2 := Lib.hid hf2
      clear hf2 q0 Hck
      go_wp2_with fail
      refine (Hcs.out _ Hf2.out).mono ?_
      rintro e w3 ⟨rfl, hf3⟩
      have Hf3 := Lib.hid (Hfr.out.trans0 (Hf2.out.trans0 hf3))
      clear hf3
      go_wp2_with fail
      go_roundw
      case rel => exact ⟨k + 1, by omega, by go_num, Hf3.out⟩
      case measure => simp [intOf]; omega
    · obtain rfl : k = n := by omega
      go_wp2_with fail
      go_ret
      exact ⟨rfl, Hf0.out.trans0 Hfr.out⟩
/-- One who waits: its task, its case, its value. -/
abbrev Wt := Int × Int × Int
abbrev wtCells (x : Wt) : List Value := [.int .i64 x.1, .int .i64 x.2.1, .int .i64 x.2.2]
abbrev wtVal (x : Wt) : Value := .agg #[.int .i64 x.1, .int .i64 x.2.1, .int .i64 x.2.2]
def ptr : Option Nat → Value
  | none => .pointer none
  | some k => .pointer (some ⟨k, 0, none⟩)
theorem ptr_none : ptr none = .pointer none := rfl
theorem ptr_some (k : Nat) : ptr (some k) = .pointer (some ⟨k, 0, none⟩) := rfl
def prevB (xs : List (Nat × Wt)) (j : Nat) : Option Nat := if j = 0 then none else (xs[j - 1]?).map (·.1)
def nextB (xs : List (Nat × Wt)) (j : Nat) : Option Nat := (xs[j + 1]?).map (·.1)
def lastB (xs : List (Nat × Wt)) : Option Nat := prevB xs xs.length
def firstB (xs : List (Nat × Wt)) : Option Nat := (xs[0]?).map (·.1)
def nodeObj (x : Wt) (p n : Option Nat) : Obj := .cells #[.int .i64 x.1, .int .i64 x.2.1, .int .i64 x.2.2, ptr p, ptr n] 156 (0, 0)
def queueObj (f l : Option Nat) (n : Nat) : Obj := .cells #[ptr f, ptr l, .int .i64 (n : Int)] 152 (0, 0)
/-- The nodes xs, in order, of the queue in block b. -/
structure QAt (w : World) (S : Nat → Prop) (b : Nat) (xs : List (Nat × Wt)) : Prop where
  own : S b
  blk : w.heap[b]? = some (queueObj (firstB xs) (lastB xs) xs.length)
  node : ∀ (j : Nat) (x : Nat × Wt), xs[j]? = some x → S x.1 ∧ x.1 ≠ b ∧ w.heap[x.1]? = some (nodeObj x.2 (prevB xs j) (nextB xs j))
  nd : ∀ (i j : Nat) (x y : Nat × Wt), xs[i]? = some x → xs[j]? = some y → x.1 = y.1 → i = j
  few : xs.length ≤ 100000
theorem QAt.fr {w w' : World} {S F : Nat → Prop} {b : Nat} {xs : List (Nat × Wt)} (h : QAt w S b xs) (hf : Fr F w w') (hd : ∀ k, S k → F k → False) : QAt w' S b xs :=
  ⟨h.own, hf.blk (hd _ h.own) h.blk, fun j x hx => ⟨(h.node j x hx).1, (h.node j x hx).2.1, hf.blk (hd _ (h.node j x hx).1) (h.node j x hx).2.2⟩, h.nd, h.few⟩
theorem QAt.mono {w : World} {S S' : Nat → Prop} {b : Nat} {xs : List (Nat × Wt)} (h : QAt w S b xs) (hs : ∀ k, k < w.heap.size → S k → S' k) : QAt w S' b xs :=
  ⟨hs _ (lt_of_block h.blk) h.own, h.blk, fun j x hx => ⟨hs _ (lt_of_block (h.node j x hx).2.2) (h.node j x hx).1, (h.node j x hx).2⟩, h.nd, h.few⟩
theorem QAt.lt {w : World} {S : Nat → Prop} {b : Nat} {xs : List (Nat × Wt)} (h : QAt w S b xs) (j : Nat) (x : Nat × Wt) (hx : xs[j]? = some x) : x.1 < w.heap.size := lt_of_block (h.node j x hx).2.2
/-- The queue in block b has ws, in order. -/
def WaitAt (w : World) (S : Nat → Prop) (b : Nat) (ws : List Wt) : Prop := ∃ xs, QAt w S b xs ∧ xs.map (·.2) = ws
theorem WaitAt.fr {w w' : World} {S F : Nat → Prop} {b : Nat} {ws : List Wt} (h : WaitAt w S b ws) (hf : Fr F w w') (hd : ∀ k, S k → F k → False) : WaitAt w' S b ws := by
  obtain ⟨xs, h, e⟩ := h; exact ⟨xs, h.fr hf hd, e⟩
theorem WaitAt.fr0 {w w' : World} {S : Nat → Prop} {b : Nat} {ws : List Wt} (h : WaitAt w S b ws) (hf : Fr Nob w w') : WaitAt w' S b ws := h.fr hf fun _ _ q => q
theorem WaitAt.mono {w : World} {S S' : Nat → Prop} {b : Nat} {ws : List Wt} (h : WaitAt w S b ws) (hs : ∀ k, k < w.heap.size → S k → S' k) : WaitAt w S' b ws := by
  obtain ⟨xs, h, e⟩ := h; exact ⟨xs, h.mono hs, e⟩
theorem WaitAt.few {w : World} {S : Nat → Prop} {b : Nat} {ws : List Wt} (h : WaitAt w S b ws) : ws.length ≤ 100000 := by
  obtain ⟨xs, h, rfl⟩ := h; simpa using h.few
theorem WaitAt.own {w : World} {S : Nat → Prop} {b : Nat} {ws : List Wt} (h : WaitAt w S b ws) : S b ∧ b < w.heap.size := by
  obtain ⟨xs, h, rfl⟩ := h; exact ⟨h.own, lt_of_block h.blk⟩
theorem lastB_nil : lastB [] = none := rfl
theorem lastB_pos (xs : List (Nat × Wt)) (n : Nat) (x : Nat × Wt) (hn : xs.length = n + 1) (hx : xs[n]? = some x) : lastB xs = some x.1 := by
  unfold lastB prevB; rw [hn, if_neg (by omega)]; simp [hx]
/-- One behind all. -/
theorem QAt.snoc {w w' : World} {S : Nat → Prop} {b nb : Nat} {xs : List (Nat × Wt)} {x : Wt} (h : QAt w S b xs) (hlt : xs.length < 100000) (hf : Fr S w w') (hnb : w.heap.size ≤ nb)
    (hb : w'.heap[b]? = some (queueObj (firstB (xs ++ [(nb, x)])) (some nb) (xs.length + 1)))
    (hn : w'.heap[nb]? = some (nodeObj x (lastB xs) none))
    (hl : ∀ n y, xs.length = n + 1 → xs[n]? = some y → w'.heap[y.1]? = some (nodeObj y.2 (prevB xs n) (some nb)))
    (ho : ∀ j y, j + 1 < xs.length → xs[j]? = some y → w'.heap[y.1]? = w.heap[y.1]?) : QAt w' (And' S w w') b (xs ++ [(nb, x)]) := by
  refine ⟨.inl h.own, ?_, fun j y hy => ?_, fun i j y z hy hz e => ?_, by simp; omega⟩
  · have e : lastB (xs ++ [(nb, x)]) = some nb := lastB_pos _ xs.length (nb, x) (by simp) (by simp)
    rw [e, hb]; simp
  · rw [List.getElem?_append] at hy
    by_cases hj : j < xs.length
    · rw [if_pos hj] at hy
      obtain ⟨h1, h2, h3⟩ := h.node j y hy
      refine ⟨.inl h1, h2, ?_⟩
      have ep : prevB (xs ++ [(nb, x)]) j = prevB xs j := by
        unfold prevB; split
        · rfl
        · rw [List.getElem?_append_left (by omega)]
      rw [ep]
      by_cases hlast : j + 1 < xs.length
      · have en : nextB (xs ++ [(nb, x)]) j = nextB xs j := by unfold nextB; rw [List.getElem?_append_left (by omega)]
        rw [en, ho j y hlast hy, h3]
      · have hlen : xs.length = j + 1 := by omega
        have en : nextB (xs ++ [(nb, x)]) j = some nb := by unfold nextB; rw [List.getElem?_append_right (by omega), hlen]; simp
        rw [en, hl j y hlen hy]
    · rw [if_neg hj] at hy
      have hj0 : j = xs.length := by
        have := (List.getElem?_eq_some_iff.1 hy).1; simp at this; omega
      subst hj0
      simp at hy
      subst hy
      have hnl := lt_of_block hn
      refine ⟨.inr ⟨hnb, hnl⟩, fun e => ?_, ?_⟩
      · have := lt_of_block h.blk
        simp at e; omega
      · have ep : prevB (xs ++ [(nb, x)]) xs.length = lastB xs := by
          unfold lastB prevB; split
          · rfl
          · rw [List.getElem?_append_left (by omega)]
        have en : nextB (xs ++ [(nb, x)]) xs.length = none := by unfold nextB; rw [List.getElem?_append_right (by omega)]; simp
        rw [ep, en]; exact hn
  · have hlen : (xs ++ [(nb, x)]).length = xs.length + 1 := by simp
    have hi := (List.getElem?_eq_some_iff.1 hy).1
    have hj := (List.getElem?_eq_some_iff.1 hz).1
    rw [List.getElem?_append] at hy hz
    by_cases hi1 : i < xs.length
    · rw [if_pos hi1] at hy
      by_cases hj1 : j < xs.length
      · rw [if_pos hj1] at hz
        exact h.nd i j y z hy hz e
      · rw [if_neg hj1] at hz
        have : z = (nb, x) := by
          have : j - xs.length = 0 := by omega
          rw [this] at hz; simpa using hz.symm
        subst this
        have := h.lt i y hy
        simp at e; omega
    · rw [if_neg hi1] at hy
      have : y = (nb, x) := by
        have : i - xs.length = 0 := by omega
        rw [this] at hy; simpa using hy.symm
      subst this
      by_cases hj1 : j < xs.length
      · rw [if_pos hj1] at hz
        have := h.lt j z hz
        simp at e; omega
      · omega
/-- One is taken out. -/
theorem QAt.erase {w w' : World} {S : Nat → Prop} {b : Nat} {xs : List (Nat × Wt)} (h : QAt w S b xs) (i : Nat) (hi : i < xs.length)
    (hb : w'.heap[b]? = some (queueObj (if i = 0 then nextB xs i else firstB xs) (if i + 1 = xs.length then prevB xs i else lastB xs) (xs.length - 1)))
    (hp : ∀ y, i ≠ 0 → xs[i - 1]? = some y → w'.heap[y.1]? = some (nodeObj y.2 (prevB xs (i - 1)) (nextB xs i)))
    (hn : ∀ y, xs[i + 1]? = some y → w'.heap[y.1]? = some (nodeObj y.2 (prevB xs i) (nextB xs (i + 1))))
    (ho : ∀ j y, xs[j]? = some y → j + 1 ≠ i → j ≠ i → j ≠ i + 1 → w'.heap[y.1]? = w.heap[y.1]?) : QAt w' S b (xs.eraseIdx i) := by
  have hlen : (xs.eraseIdx i).length = xs.length - 1 := by rw [List.length_eraseIdx, if_pos hi]
  have hg : ∀ j, (xs.eraseIdx i)[j]? = if j < i then xs[j]? else xs[j + 1]? := fun j => List.getElem?_eraseIdx ..
  have hnx : ∀ j, nextB (xs.eraseIdx i) j = if j + 1 < i then nextB xs j else nextB xs (j + 1) := fun j => by
    unfold nextB; rw [hg]; split <;> rfl
  have hpv : ∀ j, prevB (xs.eraseIdx i) j = if j ≤ i then prevB xs j else prevB xs (j + 1) := fun j => by
    unfold prevB
    by_cases hj0 : j = 0
    · subst hj0; simp
    · rw [if_neg hj0, hg]
      by_cases hji : j ≤ i
      · rw [if_pos hji, if_neg hj0, if_pos (by omega)]
      · rw [if_neg hji, if_neg (by omega), if_neg (by omega)]
        congr 2
        omega
  refine ⟨h.own, ?_, fun j y hy => ?_, fun a c y z hy hz e => ?_, by have := h.few; omega⟩
  · rw [hb, hlen]
    congr 2
    · unfold firstB
      rw [hg]
      by_cases h0 : i = 0
      · subst h0; simp [nextB]
      · rw [if_neg h0, if_pos (by omega)]
    · unfold lastB
      rw [hlen, hpv]
      by_cases h1 : i + 1 = xs.length
      · rw [if_pos h1, if_pos (by omega)]
        congr 1; omega
      · rw [if_neg h1, if_neg (by omega)]
        congr 1; omega
  · rw [hg] at hy
    by_cases hji : j < i
    · rw [if_pos hji] at hy
      obtain ⟨h1, h2, h3⟩ := h.node j y hy
      refine ⟨h1, h2, ?_⟩
      rw [hnx, hpv, if_pos (by omega : j ≤ i)]
      by_cases hj1 : j + 1 < i
      · rw [if_pos hj1, ho j y hy (by omega) (by omega) (by omega), h3]
      · have hj2 : j = i - 1 := by omega
        rw [if_neg hj1, show j + 1 = i by omega, hj2]
        exact hp y (by omega) (by rw [← hj2]; exact hy)
    · rw [if_neg hji] at hy
      obtain ⟨h1, h2, h3⟩ := h.node (j + 1) y hy
      refine ⟨h1, h2, ?_⟩
      have en : nextB (xs.eraseIdx i) j = nextB xs (j + 1) := by rw [hnx, if_neg (by omega)]
      rw [en]
      by_cases hj1 : j = i
      · have ep : prevB (xs.eraseIdx i) j = prevB xs i := by rw [hpv, if_pos (by omega), hj1]
        rw [ep, hj1]
        rw [hj1] at hy
        exact hn y hy
      · have ep : prevB (xs.eraseIdx i) j = prevB xs (j + 1) := by rw [hpv, if_neg (by omega)]
        rw [ep, ho (j + 1) y hy (by omega) (by omega) (by omega), h3]
  · rw [hg] at hy hz
    by_cases ha : a < i
    · rw [if_pos ha] at hy
      by_cases hc : c < i
      · rw [if_pos hc] at hz; exact h.nd _ _ y z hy hz e
      · rw [if_neg hc] at hz; have := h.nd _ _ y z hy hz e; omega
    · rw [if_neg ha] at hy
      by_cases hc : c < i
      · rw [if_pos hc] at hz; have := h.nd _ _ y z hy hz e; omega
      · rw [if_neg hc] at hz; have := h.nd _ _ y z hy hz e; omega
theorem wait_new (w : World) : Calls Tryz.prog 169 #[] w fun e w' => ∃ b, e = .returned (.pointer (some ⟨b, 0, none⟩)) ∧ Fr Nob w w' ∧ WaitAt w' (fun k => w.heap.size ≤ k ∧ k < w'.heap.size) b [] := by
  go_enter Tryz.func169, Tryz.ntmps169
  go_wp2
  go_ret
  exact ⟨w.heap.size, rfl, (Fr.refl Nob w).alloc _, [], ⟨by simp, heap_alloc_new _ _, fun j x hx => by simp at hx, fun i j x y hx => by simp at hx, by simp⟩, rfl⟩
theorem wait_len (w : World) (S : Nat → Prop) (b : Nat) (ws : List Wt) (n : Nat) (hn : ws.length = n) (h : WaitAt w S b ws) :
    Calls Tryz.prog 212 #[.pointer (some ⟨b, 0, none⟩)] w fun e w' => e = .returned (.int .i64 (n : Int)) ∧ w = w' := by
  obtain ⟨xs, h, rfl⟩ := h
  rw [List.length_map] at hn
  have c2 := blk_cell h.blk 2 rfl
  rw [hn] at c2
  clear h hn
  go_enter Tryz.func212, Tryz.ntmps212
  go_wp2
  go_ret
  exact ⟨rfl, rfl⟩
set_option maxHeartbeats 4000000 in
theorem wait_drop (w : World) (S : Nat → Prop) (b : Nat) (xs : List (Nat × Wt)) (i : Nat) (x : Nat × Wt) (h : QAt w S b xs) (hx : xs[i]? = some x) :
    Calls Tryz.prog 207 #[.pointer (some ⟨b, 0, none⟩), .pointer (some ⟨x.1, 0, none⟩)] w fun e w' => e = .returned (.tuple #[]) ∧ Fr S w w' ∧ QAt w' S b (xs.eraseIdx i) ∧ w'.heap[x.1]? = w.heap[x.1]? := by
  obtain ⟨n, hn⟩ : ∃ n, xs.length = n := ⟨_, rfl⟩
  have hil := (List.getElem?_eq_some_iff.1 hx).1
  rw [hn] at hil
  obtain ⟨xb, xw⟩ := x
  obtain ⟨hSx, hxb, hxo⟩ := h.node i _ hx
  dsimp only at hSx hxb hxo ⊢
  have lb := lt_of_block h.blk
  have hSb := h.own
  have hfew := h.few
  rw [hn] at hfew
  have hxl := lt_of_block hxo
  have hbb := h.blk
  rw [hn] at hbb
  have b2 : w.cell? ⟨b, 2, none⟩ = some (.int .i64 (n : Int)) := blk_cell hbb 2 rfl
  have b0 : w.cell? ⟨b, 0, none⟩ = some (ptr (firstB xs)) := blk_cell hbb 0 rfl
  have b1 : w.cell? ⟨b, 1, none⟩ = some (ptr (lastB xs)) := blk_cell hbb 1 rfl
  have f0 := blk_froz hbb 0
  have f1 := blk_froz hbb 1
  have f2 := blk_froz hbb 2
  have x3 := blk_cell hxo 3 rfl
  have x4 := blk_cell hxo 4 rfl
  have hmi : ((n - 1 : Nat) : Int) = (n : Int) - 1 := by omega
  have hbx : b ≠ xb := fun e => hxb e.symm
  have Hmi := Lib.hid hmi; have Hh := Lib.hid h; have Hn := Lib.hid hn; have Hx := Lib.hid hx; have Hbb := Lib.hid hbb; have Hxo := Lib.hid hxo
  clear h hn hx hbb hxo hmi hxb
  by_cases hi0 : i = 0
  · have hpv : prevB xs i = none := by unfold prevB; rw [if_pos hi0]
    rw [hpv, ptr_none] at x3
    have Hpv := Lib.hid hpv; clear hpv
    by_cases hin : i + 1 = n
    · have hz : xs[i + 1]? = none := List.getElem?_eq_none (by have := Hn.out; omega)
      have hnx : nextB xs i = none := by unfold nextB; rw [hz]; rfl
      rw [hnx, ptr_none] at x4
      have Hnx := Lib.hid hnx; have Hz := Lib.hid hz
      clear hnx hz
      go_enter Tryz.func207, Tryz.ntmps207
      go_wp2_with fail
      go_end0
      have hfin : ∀ k : Nat, (((w.setCell ⟨b, 0, none⟩ (.pointer none)).setCell ⟨b, 1, none⟩ (.pointer none)).setCell ⟨b, 2, none⟩ (.int .i64 ((n : Int) - 1))).heap[k]? = (((w.setCell ⟨b, 0, none⟩ (.pointer none)).setCell ⟨b, 1, none⟩ (.pointer none)).setCell ⟨b, 2, none⟩ (.int .i64 ((n : Int) - 1))).heap[k]? := fun k => by
        rfl
      have hfr : Fr S w (((w.setCell ⟨b, 0, none⟩ (.pointer none)).setCell ⟨b, 1, none⟩ (.pointer none)).setCell ⟨b, 2, none⟩ (.int .i64 ((n : Int) - 1))) := by
        exact (((Fr.refl S w).setCell (p := ⟨b, 0, none⟩) (.inl hSb) _).setCell (p := ⟨b, 1, none⟩) (.inl hSb) _).setCell (p := ⟨b, 2, none⟩) (.inl hSb) _
      refine ⟨rfl, hfr, QAt.erase Hh.out i (by rw [Hn.out]; exact hil) ?_ ?_ ?_ ?_, ?_⟩
      · rw [hfin]
        have q0 := Hbb.out
        have q1 := blk_set q0 0 (.pointer none)
        have q2 := blk_set q1 1 (.pointer none)
        have q3 := blk_set q2 2 (.int .i64 ((n : Int) - 1))
        rw [q3, Hn.out]
        unfold queueObj
        rw [Hmi.out]
        rw [if_pos hi0, if_pos hin]
        rw [Hnx.out]
        rw [Hpv.out]
        rfl
      · intro y' h0; exact absurd hi0 h0
      · intro z' hz'; rw [Hz.out] at hz'; cases hz'
      · intro j u hu h1 h2 h3
        obtain ⟨_, hub, _⟩ := Hh.out.node j u hu
        rw [hfin, blk_set_ne _ _ hub, blk_set_ne _ _ hub, blk_set_ne _ _ hub]
      · rw [hfin, blk_set_ne _ _ (Ne.symm hbx), blk_set_ne _ _ (Ne.symm hbx), blk_set_ne _ _ (Ne.symm hbx)]
    · obtain ⟨⟨zb, zw⟩, hz⟩ : ∃ z, xs[i + 1]? = some z := ⟨xs[i + 1]'(by have := Hn.out; omega), List.getElem?_eq_getElem _⟩
      have hnx : nextB xs i = some zb := by unfold nextB; rw [hz]; rfl
      rw [hnx, ptr_some] at x4
      obtain ⟨hSz, hzb, hzo⟩ := Hh.out.node (i + 1) _ hz
      dsimp only at hSz hzb hzo
      have hzl := lt_of_block hzo
      have g3 := blk_froz hzo 3
      have hzp : prevB xs (i + 1) = some xb := by unfold prevB; rw [if_neg (by omega), Nat.add_sub_cancel, Hx.out]; rfl
      have hbz : b ≠ zb := fun e => hzb e.symm
      have hxz : xb ≠ zb := fun e => by have := Hh.out.nd i (i + 1) _ _ Hx.out hz e; omega
      have z3 : w.cell? ⟨zb, 3, none⟩ = some (.pointer (some ⟨xb, 0, none⟩)) := by have z3 := blk_cell hzo 3 rfl; rw [hzp] at z3; exact z3
      have Hnx := Lib.hid hnx; have Hz := Lib.hid hz; have Hzo := Lib.hid hzo
      clear hnx hz hzo hzp
      go_enter Tryz.func207, Tryz.ntmps207
      go_wp2_with fail
      obtain ⟨w1, hw1⟩ : ∃ w1, w1 = (w.setCell ⟨b, 0, none⟩ (.pointer (some ⟨zb, 0, none⟩))) := ⟨_, rfl⟩
      rw [← hw1]
      have hf1 : Fr (fun k => k = b) w w1 := by rw [hw1]; exact ((Fr.refl (fun k => k = b) w).setCell (p := ⟨b, 0, none⟩) (.inl rfl) _)
      have x3 := hf1.cell (p := ⟨xb, 3, none⟩) (by simp; omega) x3
      have x4 := hf1.cell (p := ⟨xb, 4, none⟩) (by simp; omega) x4
      have b2 : w1.cell? ⟨b, 2, none⟩ = some (.int .i64 (n : Int)) := by rw [hw1]; exact blk_cell (blk_set Hbb.out 0 _) 2 rfl
      have f2 : w1.frozen? ⟨b, 2, none⟩ = false := by rw [hw1]; exact blk_froz (blk_set Hbb.out 0 _) 2
      have z3 := hf1.cell (p := ⟨zb, 3, none⟩) (by simp; omega) z3
      have g3 := (hf1.frozen (p := ⟨zb, 3, none⟩) (by simp; omega) hzl).trans g3
      have Hw1 := Lib.hid hw1; have Hf1 := Lib.hid hf1
      clear hw1 hf1
      go_region
      obtain ⟨w2, hw2⟩ : ∃ w2, w2 = (w1.setCell ⟨zb, 3, none⟩ (.pointer none)).drew := ⟨_, rfl⟩
      rw [← hw2]
      have hf2 : Fr (fun k => k = zb) w1 w2 := by rw [hw2]; exact ((Fr.refl (fun k => k = zb) w1).setCell (p := ⟨zb, 3, none⟩) (.inl rfl) _).drew
      have b2 := hf2.cell (p := ⟨b, 2, none⟩) (by simp; omega) b2
      have f2 := (hf2.frozen (p := ⟨b, 2, none⟩) (by simp; omega) (Nat.lt_of_lt_of_le lb Hf1.out.size)).trans f2
      have Hw2 := Lib.hid hw2; have Hf2 := Lib.hid hf2
      clear hw2 hf2
      go_wp2_with fail
      go_end0
      have hfin : ∀ k : Nat, (w2.setCell ⟨b, 2, none⟩ (.int .i64 ((n : Int) - 1))).heap[k]? = (((w.setCell ⟨b, 0, none⟩ (.pointer (some ⟨zb, 0, none⟩))).setCell ⟨zb, 3, none⟩ (.pointer none)).setCell ⟨b, 2, none⟩ (.int .i64 ((n : Int) - 1))).heap[k]? := fun k => by
        rw [Hw2.out, Hw1.out]; rfl
      have hfr : Fr S w (w2.setCell ⟨b, 2, none⟩ (.int .i64 ((n : Int) - 1))) := by
        exact ((Hf1.out.mono fun k _ e => by rw [e]; exact hSb).trans0 (Hf2.out.mono fun k _ e => by rw [e]; exact hSz)).setCell (p := ⟨b, 2, none⟩) (.inl hSb) _
      refine ⟨rfl, hfr, QAt.erase Hh.out i (by rw [Hn.out]; exact hil) ?_ ?_ ?_ ?_, ?_⟩
      · rw [hfin]
        have q0 := Hbb.out
        have q1 := blk_set q0 0 (.pointer (some ⟨zb, 0, none⟩))
        have q2 : ((w.setCell ⟨b, 0, none⟩ (.pointer (some ⟨zb, 0, none⟩))).setCell ⟨zb, 3, none⟩ (.pointer none)).heap[b]? = _ := (blk_set_ne _ _ hbz).trans q1
        have q3 := blk_set q2 2 (.int .i64 ((n : Int) - 1))
        rw [q3, Hn.out]
        unfold queueObj
        rw [Hmi.out]
        rw [if_pos hi0, if_neg hin]
        rw [Hnx.out]
        rfl
      · intro y' h0; exact absurd hi0 h0
      · intro z' hz'
        rw [Hz.out] at hz'; cases hz'
        have q1 : (w.setCell ⟨b, 0, none⟩ (.pointer (some ⟨zb, 0, none⟩))).heap[zb]? = _ := (blk_set_ne _ _ hzb).trans Hzo.out
        rw [hfin, blk_set_ne _ _ hzb, blk_set q1 3]
        rw [Hpv.out]; rfl
      · intro j u hu h1 h2 h3
        obtain ⟨_, hub, _⟩ := Hh.out.node j u hu
        have huz : u.1 ≠ zb := fun e => by have := Hh.out.nd j (i + 1) u (zb, zw) hu Hz.out e; omega
        rw [hfin, blk_set_ne _ _ hub, blk_set_ne _ _ huz, blk_set_ne _ _ hub]
      · rw [hfin, blk_set_ne _ _ (Ne.symm hbx), blk_set_ne _ _ hxz, blk_set_ne _ _ (Ne.symm hbx)]
  · obtain ⟨⟨yb, yw⟩, hy⟩ : ∃ y, xs[i - 1]? = some y := ⟨xs[i - 1]'(by have := Hn.out; omega), List.getElem?_eq_getElem _⟩
    have hpv : prevB xs i = some yb := by unfold prevB; rw [if_neg hi0, hy]; rfl
    rw [hpv, ptr_some] at x3
    obtain ⟨hSy, hyb, hyo⟩ := Hh.out.node (i - 1) _ hy
    dsimp only at hSy hyb hyo
    have hyl := lt_of_block hyo
    have g4 := blk_froz hyo 4
    have hyn : nextB xs (i - 1) = some xb := by unfold nextB; rw [show i - 1 + 1 = i by omega, Hx.out]; rfl
    have hby : b ≠ yb := fun e => hyb e.symm
    have hxy : xb ≠ yb := fun e => by have := Hh.out.nd i (i - 1) _ _ Hx.out hy e; omega
    have y4 : w.cell? ⟨yb, 4, none⟩ = some (.pointer (some ⟨xb, 0, none⟩)) := by have y4 := blk_cell hyo 4 rfl; rw [hyn] at y4; exact y4
    have Hpv := Lib.hid hpv; have Hy := Lib.hid hy; have Hyo := Lib.hid hyo
    clear hpv hy hyo hyn
    by_cases hin : i + 1 = n
    · have hz : xs[i + 1]? = none := List.getElem?_eq_none (by have := Hn.out; omega)
      have hnx : nextB xs i = none := by unfold nextB; rw [hz]; rfl
      rw [hnx, ptr_none] at x4
      have Hnx := Lib.hid hnx; have Hz := Lib.hid hz
      clear hnx hz
      go_enter Tryz.func207, Tryz.ntmps207
      go_wp2_with fail
      go_region
      obtain ⟨w1, hw1⟩ : ∃ w1, w1 = (w.setCell ⟨yb, 4, none⟩ (.pointer none)).drew := ⟨_, rfl⟩
      rw [← hw1]
      have hf1 : Fr (fun k => k = yb) w w1 := by rw [hw1]; exact ((Fr.refl (fun k => k = yb) w).setCell (p := ⟨yb, 4, none⟩) (.inl rfl) _).drew
      have x3 := hf1.cell (p := ⟨xb, 3, none⟩) (by simp; omega) x3
      have x4 := hf1.cell (p := ⟨xb, 4, none⟩) (by simp; omega) x4
      have b2 := hf1.cell (p := ⟨b, 2, none⟩) (by simp; omega) b2
      have b1 := hf1.cell (p := ⟨b, 1, none⟩) (by simp; omega) b1
      have f1 := (hf1.frozen (p := ⟨b, 1, none⟩) (by simp; omega) lb).trans f1
      have f2 := (hf1.frozen (p := ⟨b, 2, none⟩) (by simp; omega) lb).trans f2
      have Hw1 := Lib.hid hw1; have Hf1 := Lib.hid hf1
      clear hw1 hf1
      go_wp2_with fail
      go_end0
      have hfin : ∀ k : Nat, ((w1.setCell ⟨b, 1, none⟩ (.pointer (some ⟨yb, 0, none⟩))).setCell ⟨b, 2, none⟩ (.int .i64 ((n : Int) - 1))).heap[k]? = (((w.setCell ⟨yb, 4, none⟩ (.pointer none)).setCell ⟨b, 1, none⟩ (.pointer (some ⟨yb, 0, none⟩))).setCell ⟨b, 2, none⟩ (.int .i64 ((n : Int) - 1))).heap[k]? := fun k => by
        rw [Hw1.out]; rfl
      have hfr : Fr S w ((w1.setCell ⟨b, 1, none⟩ (.pointer (some ⟨yb, 0, none⟩))).setCell ⟨b, 2, none⟩ (.int .i64 ((n : Int) - 1))) := by
        exact (((Hf1.out.mono fun k _ e => by rw [e]; exact hSy).setCell (p := ⟨b, 1, none⟩) (.inl hSb) _)).setCell (p := ⟨b, 2, none⟩) (.inl hSb) _
      refine ⟨rfl, hfr, QAt.erase Hh.out i (by rw [Hn.out]; exact hil) ?_ ?_ ?_ ?_, ?_⟩
      · rw [hfin]
        have q0 := Hbb.out
        have q1 : (w.setCell ⟨yb, 4, none⟩ (.pointer none)).heap[b]? = _ := (blk_set_ne _ _ hby).trans q0
        have q2 := blk_set q1 1 (.pointer (some ⟨yb, 0, none⟩))
        have q3 := blk_set q2 2 (.int .i64 ((n : Int) - 1))
        rw [q3, Hn.out]
        unfold queueObj
        rw [Hmi.out]
        rw [if_neg hi0, if_pos hin]
        rw [Hpv.out]
        rfl
      · intro y' _ hy'
        rw [Hy.out] at hy'; cases hy'
        rw [hfin, blk_set_ne _ _ hyb, blk_set_ne _ _ hyb, blk_set Hyo.out 4]
        rw [Hnx.out]; rfl
      · intro z' hz'; rw [Hz.out] at hz'; cases hz'
      · intro j u hu h1 h2 h3
        obtain ⟨_, hub, _⟩ := Hh.out.node j u hu
        have huy : u.1 ≠ yb := fun e => by have := Hh.out.nd j (i - 1) u (yb, yw) hu Hy.out e; omega
        rw [hfin, blk_set_ne _ _ hub, blk_set_ne _ _ hub, blk_set_ne _ _ huy]
      · rw [hfin, blk_set_ne _ _ (Ne.symm hbx), blk_set_ne _ _ (Ne.symm hbx), blk_set_ne _ _ hxy]
    · obtain ⟨⟨zb, zw⟩, hz⟩ : ∃ z, xs[i + 1]? = some z := ⟨xs[i + 1]'(by have := Hn.out; omega), List.getElem?_eq_getElem _⟩
      have hnx : nextB xs i = some zb := by unfold nextB; rw [hz]; rfl
      rw [hnx, ptr_some] at x4
      obtain ⟨hSz, hzb, hzo⟩ := Hh.out.node (i + 1) _ hz
      dsimp only at hSz hzb hzo
      have hzl := lt_of_block hzo
      have g3 := blk_froz hzo 3
      have hzp : prevB xs (i + 1) = some xb := by unfold prevB; rw [if_neg (by omega), Nat.add_sub_cancel, Hx.out]; rfl
      have hbz : b ≠ zb := fun e => hzb e.symm
      have hxz : xb ≠ zb := fun e => by have := Hh.out.nd i (i + 1) _ _ Hx.out hz e; omega
      have z3 : w.cell? ⟨zb, 3, none⟩ = some (.pointer (some ⟨xb, 0, none⟩)) := by have z3 := blk_cell hzo 3 rfl; rw [hzp] at z3; exact z3
      have hyz : yb ≠ zb := fun e => by have := Hh.out.nd (i - 1) (i + 1) _ _ Hy.out hz e; omega
      have hzy : zb ≠ yb := fun e => hyz e.symm
      have Hnx := Lib.hid hnx; have Hz := Lib.hid hz; have Hzo := Lib.hid hzo
      clear hnx hz hzo hzp
      go_enter Tryz.func207, Tryz.ntmps207
      go_wp2_with fail
      go_region
      obtain ⟨w1, hw1⟩ : ∃ w1, w1 = (w.setCell ⟨yb, 4, none⟩ (.pointer (some ⟨zb, 0, none⟩))).drew := ⟨_, rfl⟩
      rw [← hw1]
      have hf1 : Fr (fun k => k = yb) w w1 := by rw [hw1]; exact ((Fr.refl (fun k => k = yb) w).setCell (p := ⟨yb, 4, none⟩) (.inl rfl) _).drew
      have x3 := hf1.cell (p := ⟨xb, 3, none⟩) (by simp; omega) x3
      have x4 := hf1.cell (p := ⟨xb, 4, none⟩) (by simp; omega) x4
      have b2 := hf1.cell (p := ⟨b, 2, none⟩) (by simp; omega) b2
      have b1 := hf1.cell (p := ⟨b, 1, none⟩) (by simp; omega) b1
      have f1 := (hf1.frozen (p := ⟨b, 1, none⟩) (by simp; omega) lb).trans f1
      have f2 := (hf1.frozen (p := ⟨b, 2, none⟩) (by simp; omega) lb).trans f2
      have z3 := hf1.cell (p := ⟨zb, 3, none⟩) (by simp; omega) z3
      have g3 := (hf1.frozen (p := ⟨zb, 3, none⟩) (by simp; omega) hzl).trans g3
      have Hw1 := Lib.hid hw1; have Hf1 := Lib.hid hf1
      clear hw1 hf1
      go_wp2_with fail
      go_region
      obtain ⟨w2, hw2⟩ : ∃ w2, w2 = (w1.setCell ⟨zb, 3, none⟩ (.pointer (some ⟨yb, 0, none⟩))).drew := ⟨_, rfl⟩
      rw [← hw2]
      have hf2 : Fr (fun k => k = zb) w1 w2 := by rw [hw2]; exact ((Fr.refl (fun k => k = zb) w1).setCell (p := ⟨zb, 3, none⟩) (.inl rfl) _).drew
      have b2 := hf2.cell (p := ⟨b, 2, none⟩) (by simp; omega) b2
      have f2 := (hf2.frozen (p := ⟨b, 2, none⟩) (by simp; omega) (Nat.lt_of_lt_of_le lb Hf1.out.size)).trans f2
      have Hw2 := Lib.hid hw2; have Hf2 := Lib.hid hf2
      clear hw2 hf2
      go_wp2_with fail
      go_end0
      have hfin : ∀ k : Nat, (w2.setCell ⟨b, 2, none⟩ (.int .i64 ((n : Int) - 1))).heap[k]? = (((w.setCell ⟨yb, 4, none⟩ (.pointer (some ⟨zb, 0, none⟩))).setCell ⟨zb, 3, none⟩ (.pointer (some ⟨yb, 0, none⟩))).setCell ⟨b, 2, none⟩ (.int .i64 ((n : Int) - 1))).heap[k]? := fun k => by
        rw [Hw2.out, Hw1.out]; rfl
      have hfr : Fr S w (w2.setCell ⟨b, 2, none⟩ (.int .i64 ((n : Int) - 1))) := by
        exact ((Hf1.out.mono fun k _ e => by rw [e]; exact hSy).trans0 (Hf2.out.mono fun k _ e => by rw [e]; exact hSz)).setCell (p := ⟨b, 2, none⟩) (.inl hSb) _
      refine ⟨rfl, hfr, QAt.erase Hh.out i (by rw [Hn.out]; exact hil) ?_ ?_ ?_ ?_, ?_⟩
      · rw [hfin]
        have q0 := Hbb.out
        have q1 : (w.setCell ⟨yb, 4, none⟩ (.pointer (some ⟨zb, 0, none⟩))).heap[b]? = _ := (blk_set_ne _ _ hby).trans q0
        have q2 : ((w.setCell ⟨yb, 4, none⟩ (.pointer (some ⟨zb, 0, none⟩))).setCell ⟨zb, 3, none⟩ (.pointer (some ⟨yb, 0, none⟩))).heap[b]? = _ := (blk_set_ne _ _ hbz).trans q1
        have q3 := blk_set q2 2 (.int .i64 ((n : Int) - 1))
        rw [q3, Hn.out]
        unfold queueObj
        rw [Hmi.out]
        rw [if_neg hi0, if_neg hin]
        rfl
      · intro y' _ hy'
        rw [Hy.out] at hy'; cases hy'
        rw [hfin, blk_set_ne _ _ hyb, blk_set_ne _ _ hyz, blk_set Hyo.out 4]
        rw [Hnx.out]; rfl
      · intro z' hz'
        rw [Hz.out] at hz'; cases hz'
        have q1 : (w.setCell ⟨yb, 4, none⟩ (.pointer (some ⟨zb, 0, none⟩))).heap[zb]? = _ := (blk_set_ne _ _ hzy).trans Hzo.out
        rw [hfin, blk_set_ne _ _ hzb, blk_set q1 3]
        rw [Hpv.out]; rfl
      · intro j u hu h1 h2 h3
        obtain ⟨_, hub, _⟩ := Hh.out.node j u hu
        have huy : u.1 ≠ yb := fun e => by have := Hh.out.nd j (i - 1) u (yb, yw) hu Hy.out e; omega
        have huz : u.1 ≠ zb := fun e => by have := Hh.out.nd j (i + 1) u (zb, zw) hu Hz.out e; omega
        rw [hfin, blk_set_ne _ _ hub, blk_set_ne _ _ huz, blk_set_ne _ _ huy]
      · rw [hfin, blk_set_ne _ _ (Ne.symm hbx), blk_set_ne _ _ hxz, blk_set_ne _ _ hxy]
end Go.Proofs.YtcffplgimbbflaaGreat
