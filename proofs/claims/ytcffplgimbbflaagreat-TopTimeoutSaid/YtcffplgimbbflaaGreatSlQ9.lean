/- Who waits on a channel, from outside; what two laws need. -/
import Derived.Test.YtcffplgimbbflaaGreatSlQ8
set_option linter.unusedVariables false
set_option linter.unusedSimpArgs false
namespace Go.Proofs.YtcffplgimbbflaaGreat
open Go.RowKit
set_option maxRecDepth 100000
/-- The same instruction, its cases maybe elsewhere. -/
def SameI (y y' : Ins) : Prop := y'.1 = y.1 ∧ y'.2.2 = y.2.2 ∧ (y.2.2.1 = [] → y' = y)
theorem SameI.refl (y : Ins) : SameI y y := ⟨rfl, rfl, fun _ => rfl⟩
theorem ins_one {w : World} {p : List Ins} (h : ∀ y ∈ p, InsOk w y) : ∀ u ∈ p.flatMap insEn, u.oneCell' = true := by
  intro u hu
  obtain ⟨x, hx0, hx⟩ := List.mem_flatMap.1 hu
  obtain ⟨_, _, A, c, hv, _⟩ := h x hx0
  simp only [insEn, List.mem_cons, List.not_mem_nil, or_false] at hx
  rcases hx with rfl | rfl | rfl | rfl | rfl | rfl
  · rfl
  · rfl
  · rfl
  · rfl
  · rw [hv]; rfl
  · rfl
theorem ics_one (cs : List ICs) : ∀ u ∈ cs.flatMap icsEn, u.oneCell' = true := by
  intro u hu
  obtain ⟨x, _, hx⟩ := List.mem_flatMap.1 hu
  simp only [icsEn, List.mem_cons, List.not_mem_nil, or_false] at hx
  rcases hx with rfl | rfl | rfl <;> rfl
theorem insSet : ∀ (q : List Ins) (k : Nat) (y : Ins) (v : Value), q[k]? = some y → (q.flatMap insEn).set (k * 6 + 4) v = (q.set k (y.1, v, y.2.2)).flatMap insEn
  | [], k, y, v, h => by simp at h
  | x :: q, 0, y, v, h => by simp at h; subst h; simp [List.flatMap_cons, insEn]
  | x :: q, k + 1, y, v, h => by
    have ih := insSet q k y v (by simpa using h)
    rw [List.set_cons_succ, List.flatMap_cons, List.flatMap_cons, List.set_append, if_neg (by simp; omega), show (k + 1) * 6 + 4 - (insEn x).length = k * 6 + 4 by simp; omega, ih]
/-- How far own is. -/
structure OwnSt (w w1 wr : World) (v1 : Value) (p q : List Ins) (n k : Nat) : Prop where
  fr : Fr Nob w wr
  sz : w1.heap.size ≤ wr.heap.size
  len : q.length = n
  same : ∀ (j : Nat) (y : Ins), p[j]? = some y → ∃ y', q[j]? = some y' ∧ SameI y y'
  rest : ∀ j : Nat, k ≤ j → q[j]? = p[j]?
  done : ∀ (j : Nat) (y : Ins), j < k → q[j]? = some y → Sl wr (fun b => w1.heap.size ≤ b ∧ b < wr.heap.size) 27 3 y.2.1 y.2.2.1.length (y.2.2.1.flatMap icsEn) ∧ (y.2.2.1 = [] → y.2.1 = .slice none 0 0)
  sl : Sl wr (fun b => w.heap.size ≤ b ∧ b < w1.heap.size) 25 6 v1 n (q.flatMap insEn)
def OwnP (w : World) (p : List Ins) (n : Nat) (e : Ending) (w' : World) : Prop := ∃ (v' : Value) (q : List Ins), e = .returned v' ∧ Fr Nob w w' ∧ q.length = n ∧ (∀ (j : Nat) (y : Ins), p[j]? = some y → ∃ y', q[j]? = some y' ∧ SameI y y') ∧ Sl w' (fun b => w.heap.size ≤ b ∧ b < w'.heap.size) 25 6 v' n (q.flatMap insEn) ∧ ∀ y ∈ q, Sl w' (fun b => w.heap.size ≤ b ∧ b < w'.heap.size) 27 3 y.2.1 y.2.2.1.length (y.2.2.1.flatMap icsEn) ∧ (y.2.2.1 = [] → y.2.1 = .slice none 0 0)
set_option maxHeartbeats 2000000 in
theorem world_own {w : World} {v : Value} {p : List Ins} (n : Nat) (hn : p.length = n) (hb : n ≤ 100) (h : Rd w 6 v n (p.flatMap insEn)) (hok : ∀ y ∈ p, InsOk w y) (hnil : ∀ y ∈ p, y.2.2.1 = [] → y.2.1 = .slice none 0 0) (hcs : ∀ y ∈ p, y.2.2.1.length ≤ 16) :
    Calls Tryz.prog 25 #[v] w (OwnP w p n) := by
  have Hcl := Lib.hid (clone_ins w v (p.flatMap insEn) n (by omega) h (ins_one hok))
  have Hok := Lib.hid hok; have Hnil := Lib.hid hnil; have Hn := Lib.hid hn; have Hcs := Lib.hid hcs
  clear h hok hnil hn hcs
  go_enter Tryz.func25, Tryz.ntmps25
  go_wp2_with fail
  refine Hcl.out.mono ?_
  rintro e w1 ⟨v1, rfl, hf1, hs1⟩
  obtain ⟨A1, c1, rfl⟩ := hs1.slice
  have hst : OwnSt w w1 w1 (.slice A1 n c1) p p n 0 := ⟨hf1, Nat.le_refl _, Hn.out, fun j y hj => ⟨y, hj, SameI.refl y⟩, fun _ _ => rfl, fun j y hj => by omega, hs1⟩
  have Hst := Lib.hid hst; have Hf1 := Lib.hid hf1
  clear hf1 hs1 hst
  go_wp2_with fail
  go_loopw [8] (fun i wr => ∃ (k : Nat) (q : List Ins), k ≤ n ∧ i = .int .i64 k ∧ Hid (OwnSt w w1 wr (.slice A1 n c1) p q n k)) (fun i _ => n - (intOf i).toNat)
  case atStart => exact ⟨0, p, Nat.zero_le _, rfl, Hst⟩
  case round =>
    obtain ⟨k, q, hk, rfl, hr⟩ := hrel
    by_cases hlt : k < n
    · obtain ⟨y, hy⟩ : ∃ y, q[k]? = some y := ⟨q[k]'(by rw [hr.out.len]; exact hlt), by simp⟩
      have hyp : p[k]? = some y := by rw [← hr.out.rest k (Nat.le_refl _)]; exact hy
      have hmem := List.mem_of_getElem? hyp
      obtain ⟨g, off, cp, hv, hg, hgl, hc1, hc2, hc, hfz⟩ := hr.out.sl.form (by omega)
      injection hv with hA hn' hcp
      subst hA; subst hcp
      have q4 := hc _ _ ((insGet q k 4 y hy (by omega)).trans rfl)
      rw [← Nat.add_assoc] at q4
      have f4 := hfz (off + k * 6 + 4)
      have hki : (k : Int) < n := by omega
      have hio := (Hok.out y hmem).fr hr.out.fr
      have Hr := hr
      have Hy := Lib.hid hy; have Hyp := Lib.hid hyp; have Hg := Lib.hid hg; have Hgl := Lib.hid hgl
      by_cases he : y.2.2.1 = []
      · have hv0 := Hnil.out y hmem he
        rw [hv0] at q4
        clear hc hfz hn' hr hmem hio hy hyp hg hgl
        go_wp2_with fail
        refine (clone_nil wr).mono ?_
        rintro e _ ⟨rfl, rfl⟩
        go_wp2_with fail
        obtain ⟨w3, hw3⟩ : ∃ w3, w3 = wr.setCell ⟨g, off + k * 6 + 4, none⟩ (.slice none 0 0) := ⟨_, rfl⟩
        rw [← hw3]
        have hf3 : Fr (fun b => b = g) wr w3 := by rw [hw3]; exact (Fr.refl (fun b => b = g) wr).setCell (p := ⟨g, off + k * 6 + 4, none⟩) (.inl rfl) _
        have hsl : Sl w3 (fun b => w.heap.size ≤ b ∧ b < w1.heap.size) 25 6 (.slice (some ⟨g, off, none⟩) n c1) n (q.flatMap insEn) := by
          have e1 := Hr.out.sl.set (k * 6 + 4) (by omega) (.slice none 0 0)
          rw [insSet q k y _ Hy.out, show (y.1, Value.slice none 0 0, y.2.2) = y by rw [← hv0]] at e1
          have e2 : q.set k y = q := by
            have hlt := (List.getElem?_eq_some_iff.1 Hy.out)
            obtain ⟨hlt, he⟩ := hlt
            rw [← he, List.set_getElem_self]
          rw [e2, ← Nat.add_assoc, ← hw3] at e1
          exact e1
        have hz3 := hf3.size
        have hst : OwnSt w w1 w3 (.slice (some ⟨g, off, none⟩) n c1) p q n (k + 1) := ⟨Hr.out.fr.trans hf3 fun b hb e => by have := Hg.out.1; omega, by have := Hr.out.sz; omega, Hr.out.len, Hr.out.same, fun j hj => Hr.out.rest j (by omega), fun j y' hj hy' => by
          by_cases e : j = k
          · subst e
            rw [Hy.out] at hy'
            cases hy'
            rw [hv0, he]
            exact ⟨Sl.nil _ _ _ _, fun _ => rfl⟩
          · obtain ⟨a, b⟩ := Hr.out.done j y' (by omega) hy'
            exact ⟨(a.fr hf3 fun b q e => by have := Hg.out.2; omega).mono fun b hb q => ⟨q.1, hb⟩, b⟩, hsl⟩
        have Hst2 := Lib.hid hst
        clear hst hsl hf3 hw3 q4 f4
        go_wp2_with fail
        go_roundw
        case rel => exact ⟨k + 1, q, by omega, by go_num, Hst2⟩
        case measure => simp [intOf]; omega
      · have Hc2 := Lib.hid (clone_ics wr y.2.1 (y.2.2.1.flatMap icsEn) y.2.2.1.length (by have := Hcs.out y hmem; omega) hio (ics_one _))
        have hvs : ∃ A2 c2, y.2.1 = .slice A2 y.2.2.1.length c2 := by obtain ⟨_, _, A2, c2, hv, _⟩ := hio; exact ⟨A2, c2, hv⟩
        obtain ⟨A2, c2, hvs⟩ := hvs
        clear hc hfz hn' hr hmem hio hy hyp hg hgl
        rw [hvs] at q4 Hc2
        go_wp2_with fail
        refine Hc2.out.mono ?_
        rintro e w2 ⟨v2, rfl, hf2, hs2⟩
        obtain ⟨A3, c3, rfl⟩ := hs2.slice
        have q42 := hf2.cell (p := ⟨g, off + k * 6 + 4, none⟩) (fun q => q) q4
        have f42 : w2.frozen? ⟨g, off + k * 6 + 4, none⟩ = false := by rw [hf2.frozen (p := ⟨g, off + k * 6 + 4, none⟩) (fun q => q) Hgl.out]; exact f4
        have Hf2 := Lib.hid hf2; have Hs2 := Lib.hid hs2
        clear hf2 hs2 q4 f4
        go_wp2_with fail
        obtain ⟨w3, hw3⟩ : ∃ w3, w3 = w2.setCell ⟨g, off + k * 6 + 4, none⟩ (.slice A3 y.2.2.1.length c3) := ⟨_, rfl⟩
        rw [← hw3]
        have hf3 : Fr (fun b => b = g) w2 w3 := by rw [hw3]; exact (Fr.refl (fun b => b = g) w2).setCell (p := ⟨g, off + k * 6 + 4, none⟩) (.inl rfl) _
        have hsl : Sl w3 (fun b => w.heap.size ≤ b ∧ b < w1.heap.size) 25 6 (.slice (some ⟨g, off, none⟩) n c1) n ((q.set k (y.1, .slice A3 y.2.2.1.length c3, y.2.2)).flatMap insEn) := by
          have e1 := (Hr.out.sl.fr Hf2.out fun _ _ q => q).set (k * 6 + 4) (by omega) (.slice A3 y.2.2.1.length c3)
          rw [insSet q k y _ Hy.out, ← Nat.add_assoc, ← hw3] at e1
          exact e1
        have hz2 := Hf2.out.size
        have hz3 := hf3.size
        have hgw := Hg.out
        have hst : OwnSt w w1 w3 (.slice (some ⟨g, off, none⟩) n c1) p (q.set k (y.1, .slice A3 y.2.2.1.length c3, y.2.2)) n (k + 1) := ⟨(Hr.out.fr.trans0 Hf2.out).trans hf3 fun b hb e => by omega, by have := Hr.out.sz; omega, by rw [List.length_set]; exact Hr.out.len, fun j y' hj => by
          by_cases e : j = k
          · subst e
            rw [Hyp.out] at hj
            cases hj
            exact ⟨_, List.getElem?_set_self (by rw [Hr.out.len]; exact hlt), rfl, rfl, fun q => absurd q he⟩
          · rw [List.getElem?_set_ne (by omega)]; exact Hr.out.same j y' hj, fun j hj => by rw [List.getElem?_set_ne (by omega)]; exact Hr.out.rest j (by omega), fun j y' hj hy' => by
          by_cases e : j = k
          · subst e
            rw [List.getElem?_set_self (by rw [Hr.out.len]; exact hlt)] at hy'
            cases hy'
            refine ⟨(Hs2.out.fr hf3 fun b q e => by have := Hr.out.sz; omega).mono fun b hb q => ⟨by have := Hr.out.sz; omega, hb⟩, fun q => absurd q he⟩
          · rw [List.getElem?_set_ne (by omega)] at hy'
            obtain ⟨a, b⟩ := Hr.out.done j y' (by omega) hy'
            exact ⟨((a.fr Hf2.out fun _ _ q => q).fr hf3 fun b q e => by omega).mono fun b hb q => ⟨q.1, hb⟩, b⟩, hsl⟩
        have Hst2 := Lib.hid hst
        clear hst hsl hf3 hw3 q42 f42
        go_wp2_with fail
        go_roundw
        case rel => exact ⟨k + 1, _, by omega, by go_num, Hst2⟩
        case measure => simp [intOf]; omega
    · obtain rfl : k = n := by omega
      go_wp2_with fail
      go_ret
      refine ⟨_, q, rfl, hr.out.fr, hr.out.len, hr.out.same, hr.out.sl.mono fun b hb q => ⟨q.1, hb⟩, fun y hy => ?_⟩
      obtain ⟨j, hj, e⟩ := List.mem_iff_getElem.1 hy
      obtain ⟨a, b⟩ := hr.out.done j y (by have := hr.out.len; omega) (by rw [List.getElem?_eq_getElem hj, e])
      exact ⟨a.mono fun b hb q => ⟨by have := Hf1.out.size; omega, q.2⟩, b⟩
abbrev hiEn (x : Hi) : List Value := [.int .i64 x.1, .int .i64 x.2.1, .int .i64 x.2.2]
abbrev hiV (x : Hi) : Value := .agg #[.int .i64 x.1, .int .i64 x.2.1, .int .i64 x.2.2]
abbrev his (l : List Hi) : List Value := l.flatMap hiEn
abbrev hiZ : Hi := (0, 0, 0)
/-- Where an item is. -/
def hPos : List Hi → Int → Option Int
  | [], _ => none
  | x :: l, k => if x.1 = k then some 0 else (hPos l k).map (· + 1)
theorem his_get : ∀ (l : List Hi) (i j : Nat) (x : Hi), l[i]? = some x → j < 3 → (his l)[i * 3 + j]? = (hiEn x)[j]?
  | [], i, j, x, h, _ => by simp at h
  | y :: l, 0, j, x, h, hj => by simp at h; subst h; simp only [his, List.flatMap_cons, Nat.zero_mul, Nat.zero_add]; rw [List.getElem?_append_left (by simpa using hj)]
  | y :: l, i + 1, j, x, h, hj => by
    have := his_get l i j x (by simpa using h) hj
    simp only [his, List.flatMap_cons] at this ⊢
    rw [List.getElem?_append_right (by simp; omega), ← this]
    congr 1
    simp
    omega
theorem his_set : ∀ (l : List Hi) (i : Nat) (x : Hi), i < l.length → (((his l).set (i * 3) (.int .i64 x.1)).set (i * 3 + 1) (.int .i64 x.2.1)).set (i * 3 + 2) (.int .i64 x.2.2) = his (l.set i x)
  | [], i, x, h => by simp at h
  | y :: l, 0, x, h => by simp [his, hiEn]
  | y :: l, i + 1, x, h => by
    have := his_set l i x (by simpa using h)
    simp only [his, List.flatMap_cons, List.set_cons_succ] at this ⊢
    rw [← this]
    simp only [hiEn, List.cons_append, List.nil_append, show (i + 1) * 3 = i * 3 + 1 + 1 + 1 by omega, List.set_cons_succ]
/-- A heap's parts: its block, its map's block, its row's blocks; the map as it stands. -/
structure HeapQ (w : World) (S : Nat → Prop) (b mb : Nat) (SL : Nat → Prop) (v : Value) (l : List Hi) (n seq nm : Nat) (f : Int → Option Int) : Prop where
  own : S b
  ownM : S mb
  ne : b ≠ mb
  lt : ∀ k, S k → k < w.heap.size
  subL : ∀ k, SL k → S k ∧ k ≠ b ∧ k ≠ mb
  blk : w.heap[b]? = some (.cells #[v, .map (some mb), .int .i64 (seq : Int)] 201 (0, 0))
  len : l.length = n
  sl : Sl w SL 208 3 v n (his l)
  map : MapAt w mb nm f
/-- A heap: each item's place is in the map, and none else. -/
def HeapAt (w : World) (S : Nat → Prop) (b : Nat) (l : List Hi) (seq nm : Nat) : Prop := ∃ (mb : Nat) (SL : Nat → Prop) (v : Value) (n : Nat) (f : Int → Option Int), HeapQ w S b mb SL v l n seq nm f ∧ (∀ k, f k = hPos l k) ∧ (∀ x ∈ l, 0 ≤ x.1 ∧ x.1 < 1000) ∧ seq ≤ nm ∧ (l.map fun x => x.1).Nodup
section
variable {w w' : World} {S : Nat → Prop} {b mb : Nat} {SL : Nat → Prop} {v : Value} {l : List Hi} {n seq nm : Nat} {f : Int → Option Int}
theorem HeapQ.fr (h : HeapQ w S b mb SL v l n seq nm f) {F : Nat → Prop} (hf : Fr F w w') (hd : ∀ k, S k → F k → False) : HeapQ w' S b mb SL v l n seq nm f :=
  ⟨h.own, h.ownM, h.ne, fun k q => by have := h.lt k q; have := hf.size; omega, h.subL, hf.blk (hd _ h.own) h.blk, h.len, h.sl.fr hf fun k q => hd k (h.subL k q).1, h.map.fr hf (hd _ h.ownM)⟩
theorem HeapQ.fr0 (h : HeapQ w S b mb SL v l n seq nm f) (hf : Fr Nob w w') : HeapQ w' S b mb SL v l n seq nm f := h.fr hf fun _ _ q => q
theorem HeapAt.fr (h : HeapAt w S b l seq nm) {F : Nat → Prop} (hf : Fr F w w') (hd : ∀ k, S k → F k → False) : HeapAt w' S b l seq nm := by
  obtain ⟨mb, SL, v, n, f, h, r⟩ := h; exact ⟨mb, SL, v, n, f, h.fr hf hd, r⟩
theorem HeapAt.fr0 (h : HeapAt w S b l seq nm) (hf : Fr Nob w w') : HeapAt w' S b l seq nm := h.fr hf fun _ _ q => q
theorem HeapAt.own (h : HeapAt w S b l seq nm) : S b := by obtain ⟨mb, SL, v, n, f, h, _⟩ := h; exact h.own
theorem HeapAt.lt (h : HeapAt w S b l seq nm) : ∀ k, S k → k < w.heap.size := by obtain ⟨mb, SL, v, n, f, h, _⟩ := h; exact h.lt
theorem HeapAt.mono (h : HeapAt w S b l seq nm) {m : Nat} (hm : nm ≤ m) : HeapAt w S b l seq m := by
  obtain ⟨mb, SL, v, n, f, h, r⟩ := h; exact ⟨mb, SL, v, n, f, ⟨h.own, h.ownM, h.ne, h.lt, h.subL, h.blk, h.len, h.sl, h.map.mono hm⟩, r.1, r.2.1, by omega, r.2.2.2⟩
end
theorem heap_new (w : World) : Calls Tryz.prog 66 #[] w fun e w' => ∃ (b : Nat) (S : Nat → Prop), e = .returned (.pointer (some ⟨b, 0, none⟩)) ∧ Fr Nob w w' ∧ HeapAt w' S b [] 0 0 ∧ ∀ k, S k → w.heap.size ≤ k := by
  have hmm := @run_makeMap Tryz.prog
  go_enter Tryz.func66, Tryz.ntmps66
  go_wp2_with fail
  go_ret
  refine ⟨w.heap.size + 1, fun k => k = w.heap.size ∨ k = w.heap.size + 1, by simp, ((Fr.refl Nob w).alloc _).alloc _, ⟨w.heap.size, Nob, .slice none 0 0, 0, fun _ => none, ⟨.inr rfl, .inl rfl, by omega, fun k q => by simp; omega, fun k q => q.elim, ?_, rfl, Sl.nil _ _ _ _, ?_⟩, fun k => rfl, fun x hx => by simp at hx, by omega, List.nodup_nil⟩, fun k q => by omega⟩
  · exact blk_alloc_eq _ (by simp)
  · exact (MapAt.made w).fr0 ((Fr.refl Nob _).alloc _)
section
variable {w : World} {S : Nat → Prop} {b mb : Nat} {SL : Nat → Prop} {v : Value} {l : List Hi} {n seq nm : Nat} {f : Int → Option Int} (h : HeapQ w S b mb SL v l n seq nm f)
include h
theorem HeapQ.cells : ∃ A cp, v = .slice A n cp ∧ w.cell? ⟨b, 0, none⟩ = some (.slice A n cp) ∧ w.cell? ⟨b, 1, none⟩ = some (.map (some mb)) ∧ w.cell? ⟨b, 2, none⟩ = some (.int .i64 (seq : Int)) ∧ w.frozen? ⟨b, 0, none⟩ = false ∧ w.frozen? ⟨b, 2, none⟩ = false := by
  obtain ⟨A, cp, e⟩ := h.sl.slice
  have c0 := blk_cell h.blk 0 rfl
  rw [e] at c0
  exact ⟨A, cp, e, c0, blk_cell h.blk 1 rfl, blk_cell h.blk 2 rfl, blk_froz h.blk 0, blk_froz h.blk 2⟩
theorem heap_len : Calls Tryz.prog 188 #[.pointer (some ⟨b, 0, none⟩)] w fun e w' => e = .returned (.int .i64 (n : Int)) ∧ w = w' := by
  obtain ⟨A, cp, rfl, c0, c1, c2, f0, f2⟩ := h.cells
  clear h
  go_enter Tryz.func188, Tryz.ntmps188
  go_wp2_with fail
  go_ret
  exact ⟨rfl, rfl⟩
/-- An item's cells. -/
theorem HeapQ.item (i : Nat) (x : Hi) (hi : l[i]? = some x) : ∃ g off cp, v = .slice (some ⟨g, off, none⟩) n cp ∧ SL g ∧ g < w.heap.size ∧ i < n ∧ n ≤ cp ∧ cp ≤ maxLen ∧ w.cell? ⟨g, off + i * 3, none⟩ = some (.int .i64 x.1) ∧ w.cell? ⟨g, off + i * 3 + 1, none⟩ = some (.int .i64 x.2.1) ∧ w.cell? ⟨g, off + i * 3 + 2, none⟩ = some (.int .i64 x.2.2) ∧ ∀ j, w.frozen? ⟨g, j, none⟩ = false := by
  have hin : i < n := by rw [← h.len]; exact (List.getElem?_eq_some_iff.1 hi).1
  obtain ⟨g, off, cp, hv, hg, hgl, hc1, hc2, hc, hfz⟩ := h.sl.form (by omega)
  have q0 := hc _ _ ((his_get l i 0 x hi (by omega)).trans rfl)
  have q1 := hc _ _ ((his_get l i 1 x hi (by omega)).trans rfl)
  have q2 := hc _ _ ((his_get l i 2 x hi (by omega)).trans rfl)
  rw [Nat.add_zero] at q0
  rw [← Nat.add_assoc] at q1 q2
  exact ⟨g, off, cp, hv, hg, hgl, hin, hc1, hc2, q0, q1, q2, hfz⟩
theorem heap_find (i : Nat) (x : Hi) (hi : l[i]? = some x) (hfx : f x.1 = some (i : Int)) (hk : (Lit.int .i64 x.1).wf = true) : Calls Tryz.prog 189 #[.pointer (some ⟨b, 0, none⟩), .int .i64 x.1] w fun e w' => e = .returned (.tuple #[hiV x, .bool true]) ∧ Fr Nob w w' := by
  obtain ⟨A, cp, hv, c0, c1, c2, f0, f2⟩ := h.cells
  obtain ⟨g, off, cp', hv', hg, hgl, hin, hc1, hc2, q0, q1, q2, hfz⟩ := h.item i x hi
  rw [hv] at hv'
  injection hv' with hA hn' hcp
  subst hA; subst hcp
  have Hm := Lib.hid h.map
  clear h hi hv hn'
  have q0' := ((Fr.refl Nob w).alloc (.cells #[.int .i64 0, .int .i64 0, .int .i64 0] 208)).cell id q0
  have q1' := ((Fr.refl Nob w).alloc (.cells #[.int .i64 0, .int .i64 0, .int .i64 0] 208)).cell id q1
  have q2' := ((Fr.refl Nob w).alloc (.cells #[.int .i64 0, .int .i64 0, .int .i64 0] 208)).cell id q2
  have c0' := ((Fr.refl Nob w).alloc (.cells #[.int .i64 0, .int .i64 0, .int .i64 0] 208)).cell id c0
  have c1' := ((Fr.refl Nob w).alloc (.cells #[.int .i64 0, .int .i64 0, .int .i64 0] 208)).cell id c1
  go_enter Tryz.func189, Tryz.ntmps189
  go_wp2_with (refine map_look2 rfl (.tmp 15) (.tmp 16) rfl mb nm f rfl (Hm.out.fr0 ((Fr.refl Nob w).alloc _)) x.1 rfl hk ?_; simp only [hfx, Option.getD_some, Option.isSome_some])
  have tb := heap_alloc_new w (.cells #[.int .i64 x.1, .int .i64 x.2.1, .int .i64 x.2.2] 208)
  have t0 := blk_cell tb 0 rfl; have t1 := blk_cell tb 1 rfl; have t2 := blk_cell tb 2 rfl
  exact bodyPost_ret (v := .tuple #[hiV x, .bool true]) (by simp [results, Tryz.results189, go_sem, t0, t1, t2]) rfl ⟨rfl, (Fr.refl _ _).alloc _⟩
theorem heap_find_none (k : Int) (hfx : f k = none) (hk : (Lit.int .i64 k).wf = true) : Calls Tryz.prog 189 #[.pointer (some ⟨b, 0, none⟩), .int .i64 k] w fun e w' => e = .returned (.tuple #[hiV hiZ, .bool false]) ∧ Fr Nob w w' := by
  obtain ⟨A, cp, hv, c0, c1, c2, f0, f2⟩ := h.cells
  have Hm := Lib.hid h.map
  clear h hv
  have c0' := ((Fr.refl Nob w).alloc (.cells #[.int .i64 0, .int .i64 0, .int .i64 0] 208)).cell id c0
  have c1' := ((Fr.refl Nob w).alloc (.cells #[.int .i64 0, .int .i64 0, .int .i64 0] 208)).cell id c1
  go_enter Tryz.func189, Tryz.ntmps189
  go_wp2_with (refine map_look2 rfl (.tmp 15) (.tmp 16) rfl mb nm f rfl (Hm.out.fr0 ((Fr.refl Nob w).alloc _)) k rfl hk ?_; simp only [hfx, Option.getD_none, Option.isSome_none])
  have tb := heap_alloc_new w (.cells #[.int .i64 0, .int .i64 0, .int .i64 0] 208)
  have t0 := blk_cell tb 0 rfl; have t1 := blk_cell tb 1 rfl; have t2 := blk_cell tb 2 rfl
  exact bodyPost_ret (v := .tuple #[hiV hiZ, .bool false]) (by simp [results, Tryz.results189, go_sem, t0, t1, t2]) rfl ⟨rfl, (Fr.refl _ _).alloc _⟩
theorem heap_min (x : Hi) (r : List Hi) (hl : l = x :: r) : Calls Tryz.prog 156 #[.pointer (some ⟨b, 0, none⟩)] w fun e w' => e = .returned (.tuple #[hiV x, .bool true]) ∧ Fr Nob w w' := by
  have Hl := Lib.hid (fun W hW => heap_len (h.fr0 (w' := W) hW))
  obtain ⟨A, cp, hv, c0, c1, c2, f0, f2⟩ := h.cells
  obtain ⟨g, off, cp', hv', hg, hgl, hin, hc1, hc2, q0, q1, q2, hfz⟩ := h.item 0 x (by rw [hl]; rfl)
  rw [hv] at hv'
  injection hv' with hA hn' hcp
  subst hA; subst hcp
  rw [Nat.zero_mul, Nat.add_zero] at q0 q1 q2
  clear h hl hv hn'
  have q0' := ((Fr.refl Nob w).alloc (.cells #[.int .i64 0, .int .i64 0, .int .i64 0] 208)).cell id q0
  have q1' := ((Fr.refl Nob w).alloc (.cells #[.int .i64 0, .int .i64 0, .int .i64 0] 208)).cell id q1
  have q2' := ((Fr.refl Nob w).alloc (.cells #[.int .i64 0, .int .i64 0, .int .i64 0] 208)).cell id q2
  have c0' := ((Fr.refl Nob w).alloc (.cells #[.int .i64 0, .int .i64 0, .int .i64 0] 208)).cell id c0
  have hn0 : ((n : Int) == 0) = false := by simp; omega
  have hi0 : (0 : Int) < n := by omega
  go_enter Tryz.func156, Tryz.ntmps156
  go_wp2_with fail
  refine (Hl.out _ ((Fr.refl Nob w).alloc _)).mono ?_
  rintro e _ ⟨rfl, rfl⟩
  go_wp2_with fail
  have tb := heap_alloc_new w (.cells #[.int .i64 x.1, .int .i64 x.2.1, .int .i64 x.2.2] 208)
  have t0 := blk_cell tb 0 rfl; have t1 := blk_cell tb 1 rfl; have t2 := blk_cell tb 2 rfl
  exact bodyPost_ret (v := .tuple #[hiV x, .bool true]) (by simp [results, Tryz.results156, go_sem, t0, t1, t2]) rfl ⟨rfl, (Fr.refl _ _).alloc _⟩
theorem heap_min_none (hl : n = 0) : Calls Tryz.prog 156 #[.pointer (some ⟨b, 0, none⟩)] w fun e w' => e = .returned (.tuple #[hiV hiZ, .bool false]) ∧ Fr Nob w w' := by
  have Hl := Lib.hid (fun W hW => heap_len (h.fr0 (w' := W) hW))
  clear h
  subst hl
  go_enter Tryz.func156, Tryz.ntmps156
  go_wp2_with fail
  refine (Hl.out _ ((Fr.refl Nob w).alloc _)).mono ?_
  rintro e _ ⟨rfl, rfl⟩
  go_wp2_with fail
  have tb := heap_alloc_new w (.cells #[.int .i64 0, .int .i64 0, .int .i64 0] 208)
  have t0 := blk_cell tb 0 rfl; have t1 := blk_cell tb 1 rfl; have t2 := blk_cell tb 2 rfl
  exact bodyPost_ret (v := .tuple #[hiV hiZ, .bool false]) (by simp [results, Tryz.results156, go_sem, t0, t1, t2]) rfl ⟨rfl, (Fr.refl _ _).alloc _⟩
/-- An item is put at a place. -/
theorem heap_put (i : Nat) (hi : i < n) (x : Hi) (hk : (Lit.int .i64 x.1).wf = true) (hnm : nm < 1000000) : Calls Tryz.prog 190 #[.pointer (some ⟨b, 0, none⟩), .int .i64 (i : Int), hiV x] w fun e w' => e = .returned (.tuple #[]) ∧ Fr S w w' ∧ HeapQ w' S b mb SL v (l.set i x) n seq (nm + 1) (fup f x.1 (some (i : Int))) := by
  obtain ⟨y, hy⟩ : ∃ y, l[i]? = some y := ⟨l[i]'(by rw [h.len]; exact hi), by simp⟩
  obtain ⟨A, cp, hv, c0, c1, c2, f0, f2⟩ := h.cells
  obtain ⟨g, off, cp', hv', hg, hgl, hin, hc1, hc2, q0, q1, q2, hfz⟩ := h.item i y hy
  rw [hv] at hv'
  injection hv' with hA hn' hcp
  subst hA; subst hcp
  subst hv
  have H := Lib.hid h
  clear h hy hn'
  have hint : (i : Int) < n := by omega
  go_enter Tryz.func190, Tryz.ntmps190
  go_wp2_with fail
  obtain ⟨w1, hw1⟩ : ∃ w1, w1 = w.alloc (.cells #[.int .i64 x.1, .int .i64 x.2.1, .int .i64 x.2.2] 208) := ⟨_, rfl⟩
  rw [← hw1]
  obtain ⟨pb, hpb⟩ : ∃ pb, pb = w.heap.size := ⟨_, rfl⟩
  rw [← hpb]
  have hf1 : Fr Nob w w1 := by rw [hw1]; exact (Fr.refl Nob w).alloc _
  have hp1 : w1.heap[pb]? = some (.cells #[.int .i64 x.1, .int .i64 x.2.1, .int .i64 x.2.2] 208 (0, 0)) := by rw [hw1, hpb]; exact heap_alloc_new _ _
  have p0 := blk_cell hp1 0 rfl; have p1 := blk_cell hp1 1 rfl; have p2 := blk_cell hp1 2 rfl
  have d0 := hf1.cell id c0; have r0 := hf1.cell id q0; have r1 := hf1.cell id q1; have r2 := hf1.cell id q2
  have z0 := (hf1.frozen (p := ⟨g, off + i * 3, none⟩) id hgl).trans (hfz _); have z1 := (hf1.frozen (p := ⟨g, off + i * 3 + 1, none⟩) id hgl).trans (hfz _); have z2 := (hf1.frozen (p := ⟨g, off + i * 3 + 2, none⟩) id hgl).trans (hfz _)
  have Hpb := Lib.hid hpb; have Hf1 := Lib.hid hf1; have Hp1 := Lib.hid hp1
  clear hw1 hpb hf1 hp1 c0 q0 q1 q2 hfz
  go_region
  obtain ⟨w2, hw2⟩ : ∃ w2, w2 = (((w1.setCell ⟨g, off + i * 3, none⟩ (.int .i64 x.1)).setCell ⟨g, off + i * 3 + 1, none⟩ (.int .i64 x.2.1)).setCell ⟨g, off + i * 3 + 2, none⟩ (.int .i64 x.2.2)).drew := ⟨_, rfl⟩
  rw [← hw2]
  have hpg : pb ≠ g := by rw [Hpb.out]; omega
  have hf2 : Fr SL w1 w2 := by rw [hw2]; exact ((((Fr.refl SL w1).setCell (p := ⟨g, off + i * 3, none⟩) (.inl hg) _).setCell (p := ⟨g, off + i * 3 + 1, none⟩) (.inl hg) _).setCell (p := ⟨g, off + i * 3 + 2, none⟩) (.inl hg) _).drew
  have hp2 : w2.heap[pb]? = some (.cells #[.int .i64 x.1, .int .i64 x.2.1, .int .i64 x.2.2] 208 (0, 0)) := by rw [hw2, blk_drew, blk_set_ne _ _ hpg, blk_set_ne _ _ hpg, blk_set_ne _ _ hpg]; exact Hp1.out
  have hs2 : Sl w2 SL 208 3 (.slice (some ⟨g, off, none⟩) n cp) n (his (l.set i x)) := by
    have a1 := (H.out.fr0 Hf1.out).sl.set (i * 3) (by omega) (.int .i64 x.1)
    have a2 := a1.set (i * 3 + 1) (by omega) (.int .i64 x.2.1)
    have a3 := a2.set (i * 3 + 2) (by omega) (.int .i64 x.2.2)
    rw [his_set l i x (by rw [H.out.len]; exact hi)] at a3
    rw [hw2]
    rw [← Nat.add_assoc, ← Nat.add_assoc] at a3
    exact a3.drew
  have hq2 : HeapQ w2 S b mb SL (.slice (some ⟨g, off, none⟩) n cp) (l.set i x) n seq nm f := by
    have h1 := H.out.fr0 Hf1.out
    exact ⟨h1.own, h1.ownM, h1.ne, fun k q => by have := h1.lt k q; have := hf2.size; omega, h1.subL, hf2.blk (fun q => (h1.subL _ q).2.1 rfl) h1.blk, by rw [List.length_set]; exact h1.len, hs2, h1.map.fr hf2 fun q => (h1.subL _ q).2.2 rfl⟩
  have Hq2 := Lib.hid hq2; have Hf2 := Lib.hid hf2
  have e1 := blk_cell hq2.blk 1 rfl
  have e0 := blk_cell hp2 0 rfl
  clear hw2 hq2 hf2 hs2 hp2 hpg d0 r0 r1 r2 z0 z1 z2 p0 p1 p2 c1 c2 f0 f2
  go_wp2_with fail
  have HS0 : Hid (w2.cell? ⟨b, 1, none⟩ = some (.map (some mb)) ∧ w2.cell? ⟨pb, 0, none⟩ = some (.int .i64 x.1)) := ⟨e1, e0⟩
  refine wp_region_held_drew (S := fun W => W.cell? ⟨b, 1, none⟩ = some (.map (some mb)) ∧ W.cell? ⟨pb, 0, none⟩ = some (.int .i64 x.1)) (by kernel_rfl) (by simpa using HS0.out) (fun hHeld => ?_)
  refine wpAnyH_take (i := 0) (v := ?_) rfl (by kernel_rfl) (by kernel_rfl) (by kernel_rfl) (fun _ _ _ h => h) (Or.inl ⟨by rfl, ?_⟩) (by assumption) ?_
  rotate_left
  · intro w hSw; (try dsimp only at hSw); go_simp; try with_reducible rfl
  try simp only [List.getElem_toArray, List.getElem_cons_zero, List.getElem_cons_succ, Act.put, List.setIfInBounds_toArray, List.set_cons_zero, List.set_cons_succ]
  refine wpAnyH_take (i := 1) (v := ?_) rfl (by kernel_rfl) (by kernel_rfl) (by kernel_rfl) (fun _ _ _ h => h) (Or.inl ⟨by rfl, ?_⟩) (by assumption) ?_
  rotate_left
  · intro w hSw; (try dsimp only at hSw); go_simp; try with_reducible rfl
  try simp only [List.getElem_toArray, List.getElem_cons_zero, List.getElem_cons_succ, Act.put, List.setIfInBounds_toArray, List.set_cons_zero, List.set_cons_succ]
  refine wpAnyH_take (i := 2) (v := ?_) rfl (by kernel_rfl) (by kernel_rfl) (by kernel_rfl) (fun _ _ _ h => h) (Or.inl ⟨by rfl, ?_⟩) (by assumption) ?_
  rotate_left
  · intro w hSw; (try dsimp only at hSw); go_simp; try with_reducible rfl
  try simp only [List.getElem_toArray, List.getElem_cons_zero, List.getElem_cons_succ, Act.put, List.setIfInBounds_toArray, List.set_cons_zero, List.set_cons_succ]
  refine wpAnyH_take (i := 3) (v := ?_) rfl (by kernel_rfl) (by kernel_rfl) (by kernel_rfl) (fun _ _ _ h => h) (Or.inl ⟨by rfl, ?_⟩) (by assumption) ?_
  rotate_left
  · intro w hSw; (try dsimp only at hSw); go_simp; try with_reducible rfl
  try simp only [List.getElem_toArray, List.getElem_cons_zero, List.getElem_cons_succ, Act.put, List.setIfInBounds_toArray, List.set_cons_zero, List.set_cons_succ]
  refine wpAnyH_take (i := 4) (v := ?_) rfl (by kernel_rfl) (by kernel_rfl) (by kernel_rfl) (fun _ _ _ h => h) (Or.inl ⟨by rfl, ?_⟩) (by assumption) ?_
  rotate_left
  · intro w hSw; (try dsimp only at hSw); go_simp; try with_reducible rfl
  try simp only [List.getElem_toArray, List.getElem_cons_zero, List.getElem_cons_succ, Act.put, List.setIfInBounds_toArray, List.set_cons_zero, List.set_cons_succ]
  refine wpAnyH_take (i := 5) (v := ?_) rfl (by kernel_rfl) (by kernel_rfl) (by kernel_rfl) (fun _ _ _ h => h) (Or.inl ⟨by rfl, ?_⟩) (by assumption) ?_
  rotate_left
  · intro w hSw; (try dsimp only at hSw); go_simp; try with_reducible rfl
  try simp only [List.getElem_toArray, List.getElem_cons_zero, List.getElem_cons_succ, Act.put, List.setIfInBounds_toArray, List.set_cons_zero, List.set_cons_succ]
  refine wpAnyH_take (i := 6) (v := ?_) rfl (by kernel_rfl) (by kernel_rfl) (by kernel_rfl) (fun _ _ _ h => h) (Or.inl ⟨by rfl, ?_⟩) (by assumption) ?_
  rotate_left
  · intro w hSw; (try dsimp only at hSw); go_simp; try with_reducible rfl
  try simp only [List.getElem_toArray, List.getElem_cons_zero, List.getElem_cons_succ, Act.put, List.setIfInBounds_toArray, List.set_cons_zero, List.set_cons_succ]
  refine wpAnyH_ready (rs := [7]) (by kernel_rfl) (by simp) ?_
  refine AllReadyH.cons rfl (fun K hK => ?_) AllReadyH.nil
  refine map_put_op rfl (.tmp 16) (.tmp 18) (.tmp 19) rfl mb nm f rfl Hq2.out.map.drew hnm x.1 i rfl rfl hk (wf_small (by omega) (by unfold maxLen at hc2; omega)) fun w3 hm3 hf3 => ?_
  have hnb : b ≠ mb := Hq2.out.ne
  have hnp : pb ≠ mb := fun e => by have := H.out.lt _ H.out.ownM; rw [← e, Hpb.out] at this; omega
  refine hK.out _ _ ⟨hf3.cell (p := ⟨b, 1, none⟩) hnb hHeld.1, hf3.cell (p := ⟨pb, 0, none⟩) hnp hHeld.2⟩ (fun hHeld2 => ?_)
  refine wpAnyH_done (by kernel_rfl) ?_ _
  try simp only [List.getElem_toArray, List.getElem_cons_zero, List.getElem_cons_succ, Act.put, List.setIfInBounds_toArray, List.set_cons_zero, List.set_cons_succ]
  have Hf3 : Hid (Fr (fun j => j = mb) w2 w3) := ((Fr.refl _ w2).drew).trans0 hf3
  have Hm3 := Lib.hid hm3
  clear hf3 hm3 hHeld hHeld2 hK K
  go_wp2_with fail
  go_end0
  have hq := Hq2.out
  refine ⟨rfl, ((Hf1.out.none.trans Hf2.out fun k _ q => (hq.subL k q).1).trans Hf3.out fun k _ q => by rw [q]; exact hq.ownM), hq.own, hq.ownM, hq.ne, fun k q => by have := hq.lt k q; have := Hf3.out.size; omega, hq.subL, Hf3.out.blk hq.ne hq.blk, hq.len, hq.sl.fr Hf3.out fun k q e => (hq.subL k q).2.2 e, Hm3.out⟩
end
theorem cell_drew (w : World) (p : Addr) : w.drew.cell? p = w.cell? p := rfl
theorem cmp_nan (w : World) (x : Int) : Calls Tryz.prog 216 #[.int .i64 x] w fun e w' => e = .returned (.bool false) ∧ w = w' := by
  have hx : (x != x) = false := by simp
  go_enter Tryz.func216, Tryz.ntmps216
  go_wp2_with fail
  go_ret
  exact ⟨rfl, rfl⟩
def cmpI (x y : Int) : Int := if x < y then -1 else if y < x then 1 else 0
theorem cmp_compare (w : World) (x y : Int) : Calls Tryz.prog 214 #[.int .i64 x, .int .i64 y] w fun e w' => e = .returned (.int .i64 (cmpI x y)) ∧ w = w' := by
  have Hn := Lib.hid (fun W z => cmp_nan W z)
  unfold cmpI
  by_cases h1 : x < y
  · rw [if_pos h1]
    go_enter Tryz.func214, Tryz.ntmps214
    go_wp2_with fail
    refine (Hn.out _ _).mono ?_
    rintro e _ ⟨rfl, rfl⟩
    go_wp2_with fail
    refine (Hn.out _ _).mono ?_
    rintro e _ ⟨rfl, rfl⟩
    go_wp2_with fail
    go_ret
    exact ⟨rfl, rfl⟩
  · rw [if_neg h1]
    by_cases h2 : y < x
    · rw [if_pos h2]
      go_enter Tryz.func214, Tryz.ntmps214
      go_wp2_with fail
      refine (Hn.out _ _).mono ?_
      rintro e _ ⟨rfl, rfl⟩
      go_wp2_with fail
      refine (Hn.out _ _).mono ?_
      rintro e _ ⟨rfl, rfl⟩
      go_wp2_with fail
      go_ret
      exact ⟨rfl, rfl⟩
    · rw [if_neg h2]
      go_enter Tryz.func214, Tryz.ntmps214
      go_wp2_with fail
      refine (Hn.out _ _).mono ?_
      rintro e _ ⟨rfl, rfl⟩
      go_wp2_with fail
      refine (Hn.out _ _).mono ?_
      rintro e _ ⟨rfl, rfl⟩
      go_wp2_with fail
      go_ret
      exact ⟨rfl, rfl⟩
def orI (x y : Int) : Int := if x = 0 then y else x
theorem cmp_or (w : World) (g : Nat) (x y : Int) (h0 : w.cell? ⟨g, 0, none⟩ = some (.int .i64 x)) (h1 : w.cell? ⟨g, 1, none⟩ = some (.int .i64 y)) : Calls Tryz.prog 213 #[.slice (some ⟨g, 0, none⟩) 2 2] w fun e w' => e = .returned (.int .i64 (orI x y)) ∧ w = w' := by
  unfold orI
  by_cases hx : x = 0
  · subst hx
    rw [if_pos rfl]
    by_cases hy : y = 0
    · subst hy
      go_enter Tryz.func213, Tryz.ntmps213
      go_wp2_with fail
      go_loopw [8] (fun i wr => ∃ k : Nat, k ≤ 2 ∧ i = .int .i64 k ∧ wr = w) (fun i _ => 2 - (intOf i).toNat)
      case atStart => exact ⟨0, by omega, rfl, rfl⟩
      case round =>
        obtain ⟨k, hk, rfl, rfl⟩ := hrel
        have : k = 0 ∨ k = 1 ∨ k = 2 := by omega
        rcases this with rfl | rfl | rfl
        · go_wp2_with fail
          go_roundw
          case rel => exact ⟨1, by omega, rfl, by first | rfl | trivial⟩
          case measure => simp [intOf]
        · go_wp2_with fail
          go_roundw
          case rel => exact ⟨2, by omega, rfl, by first | rfl | trivial⟩
          case measure => simp [intOf]
        · go_wp2_with fail
          go_ret
          exact ⟨rfl, rfl⟩
    · have hy' : (y != 0) = true := by simpa using hy
      go_enter Tryz.func213, Tryz.ntmps213
      go_wp2_with fail
      go_loopw [8] (fun i wr => ∃ k : Nat, k ≤ 1 ∧ i = .int .i64 k ∧ wr = w) (fun i _ => 2 - (intOf i).toNat)
      case atStart => exact ⟨0, by omega, rfl, rfl⟩
      case round =>
        obtain ⟨k, hk, rfl, rfl⟩ := hrel
        have : k = 0 ∨ k = 1 := by omega
        rcases this with rfl | rfl
        · go_wp2_with fail
          go_roundw
          case rel => exact ⟨1, by omega, rfl, by first | rfl | trivial⟩
          case measure => simp [intOf]
        · go_wp2_with fail
          go_ret
          exact ⟨rfl, rfl⟩
  · rw [if_neg hx]
    have hx' : (x != 0) = true := by simpa using hx
    go_enter Tryz.func213, Tryz.ntmps213
    go_wp2_with fail
    go_loopw [8] (fun i wr => i = .int .i64 0 ∧ wr = w) (fun i _ => 2 - (intOf i).toNat)
    case atStart => exact ⟨rfl, rfl⟩
    case round =>
      obtain ⟨rfl, rfl⟩ := hrel
      go_wp2_with fail
      go_ret
      exact ⟨rfl, rfl⟩
theorem ahead_lt (x y : Hi) : decide (orI (cmpI x.2.1 y.2.1) (cmpI x.2.2 y.2.2) < 0) = aheadI x y := by
  unfold orI cmpI aheadI
  by_cases h1 : x.2.1 < y.2.1
  · simp [h1]
  · by_cases h2 : y.2.1 < x.2.1
    · simp [h1, h2]; omega
    · have : x.2.1 = y.2.1 := by omega
      rw [if_neg h1, if_neg h2, if_pos rfl]
      by_cases h3 : x.2.2 < y.2.2
      · simp [this, h3]
      · by_cases h4 : y.2.2 < x.2.2
        · simp [this, h3, h4]
        · simp [this, h3, h4]
def AheadP (x y : Hi) (w : World) (e : Ending) (w' : World) : Prop := ∃ r : Int, e = .returned (.int .i64 r) ∧ decide (r < 0) = aheadI x y ∧ Fr Nob w w'
theorem ahead_any (w : World) (x y : Hi) : Calls Tryz.prog 206 #[hiV x, hiV y] w (AheadP x y w) := by
  have Hc := Lib.hid (fun W a b => cmp_compare W a b)
  have Ho := Lib.hid (fun W g a b h0 h1 => cmp_or W g a b h0 h1)
  go_enter Tryz.func206, Tryz.ntmps206
  go_wp2_with fail
  obtain ⟨w1, hw1⟩ : ∃ w1, w1 = (w.alloc (.cells #[.int .i64 x.1, .int .i64 x.2.1, .int .i64 x.2.2] 208)).alloc (.cells #[.int .i64 y.1, .int .i64 y.2.1, .int .i64 y.2.2] 208) := ⟨_, rfl⟩
  rw [← hw1]
  obtain ⟨pb, hpb⟩ : ∃ pb, pb = w.heap.size := ⟨_, rfl⟩
  obtain ⟨qb, hqb⟩ : ∃ qb, qb = w.heap.size + 1 := ⟨_, rfl⟩
  rw [← hqb, ← hpb]
  have hf1 : Fr Nob w w1 := by rw [hw1]; exact ((Fr.refl Nob w).alloc _).alloc _
  have hp1 : w1.heap[pb]? = some (.cells #[.int .i64 x.1, .int .i64 x.2.1, .int .i64 x.2.2] 208 (0, 0)) := by rw [hw1, hpb, blk_alloc_ne _ (by simp)]; exact heap_alloc_new _ _
  have hq1 : w1.heap[qb]? = some (.cells #[.int .i64 y.1, .int .i64 y.2.1, .int .i64 y.2.2] 208 (0, 0)) := by rw [hw1, hqb]; exact blk_alloc_eq _ (by simp)
  have key : ∀ W, Fr Nob w1 W → W.cell? ⟨pb, 1, none⟩ = some (.int .i64 x.2.1) ∧ W.cell? ⟨pb, 2, none⟩ = some (.int .i64 x.2.2) ∧ W.cell? ⟨qb, 1, none⟩ = some (.int .i64 y.2.1) ∧ W.cell? ⟨qb, 2, none⟩ = some (.int .i64 y.2.2) := fun W hW =>
    ⟨blk_cell (hW.blk id hp1) 1 rfl, blk_cell (hW.blk id hp1) 2 rfl, blk_cell (hW.blk id hq1) 1 rfl, blk_cell (hW.blk id hq1) 2 rfl⟩
  have Key := Lib.hid key
  have Hf1 := Lib.hid hf1
  have hl := ahead_lt x y
  generalize x.2.1 = a1 at *
  generalize x.2.2 = a2 at *
  generalize y.2.1 = b1 at *
  generalize y.2.2 = b2 at *
  have Hl := Lib.hid hl
  clear hw1 hpb hqb hf1 hp1 hq1 key hl
  have hf0 : Fr Nob w1 w1 := Fr.refl _ _
  go_region_held3 (fun W => W.cell? ⟨pb, 1, none⟩ = some (.int .i64 a1) ∧ W.cell? ⟨pb, 2, none⟩ = some (.int .i64 a2) ∧ W.cell? ⟨qb, 1, none⟩ = some (.int .i64 b1) ∧ W.cell? ⟨qb, 2, none⟩ = some (.int .i64 b2))
    ((refine Key.out _ ?_; repeat (first | with_reducible exact hf0 | with_reducible exact hf0.drew | with_reducible refine Fr.alloc ?_ _ | with_reducible refine Fr.drew ?_)))
    ((first | (go_at_call 214; refine (Hc.out _ _ _).mono ?_; rintro e _ ⟨rfl, rfl⟩) | (go_at_call 213; refine (Ho.out _ _ (cmpI a1 b1) (cmpI a2 b2) ((cell_drew _ _).trans (blk_cell (heap_alloc_new w1 (.cells #[.int .i64 (cmpI a1 b1), .int .i64 (cmpI a2 b2)] 3)) 0 rfl)) ((cell_drew _ _).trans (blk_cell (heap_alloc_new w1 (.cells #[.int .i64 (cmpI a1 b1), .int .i64 (cmpI a2 b2)] 3)) 1 rfl))).mono ?_; rintro e _ ⟨rfl, rfl⟩)))
  go_wp2_with fail
  go_ret
  exact ⟨_, rfl, Hl.out, Hf1.out.trans0 (((Fr.refl _ _).alloc _).drew)⟩
theorem HeapQ.mono {w : World} {S : Nat → Prop} {b mb : Nat} {SL : Nat → Prop} {v : Value} {l : List Hi} {n seq nm : Nat} {f : Int → Option Int} (h : HeapQ w S b mb SL v l n seq nm f) {m : Nat} (hm : nm ≤ m) : HeapQ w S b mb SL v l n seq m f :=
  ⟨h.own, h.ownM, h.ne, h.lt, h.subL, h.blk, h.len, h.sl, h.map.mono hm⟩
section
variable {w : World} {S : Nat → Prop} {b mb : Nat} {SL : Nat → Prop} {v : Value} {l : List Hi} {n seq nm : Nat} {f : Int → Option Int} (h : HeapQ w S b mb SL v l n seq nm f)
include h
theorem heap_up0 (x : Hi) (r : List Hi) (hl : l = x :: r) (hk : (Lit.int .i64 x.1).wf = true) (hnm : nm < 1000000) : Calls Tryz.prog 191 #[.pointer (some ⟨b, 0, none⟩), .int .i64 0] w fun e w' => e = .returned (.tuple #[]) ∧ Fr S w w' ∧ HeapQ w' S b mb SL v l n seq (nm + 1) (fup f x.1 (some 0)) := by
  have hput := fun W (hW : Fr Nob w W) => heap_put (h.fr0 hW) 0 (by rw [← h.len, hl]; simp) x hk hnm
  rw [show l.set 0 x = l by rw [hl]; rfl] at hput
  obtain ⟨A, cp, hv, c0, c1, c2, f0, f2⟩ := h.cells
  obtain ⟨g, off, cp', hv', hg, hgl, hin, hc1, hc2, q0, q1, q2, hfz⟩ := h.item 0 x (by rw [hl]; rfl)
  rw [hv] at hv'
  injection hv' with hA hn' hcp
  subst hA; subst hcp
  rw [Nat.zero_mul, Nat.add_zero] at q0 q1 q2
  have Hput := Lib.hid hput
  clear h hl hv hn' hput
  have hint : (0 : Int) < n := by omega
  go_enter Tryz.func191, Tryz.ntmps191
  go_wp2_with fail
  obtain ⟨w1, hw1⟩ : ∃ w1, w1 = w.alloc (.cells #[.int .i64 x.1, .int .i64 x.2.1, .int .i64 x.2.2] 208) := ⟨_, rfl⟩
  rw [← hw1]
  obtain ⟨pb, hpb⟩ : ∃ pb, pb = w.heap.size := ⟨_, rfl⟩
  rw [← hpb]
  have hf1 : Fr Nob w w1 := by rw [hw1]; exact (Fr.refl Nob w).alloc _
  have hp1 : w1.heap[pb]? = some (.cells #[.int .i64 x.1, .int .i64 x.2.1, .int .i64 x.2.2] 208 (0, 0)) := by rw [hw1, hpb]; exact heap_alloc_new _ _
  have p0 := blk_cell hp1 0 rfl; have p1 := blk_cell hp1 1 rfl; have p2 := blk_cell hp1 2 rfl
  have Hf1 := Lib.hid hf1
  clear hw1 hpb hf1 hp1
  go_loopw [1] (fun i wr => i = .int .i64 0 ∧ wr = w1) (fun _ _ => 0)
  case atStart => exact ⟨rfl, rfl⟩
  case round =>
    obtain ⟨rfl, rfl⟩ := hrel
    go_wp2_with fail
    go_quiet (fail)
    go_wp2_with fail
    refine (Hput.out _ (Hf1.out.drewN _)).mono ?_
    rintro e w2 ⟨rfl, hf2, hq2⟩
    have Hf2 := Lib.hid hf2; have Hq2 := Lib.hid hq2
    clear hf2 hq2
    go_wp2_with fail
    go_end0
    exact ⟨rfl, (Hf1.out.drewN _).none.trans0 Hf2.out, Hq2.out⟩
/-- The second one of two rises, or not. -/
theorem heap_up1 (x y : Hi) (hl : l = [y, x]) (hkx : (Lit.int .i64 x.1).wf = true) (hky : (Lit.int .i64 y.1).wf = true) (hnm : nm < 999999) : Calls Tryz.prog 191 #[.pointer (some ⟨b, 0, none⟩), .int .i64 1] w fun e w' => e = .returned (.tuple #[]) ∧ Fr S w w' ∧ HeapQ w' S b mb SL v (if aheadI x y then [x, y] else [y, x]) n seq (nm + 2) (if aheadI x y then fup (fup f y.1 (some 1)) x.1 (some 0) else fup f x.1 (some 1)) := by
  have hn2 : n = 2 := by rw [← h.len, hl]; rfl
  have hint0 : (0 : Int) < n := by omega
  have hw0 : IntKind.i64.wrap 0 = 0 := rfl
  have hq0 : IntKind.i64.wrap ((IntKind.i64.wrap 0).tdiv 4) = 0 := rfl
  have hint1 : (1 : Int) < n := by omega
  have Hn2 := Lib.hid hn2
  clear hn2
  obtain ⟨A, cp, hv, c0, c1, c2, f0, f2⟩ := h.cells
  obtain ⟨g, off, cp', hv', hg, hgl, hin, hc1, hc2, q0, q1, q2, hfz⟩ := h.item 1 x (by rw [hl]; rfl)
  obtain ⟨g', off', cp'', hv'', _, _, _, _, _, y0, y1, y2, _⟩ := h.item 0 y (by rw [hl]; rfl)
  rw [hv] at hv' hv''
  injection hv' with hA hn' hcp
  injection hv'' with hA' hn'' hcp'
  subst hA; subst hcp
  injection hA' with hA'
  injection hA' with hg' ho' _
  subst hg'; subst ho'
  rw [Nat.zero_mul, Nat.add_zero] at y0 y1 y2
  rw [Nat.one_mul] at q0 q1 q2
  have H := Lib.hid h; have Hv := Lib.hid hv
  have Hput1 := Lib.hid (fun W (hW : Fr Nob w W) => heap_put (h.fr0 hW) 1 (by omega) x hkx (by omega))
  have Hput2 := Lib.hid (fun W (hW : Fr Nob w W) => heap_put (h.fr0 hW) 1 (by omega) y hky (by omega))
  have Hl := Lib.hid hl
  clear h hl hv hn' hn'' hcp' hin
  have Ha := Lib.hid (fun W => ahead_any W x y)
  go_enter Tryz.func191, Tryz.ntmps191
  go_wp2_with fail
  obtain ⟨w1, hw1⟩ : ∃ w1, w1 = w.alloc (.cells #[.int .i64 x.1, .int .i64 x.2.1, .int .i64 x.2.2] 208) := ⟨_, rfl⟩
  rw [← hw1]
  obtain ⟨pb, hpb⟩ : ∃ pb, pb = w.heap.size := ⟨_, rfl⟩
  rw [← hpb]
  have hf1 : Fr Nob w w1 := by rw [hw1]; exact (Fr.refl Nob w).alloc _
  have hp1 : w1.heap[pb]? = some (.cells #[.int .i64 x.1, .int .i64 x.2.1, .int .i64 x.2.2] 208 (0, 0)) := by rw [hw1, hpb]; exact heap_alloc_new _ _
  have key : ∀ W, Fr Nob w1 W → W.cell? ⟨pb, 0, none⟩ = some (.int .i64 x.1) ∧ W.cell? ⟨pb, 1, none⟩ = some (.int .i64 x.2.1) ∧ W.cell? ⟨pb, 2, none⟩ = some (.int .i64 x.2.2) ∧ W.cell? ⟨b, 0, none⟩ = some (.slice (some ⟨g, off, none⟩) n cp) ∧ W.cell? ⟨g, off, none⟩ = some (.int .i64 y.1) ∧ W.cell? ⟨g, off + 1, none⟩ = some (.int .i64 y.2.1) ∧ W.cell? ⟨g, off + 2, none⟩ = some (.int .i64 y.2.2) := fun W hW =>
    ⟨blk_cell (hW.blk id hp1) 0 rfl, blk_cell (hW.blk id hp1) 1 rfl, blk_cell (hW.blk id hp1) 2 rfl, (hf1.trans0 hW).cell id c0, (hf1.trans0 hW).cell id y0, (hf1.trans0 hW).cell id y1, (hf1.trans0 hW).cell id y2⟩
  have Key := Lib.hid key; have Hpb := Lib.hid hpb
  have Hf1 := Lib.hid hf1; have Hp1 := Lib.hid hp1
  clear hw1 hpb hf1 hp1 key q0 q1 q2 y0 y1 y2 c0 c1 c2 f0 f2 hfz
  cases ha : aheadI x y with
  | false =>
    go_loopw [1] (fun i wr => i = .int .i64 1 ∧ wr = w1) (fun _ _ => 0)
    case atStart => exact ⟨rfl, rfl⟩
    case round =>
      obtain ⟨rfl, rfl⟩ := hrel
      go_wp2_with fail
      have hf0 : Fr Nob wr wr := Fr.refl _ _
      go_region_held3 (fun W => W.cell? ⟨pb, 0, none⟩ = some (.int .i64 x.1) ∧ W.cell? ⟨pb, 1, none⟩ = some (.int .i64 x.2.1) ∧ W.cell? ⟨pb, 2, none⟩ = some (.int .i64 x.2.2) ∧ W.cell? ⟨b, 0, none⟩ = some (.slice (some ⟨g, off, none⟩) n cp) ∧ W.cell? ⟨g, off, none⟩ = some (.int .i64 y.1) ∧ W.cell? ⟨g, off + 1, none⟩ = some (.int .i64 y.2.1) ∧ W.cell? ⟨g, off + 2, none⟩ = some (.int .i64 y.2.2))
        ((refine Key.out _ ?_; first | with_reducible exact hf2 | with_reducible exact hf0 | exact hf0.drew))
        ((go_at_call 206; refine (Ha.out _).mono ?_; rintro e w2 ⟨r, rfl, hr, hf2'⟩; have hf2 : Fr Nob wr w2 := (hf0.drew).trans0 hf2'; rw [ha] at hr; clear hf2'))
      have Hf2 := Lib.hid hf2
      clear hf2 hf0
      go_wp2_with fail
      refine (Hput1.out _ (Hf1.out.trans0 Hf2.out)).mono ?_
      rintro e w3 ⟨rfl, hf3, hq3⟩
      have Hf3 := Lib.hid hf3; have Hq3 := Lib.hid hq3
      clear hf3 hq3
      go_wp2_with fail
      all_goals
        have hq4 := Hq3.out.mono (m := nm + 2) (by omega)
        rw [show l.set 1 x = [y, x] by rw [Hl.out]; rfl] at hq4
        go_end0
        exact ⟨rfl, (Hf1.out.trans0 Hf2.out).none.trans0 Hf3.out, hq4⟩
  | true =>
    go_loopw [1] (fun i wr => (i = .int .i64 1 ∧ wr = w1) ∨ (i = .int .i64 0 ∧ Hid (Fr S w1 wr ∧ HeapQ wr S b mb SL v [y, y] n seq (nm + 1) (fup f y.1 (some 1))))) (fun i _ => (intOf i).toNat)
    case atStart => exact .inl ⟨rfl, rfl⟩
    case round =>
      rcases hrel with ⟨rfl, rfl⟩ | ⟨rfl, hr⟩
      · go_wp2_with fail
        have hf0 : Fr Nob wr wr := Fr.refl _ _
        go_region_held3 (fun W => W.cell? ⟨pb, 0, none⟩ = some (.int .i64 x.1) ∧ W.cell? ⟨pb, 1, none⟩ = some (.int .i64 x.2.1) ∧ W.cell? ⟨pb, 2, none⟩ = some (.int .i64 x.2.2) ∧ W.cell? ⟨b, 0, none⟩ = some (.slice (some ⟨g, off, none⟩) n cp) ∧ W.cell? ⟨g, off, none⟩ = some (.int .i64 y.1) ∧ W.cell? ⟨g, off + 1, none⟩ = some (.int .i64 y.2.1) ∧ W.cell? ⟨g, off + 2, none⟩ = some (.int .i64 y.2.2))
          ((refine Key.out _ ?_; first | with_reducible exact hf2 | with_reducible exact hf0 | exact hf0.drew))
          ((go_at_call 206; refine (Ha.out _).mono ?_; rintro e w2 ⟨r, rfl, hr, hf2'⟩; have hf2 : Fr Nob wr w2 := (hf0.drew).trans0 hf2'; rw [ha] at hr; clear hf2'))
        have Hf2 := Lib.hid hf2
        clear hf2 hf0
        obtain ⟨k0, k1, k2, k3, k4, k5, k6⟩ := Key.out w2 Hf2.out
        go_wp2_with fail
        refine (Hput2.out _ (Hf1.out.trans0 Hf2.out)).mono ?_
        rintro e w3 ⟨rfl, hf3, hq3⟩
        have Hf3 := Lib.hid hf3; have Hq3 := Lib.hid hq3
        clear hf3 hq3
        go_wp2_with fail
        go_roundw
        case rel =>
          refine .inr ⟨rfl, Lib.hid ⟨Hf2.out.none.trans0 Hf3.out, ?_⟩⟩
          have := Hq3.out
          rw [show l.set 1 y = [y, y] by rw [Hl.out]; rfl] at this
          exact this
        case measure => simp [intOf]
      · have hpS : ¬ S pb := fun q => by have := H.out.lt _ q; have := Hpb.out; omega
        have hp := hr.out.1.blk hpS Hp1.out
        have p0 := blk_cell hp 0 rfl; have p1 := blk_cell hp 1 rfl; have p2 := blk_cell hp 2 rfl
        clear hp
        go_wp2_with fail
        go_quiet (fail)
        go_wp2_with fail
        refine (heap_put (hr.out.2.fr0 ((Fr.refl Nob _).drewN _)) 0 (by have := Hn2.out; omega) x hkx (by omega)).mono ?_
        rintro e w3 ⟨rfl, hf3, hq3⟩
        have Hf3 := Lib.hid hf3; have Hq3 := Lib.hid hq3
        clear hf3 hq3
        go_wp2_with fail
        go_end0
        refine ⟨rfl, (Hf1.out.none.trans0 (hr.out.1.drewN _)).trans0 Hf3.out, ?_⟩
        exact Hq3.out
end
theorem Tryz.info_item : (Tryz.prog.info? 208).map (fun i => (i.zero, i.size, i.bytes)) = some (some (.agg #[.int .i64 0, .int .i64 0, .int .i64 0]), 3, 24) := by kernel_rfl
section
variable {w : World} {S : Nat → Prop} {b mb : Nat} {SL : Nat → Prop} {v : Value} {l : List Hi} {n seq nm : Nat} {f : Int → Option Int} (h : HeapQ w S b mb SL v l n seq nm f)
include h
theorem heap_down0 (x : Hi) (hl : l = [x]) (hk : (Lit.int .i64 x.1).wf = true) (hnm : nm < 1000000) : Calls Tryz.prog 192 #[.pointer (some ⟨b, 0, none⟩), .int .i64 0] w fun e w' => e = .returned (.tuple #[]) ∧ Fr S w w' ∧ HeapQ w' S b mb SL v l n seq (nm + 1) (fup f x.1 (some 0)) := by
  have hput := fun W (hW : Fr Nob w W) => heap_put (h.fr0 hW) 0 (by rw [← h.len, hl]; simp) x hk hnm
  rw [show l.set 0 x = l by rw [hl]; rfl] at hput
  have hn1 : n = 1 := by rw [← h.len, hl]; rfl
  obtain ⟨A, cp, hv, c0, c1, c2, f0, f2⟩ := h.cells
  obtain ⟨g, off, cp', hv', hg, hgl, hin, hc1, hc2, q0, q1, q2, hfz⟩ := h.item 0 x (by rw [hl]; rfl)
  rw [hv] at hv'
  injection hv' with hA hn' hcp
  subst hA; subst hcp
  rw [Nat.zero_mul, Nat.add_zero] at q0 q1 q2
  have Hput := Lib.hid hput
  clear h hl hv hn' hput
  subst hn1
  have hw4 : IntKind.i64.wrap (4 * 0) = 0 := rfl
  have hw1 : IntKind.i64.wrap (IntKind.i64.wrap (4 * 0) + 1) = 1 := rfl
  go_enter Tryz.func192, Tryz.ntmps192
  go_wp2_with fail
  obtain ⟨w1, hw1⟩ : ∃ w1, w1 = w.alloc (.cells #[.int .i64 x.1, .int .i64 x.2.1, .int .i64 x.2.2] 208) := ⟨_, rfl⟩
  rw [← hw1]
  obtain ⟨pb, hpb⟩ : ∃ pb, pb = w.heap.size := ⟨_, rfl⟩
  rw [← hpb]
  have hf1 : Fr Nob w w1 := by rw [hw1]; exact (Fr.refl Nob w).alloc _
  have hp1 : w1.heap[pb]? = some (.cells #[.int .i64 x.1, .int .i64 x.2.1, .int .i64 x.2.2] 208 (0, 0)) := by rw [hw1, hpb]; exact heap_alloc_new _ _
  have p0 := blk_cell hp1 0 rfl; have p1 := blk_cell hp1 1 rfl; have p2 := blk_cell hp1 2 rfl
  have d0 := hf1.cell id c0
  have Hf1 := Lib.hid hf1
  clear hw1 hpb hf1 hp1 c0
  go_loopw [1] (fun i wr => i = .int .i64 0 ∧ wr = w1) (fun _ _ => 0)
  case atStart => exact ⟨rfl, rfl⟩
  case round =>
    obtain ⟨rfl, rfl⟩ := hrel
    go_wp2_with fail
    refine (Hput.out _ Hf1.out).mono ?_
    rintro e w2 ⟨rfl, hf2, hq2⟩
    have Hf2 := Lib.hid hf2; have Hq2 := Lib.hid hq2
    clear hf2 hq2
    go_wp2_with fail
    go_end0
    exact ⟨rfl, Hf1.out.none.trans0 Hf2.out, Hq2.out⟩
end
/-- One more stands at the end of the row. -/
theorem HeapQ.grown {w W X w3 : World} {S : Nat → Prop} {b mb : Nat} {SL : Nat → Prop} {A : Option Addr} {cp : Nat} {l : List Hi} {n seq nm : Nat} {f : Int → Option Int} (h : HeapQ w S b mb SL (.slice A n cp) l n seq nm f)
    (hfW : Fr (fun k => k = b) w W) (hsW : Sl W SL 208 3 (.slice A n cp) n (his l)) (hmW : MapAt W mb nm f) (x : Hi) (hX : Fr Nob W X) (hXs : X.heap.size = W.heap.size + 1) (hf3 : Fr SL X w3) {X3 : Option Addr} {c3 : Nat}
    (hb3 : w3.heap[b]? = some (.cells #[.slice A n cp, .map (some mb), .int .i64 ((seq : Int) + 1)] 201 (0, 0)))
    (hs3 : Sl w3 (fun k => SL k ∨ X.heap.size ≤ k) 208 3 (.slice X3 (n + 1) c3) (n + 1) (his l ++ hiEn x)) :
    HeapQ (w3.setCell ⟨b, 0, none⟩ (.slice X3 (n + 1) c3)) (And' S w (w3.setCell ⟨b, 0, none⟩ (.slice X3 (n + 1) c3))) b mb (And' SL w (w3.setCell ⟨b, 0, none⟩ (.slice X3 (n + 1) c3))) (.slice X3 (n + 1) c3) (l ++ [x]) (n + 1) (seq + 1) nm f ∧ Fr S w (w3.setCell ⟨b, 0, none⟩ (.slice X3 (n + 1) c3)) := by
  obtain ⟨W3, hW3⟩ : ∃ W3, W3 = w3.setCell ⟨b, 0, none⟩ (.slice X3 (n + 1) c3) := ⟨_, rfl⟩
  have hf34 : Fr (fun k => k = b) w3 W3 := by rw [hW3]; exact (Fr.refl (fun k => k = b) w3).setCell (p := ⟨b, 0, none⟩) (.inl rfl) _
  have hb4 := blk_set hb3 0 (.slice X3 (n + 1) c3)
  rw [← hW3] at hb4 ⊢
  have hbl := h.lt b h.own
  have hz1 := hfW.size; have hz2 := hf3.size; have hz3 := hf34.size
  have hml := h.lt mb h.ownM
  refine ⟨⟨.inl h.own, .inl h.ownM, h.ne, fun k q => ?_, fun k q => ?_, hb4, by rw [List.length_append, h.len]; rfl, ?_, ?_⟩, ?_⟩
  · rcases q with q | q
    · have := h.lt k q; omega
    · exact q.2
  · rcases q with q | q
    · exact ⟨.inl (h.subL k q).1, (h.subL k q).2⟩
    · exact ⟨.inr q, by omega, by omega⟩
  · have e1 : his (l ++ [x]) = his l ++ hiEn x := by simp [his]
    rw [e1]
    refine (hs3.fr hf34 fun k q e => ?_).mono fun k hk q => ?_
    · rcases q with q | q
      · exact (h.subL k q).2.1 e
      · omega
    · rcases q with q | q
      · exact .inl q
      · exact .inr ⟨by omega, hk⟩
  · exact ((hmW.fr0 hX).fr hf3 fun q => (h.subL _ q).2.2 rfl).fr hf34 fun e => h.ne e.symm
  · exact ((((hfW.mono fun k _ q => by subst q; exact h.own).trans hX.none fun k _ q => q).trans hf3 fun k _ q => (h.subL k q).1).trans hf34 fun k _ q => by subst q; exact h.own)
theorem heapAdd_len {l l' : List Hi} {x : Hi} (h : heapAdd l x = some l') : l.length ≤ 1 := by
  match l, h with
  | [], _ => simp
  | [y], _ => simp
  | y :: z :: r, h => simp [heapAdd] at h
theorem hPos_none {l : List Hi} {k : Int} (h : heapHas l k = false) : hPos l k = none := by
  induction l with
  | nil => rfl
  | cons x l ih =>
    simp only [heapHas, List.any_cons, Bool.or_eq_false_iff] at h ih
    have h1 : x.1 ≠ k := by simpa using h.1
    simp only [hPos, if_neg h1, ih h.2, Option.map_none]
/-- Add puts one more into a heap of at most one. -/
theorem heap_add {w : World} {S : Nat → Prop} {b : Nat} {l l' : List Hi} {seq nm : Nat} (h : HeapAt w S b l seq nm) (id when' : Int) (h0 : 0 ≤ id) (h1 : id < 1000) (hno : heapHas l id = false) (hl' : heapAdd l (id, when', ((seq + 1 : Nat) : Int)) = some l') (hnm : nm < 900000) :
    Calls Tryz.prog 159 #[.pointer (some ⟨b, 0, none⟩), .int .i64 id, .int .i64 when'] w fun e w' => ∃ S' : Nat → Prop, e = .returned (.int .i64 0) ∧ Fr S w w' ∧ HeapAt w' S' b l' (seq + 1) (nm + 2) ∧ ∀ k, S' k → S k ∨ w.heap.size ≤ k := by
  obtain ⟨mb, SL, v, n, f, h, hpos, hids, hsq, hnd⟩ := h
  have hn1 : n ≤ 1 := by rw [← h.len]; exact heapAdd_len hl'
  have hfid : f id = none := by rw [hpos]; exact hPos_none hno
  have hkid : (Lit.int .i64 id).wf = true := wf_small (by omega) (by omega)
  have Hm := Lib.hid h.map
  obtain ⟨A, cp, rfl, c0, c1, c2, f0, f2⟩ := h.cells
  have hws : IntKind.i64.wrap ((seq : Int) + 1) = (seq : Int) + 1 := by simp [IntKind.wrap, IntKind.bits, IntKind.signed]; omega
  have H := Lib.hid h
  have Hpos := Lib.hid hpos; have Hids := Lib.hid hids; have Hl' := Lib.hid hl'; have Hno := Lib.hid hno
  clear h hpos hids hl' hno
  go_enter Tryz.func159, Tryz.ntmps159
  go_wp2_with (refine map_look2 rfl (.tmp 15) (.tmp 16) rfl mb nm f rfl Hm.out id rfl hkid ?_; simp only [hfid, Option.getD_none, Option.isSome_none])
  obtain ⟨W, hW⟩ : ∃ W, W = w.setCell ⟨b, 2, none⟩ (.int .i64 ((seq : Int) + 1)) := ⟨_, rfl⟩
  rw [← hW]
  have hfW : Fr (fun k => k = b) w W := by rw [hW]; exact (Fr.refl (fun k => k = b) w).setCell (p := ⟨b, 2, none⟩) (.inl rfl) _
  have hbW : W.heap[b]? = some (.cells #[.slice A n cp, .map (some mb), .int .i64 ((seq : Int) + 1)] 201 (0, 0)) := by rw [hW]; exact blk_set H.out.blk 2 _
  have hsW : Sl W SL 208 3 (.slice A n cp) n (his l) := H.out.sl.fr hfW fun k q e => (H.out.subL k q).2.1 e
  have hmW : MapAt W mb nm f := H.out.map.fr hfW fun e => H.out.ne e.symm
  have lbW := lt_of_block hbW
  have b0 := blk_cell hbW 0 rfl; have b1 := blk_cell hbW 1 rfl; have b2 := blk_cell hbW 2 rfl
  have z0 := blk_froz hbW 0
  have HbW := Lib.hid hbW; have HsW := Lib.hid hsW; have HfW := Lib.hid hfW; have HmW := Lib.hid hmW
  clear hbW hsW hfW hmW hW c0 c1 c2 f0 f2
  go_region_law ((refine step_append_sl _ (by rfl) _ _ _ (by rfl) SL 208 _ 3 24 Tryz.underlying199 Tryz.info_item rfl (by omega) (.slice A n cp) n (his l) (by rfl) ((HsW.out.alloc _).drew) ⟨W.heap.size, 0, none⟩ 1 1 [.int .i64 id, .int .i64 when', .int .i64 ((seq : Int) + 1)] (by rfl) (by rfl) (news_lit _ [.int .i64 id, .int .i64 when', .int .i64 ((seq : Int) + 1)] 208 (0, 0) _ (heap_alloc_new W _)) (by rfl) (by omega) (by omega) ?_; intro v3 w3 hs3 hf3; obtain ⟨X3, c3, rfl⟩ := hs3.slice; have hb3 := hf3.blk (fun q => (H.out.subL _ q).2.1 rfl) (show ((W.alloc (.cells #[.int .i64 id, .int .i64 when', .int .i64 ((seq : Int) + 1)] 208)).drew).heap[b]? = _ from (blk_alloc_ne _ lbW).trans HbW.out); have d0 := blk_cell hb3 0 rfl; have g0 := blk_froz hb3 0; have hsz := hf3.size; have Hb3 := Lib.hid hb3; have Hs3 := Lib.hid hs3; have Hf3 := Lib.hid hf3; clear hb3 hs3 hf3))
  all_goals
    have hq3 := HeapQ.grown H.out HfW.out HsW.out HmW.out (id, when', (seq : Int) + 1) ((Fr.refl Nob W).alloc _).drew (by simp) Hf3.out Hb3.out Hs3.out
    obtain ⟨W3, hW3⟩ : ∃ W3, W3 = w3.setCell ⟨b, 0, none⟩ (.slice X3 (n + 1) c3) := ⟨_, rfl⟩
    rw [← hW3] at hq3 ⊢
    obtain ⟨hq3, hf03⟩ := hq3
    have e0 := blk_cell hq3.blk 0 rfl
    have Hq3 := Lib.hid hq3; have Hf03 := Lib.hid hf03
    clear hq3 hf03 hW3 d0 g0 hsz b0 b1 b2 z0
    have : n = 0 ∨ n = 1 := by omega
    rcases this with hn | hn
    · have hl0 : l = [] := List.eq_nil_of_length_eq_zero (H.out.len.trans hn)
      subst hn
      go_wp2_with fail
      refine (heap_up0 Hq3.out (id, when', (seq : Int) + 1) [] (by rw [hl0]; rfl) hkid (by omega)).mono ?_
      rintro e w4 ⟨rfl, hf4, hq4⟩
      have Hf4 := Lib.hid hf4; have Hq4 := Lib.hid hq4
      clear hf4 hq4
      go_wp2_with fail
      go_ret
      have hl2 : l' = [(id, when', (seq : Int) + 1)] := by have := Hl'.out; rw [hl0] at this; simp [heapAdd] at this; exact this.symm
      have hz := Hf03.out.size
      have e1 : [] ++ [((id, when', (seq : Int) + 1) : Hi)] = l' := by rw [hl2]; rfl
      have hq5 := Hq4.out
      rw [hl0, e1] at hq5
      refine ⟨_, rfl, Hf03.out.trans Hf4.out fun k hk q => ?_, ⟨mb, _, _, _, _, hq5.mono (by omega), fun k => ?_, fun y hy => ?_, by omega, by rw [hl2]; simp⟩, fun k q => ?_⟩
      · rcases q with q | q; exact q; omega
      · rw [hl2]
        by_cases e : k = id
        · subst e; rw [fup_same]; simp [hPos]
        · rw [fup_ne _ _ e, Hpos.out, hl0]; simp [hPos, Ne.symm e]
      · rw [hl2] at hy; simp at hy; subst hy; exact ⟨h0, h1⟩
      · rcases q with q | q; exact .inl q; exact .inr q.1
    · obtain ⟨y, hl0⟩ : ∃ y, l = [y] := List.length_eq_one_iff.1 (H.out.len.trans hn)
      have hy := Hids.out y (by rw [hl0]; simp)
      have hky : (Lit.int .i64 y.1).wf = true := wf_small (by omega) (by omega)
      subst hn
      go_wp2_with fail
      refine (heap_up1 Hq3.out (id, when', (seq : Int) + 1) y (by rw [hl0]; rfl) hkid hky (by omega)).mono ?_
      rintro e w4 ⟨rfl, hf4, hq4⟩
      have Hf4 := Lib.hid hf4; have Hq4 := Lib.hid hq4
      clear hf4 hq4
      go_wp2_with fail
      go_ret
      have hl2 : (if aheadI (id, when', (seq : Int) + 1) y then [(id, when', (seq : Int) + 1), y] else [y, (id, when', (seq : Int) + 1)]) = l' := by have := Hl'.out; rw [hl0] at this; simp only [heapAdd, Option.some.injEq] at this; exact this
      have hne : y.1 ≠ id := by have := Hno.out; rw [hl0] at this; simpa [heapHas] using this
      have hz := Hf03.out.size
      have hq5 := Hq4.out
      rw [hl2] at hq5
      refine ⟨_, rfl, Hf03.out.trans Hf4.out fun k hk q => ?_, ⟨mb, _, _, _, _, hq5, fun k => ?_, fun x hx => ?_, by omega, by rw [← hl2]; split <;> simp [hne, Ne.symm hne]⟩, fun k q => ?_⟩
      · rcases q with q | q; exact q; omega
      · rw [← hl2]
        have hf0 : f k = if y.1 = k then some 0 else none := by rw [Hpos.out, hl0]; simp only [hPos]; rfl
        by_cases ha : aheadI (id, when', (seq : Int) + 1) y = true
        · rw [if_pos ha, if_pos ha]
          by_cases e : k = id
          · subst e; rw [fup_same]; simp [hPos]
          · rw [fup_ne _ _ e]
            by_cases e2 : k = y.1
            · subst e2; rw [fup_same]; simp [hPos, Ne.symm e]
            · rw [fup_ne _ _ e2, hf0]; simp [hPos, Ne.symm e, Ne.symm e2]
        · rw [if_neg ha, if_neg ha]
          by_cases e : k = id
          · subst e; rw [fup_same]; simp [hPos, hne]
          · rw [fup_ne _ _ e, hf0]
            by_cases e2 : y.1 = k
            · simp [hPos, e2]
            · simp [hPos, Ne.symm e, e2]
      · have : x = (id, when', (seq : Int) + 1) ∨ x = y := by
          rw [← hl2] at hx
          split at hx
          · simpa using hx
          · simpa [or_comm] using hx
        rcases this with rfl | rfl
        · exact ⟨h0, h1⟩
        · exact hy
      · rcases q with q | q; exact .inl q; exact .inr q.1
end Go.Proofs.YtcffplgimbbflaaGreat
