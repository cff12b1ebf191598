/- What Do does on both: the program's and the document's tell the same, and leave the same channels. -/
import Derived.Test.YtdemeghhjnehbaaTellRun
import Derived.Test.YtdemeghhjnehbaaChooseDoA
import Derived.Deep.RegionWith
import Derived.Deep.DeepCutAuto
set_option linter.unusedVariables false
set_option linter.unusedSimpArgs false
namespace Go.Proofs.Ytdemeghhjnehbaa
open Go.RowKit
set_option maxRecDepth 100000
theorem do_long (w : World) (n c0 : Nat) (A : Option Addr) (d : Bool) (dr t : Int) (ht : 16 < n) (hn : n ≤ 1000) :
    Calls Try.prog 11 #[.slice A n c0, .bool d, .int .i64 dr, .int .i64 t] w fun e w' => e = .returned (.tuple #[resV 0 0 false false false false, .slice none 0 0, .int .i64 1]) ∧ Fr Nob w w' := by
  have hn16 : decide ((16 : Int) < n) = true := decide_eq_true (by omega)
  go_enter Try.func11, Try.ntmps11
  go_wp2_with fail
  obtain ⟨w1, hw1⟩ : ∃ w1, w1 = w.alloc (.cells #[.int .i64 0, .int .i64 0, .bool false, .bool false, .bool false, .bool false] 31) := ⟨_, rfl⟩
  rw [← hw1]
  have hb1 : w1.heap[w.heap.size]? = some (.cells #[.int .i64 0, .int .i64 0, .bool false, .bool false, .bool false, .bool false] 31 (0, 0)) := by rw [hw1]; exact heap_alloc_new _ _
  have hf1 : Fr Nob w w1 := by rw [hw1]; exact (Fr.refl Nob w).alloc _
  clear hw1
  have t0 := blk_cell hb1 0 rfl
  have t1 := blk_cell hb1 1 rfl
  have t2 := blk_cell hb1 2 rfl
  have t3 := blk_cell hb1 3 rfl
  have t4 := blk_cell hb1 4 rfl
  have t5 := blk_cell hb1 5 rfl
  exact bodyPost_ret (v := .tuple #[resV 0 0 false false false false, .slice none 0 0, .int .i64 1]) (by simp [results, Try.results11, go_sem, t0, t1, t2, t3, t4, t5]) rfl ⟨rfl, hf1⟩
theorem Pool.qfew {w : World} {S : Nat → Prop} {B : Nat → Nat} {P : Nat → Option ChS} (h : Pool w S B P) : QFew P := fun i c hi => by
  obtain ⟨T, hc, _⟩ := h.at hi
  have := hc.qlen
  omega
def AtDo (w : World) (S : Nat → Prop) (B : Nat → Nat) (P' : Nat → Option ChS) (i v : Int) (ok pn pk kd : Bool) (l : List Wk) (n : Nat) (er : Int) (e : Ending) (w' : World) : Prop := ∃ (A : Option Addr) (cp : Nat), e = .returned (.tuple #[resV i v ok pn pk kd, .slice A n cp, .int .i64 er]) ∧ Fr S w w' ∧ Pool w' (And' S w w') B P' ∧ Sl w' (From w.heap.size) 37 5 (.slice A n cp) n (wks l)
structure DoBoth (P : Nat → Option ChS) (l : List Cs) (n : Nat) (d : Bool) (dr t : Int) (i v : Int) (ok pn pk kd : Bool) (lw : List Wk) (nw : Nat) (er : Int) (P' : Nat → Option ChS) : Prop where
  a : ∀ (w : World) (S : Nat → Prop) (B : Nat → Nat) (vx : Value) (T : Nat → Prop), Pool w S B P → (∀ k, S k → k < w.heap.size) → Sl w T 29 3 vx n (css B l) → (∀ k, S k → T k → False) → (∀ k, T k → k < w.heap.size) →
    Calls Try.prog 11 #[vx, .bool d, .int .i64 dr, .int .i64 t] w (AtDo w S B P' i v ok pn pk kd lw nw er)
  b : ∀ (w : World) (S : Nat → Prop) (M : Nat → Nat) (vx : Value) (T : Nat → Prop), RPool w S M P → (∀ k, S k → k < w.heap.size) → Sl w T 113 3 vx n (css M l) → (∀ k, S k → T k → False) → (∀ k, T k → k < w.heap.size) →
    Calls Try.prog 24 #[vx, .bool d, .int .i64 dr, .int .i64 t] w (TDoP w S M P' i v ok pn pk kd lw nw er)
  len : lw.length = nw
  ok' : ∀ x, CsOk P x → CsOk P' x
  none' : ∀ i, P i = none → P' i = none
  few : Few P' 950
theorem csok_upd {P : Nat → Option ChS} (i : Nat) (c : ChS) (x : Cs) (h : CsOk P x) : CsOk (upd P i (some c)) x := fun j hj => by
  obtain ⟨d, hd⟩ := h j hj
  by_cases e : j = i
  · subst e; exact ⟨_, upd_same _ _ _⟩
  · exact ⟨d, by rw [upd_ne _ _ e]; exact hd⟩
theorem none_upd {P : Nat → Option ChS} {i : Nat} {c c' : ChS} (hi : P i = some c) (j : Nat) (h : P j = none) : upd P i (some c') j = none := by
  by_cases e : j = i
  · subst e; rw [hi] at h; cases h
  · rw [upd_ne _ _ e]; exact h
theorem few_upd {P : Nat → Option ChS} {m n : Nat} (h : Few P m) (hm : m ≤ n) (i : Nat) (c : ChS) (h1 : c.rv.length ≤ n) (h2 : c.sd.length ≤ n) : Few (upd P i (some c)) n := fun j d hj => by
  by_cases e : j = i
  · subst e; rw [upd_same] at hj; cases hj; exact ⟨h1, h2⟩
  · rw [upd_ne _ _ e] at hj; exact h.mono hm j d hj
theorem oneS_few (c : ChS) (x : Cs) (m : Nat) (h1 : c.rv.length ≤ m) (h2 : c.sd.length ≤ m) : (oneS c x).rv.length ≤ m + 1 ∧ (oneS c x).sd.length ≤ m + 1 := by
  unfold oneS
  split
  · have := sendS_le c x.2.2; exact ⟨by omega, by omega⟩
  · have := recvS_le c; exact ⟨by omega, by omega⟩
theorem none_step {P : Nat → Option ChS} (f : ChS → ChS) (o : Option Nat) (j : Nat) (h : P j = none) : stepF P f o j = none := by
  cases o with
  | none => exact h
  | some i =>
    unfold stepF
    cases hp : P i with
    | none => simp only [hp]; exact h
    | some c => simp only [hp]; exact none_upd hp j h
theorem none_park (t : Int) (j : Nat) : ∀ (l : List Cs) (k : Nat) (P : Nat → Option ChS), P j = none → parkF t l k P j = none
  | [], _, _, h => h
  | y :: l, k, P, h => none_park t j l (k + 1) _ (none_step _ _ j h)
theorem none_leave (t : Int) (j : Nat) : ∀ (l : List Cs) (P : Nat → Option ChS), P j = none → leaveF t l P j = none
  | [], _, h => h
  | y :: l, P, h => none_leave t j l _ (none_step _ _ j h)
theorem DoP.at {w : World} {S : Nat → Prop} {B : Nat → Nat} {P : Nat → Option ChS} {i v : Int} {ok pn pk kd : Bool} {l : List Wk} {n : Nat} {er : Int} {e : Ending} {w' : World} (h : DoP w (fun _ => S) (fun _ => S) B P i v ok pn pk kd l n er e w') : AtDo w S B P i v ok pn pk kd l n er e w' := by
  obtain ⟨A, cp, h1, h2, h3, h4⟩ := h
  exact ⟨A, cp, h1, h2, h3.mono fun k q => .inl q, h4⟩
theorem Few.lt {P : Nat → Option ChS} {m : Nat} (h : Few P m) (hm : m < 100000) : ∀ i c, P i = some c → c.rv.length < 100000 ∧ c.sd.length < 100000 := fun i c hi => ⟨by have := (h i c hi).1; omega, by have := (h i c hi).2; omega⟩
theorem first_of (f : Nat → Bool) : ∀ n : Nat, (∀ j, j < n → f j = false) ∨ ∃ k, k < n ∧ f k = true ∧ ∀ j, j < k → f j = false
  | 0 => .inl fun j hj => by omega
  | n + 1 => by
    rcases first_of f n with h | ⟨k, h1, h2, h3⟩
    · cases hf : f n with
      | false => exact .inl fun j hj => by by_cases e : j = n; · subst e; exact hf
                                           · exact h j (by omega)
      | true => exact .inr ⟨n, by omega, hf, h⟩
    · exact .inr ⟨k, by omega, h2, h3⟩
theorem do_both (P : Nat → Option ChS) (l : List Cs) (n : Nat) (hn : l.length = n) (hn20 : n ≤ 20) (hok : ∀ x ∈ l, CsOk P x) (hfew : Few P 900) (hqf : QFew P) (d : Bool) (dr t : Int) :
    ∃ (i v : Int) (ok pn pk kd : Bool) (lw : List Wk) (nw : Nat) (er : Int) (P' : Nat → Option ChS), DoBoth P l n d dr t i v ok pn pk kd lw nw er P' := by
  have hgd : ∀ k (x : Cs), l[k]? = some x → l.getD k (none, false, 0) = x := fun k x hx => by simp [List.getD, hx]
  by_cases ht : 16 < n ∨ t < 0
  · refine ⟨0, 0, false, false, false, false, [], 0, 1, P, fun w S B vx T hp hS hsl hst hTw => ?_, fun w S M vx T hp hS hsl hst hTw => ?_, rfl, fun x h => h, fun i h => h, hfew.mono (by omega)⟩
    · obtain ⟨A, c0, rfl⟩ := hsl.slice
      have key : Calls Try.prog 11 #[.slice A n c0, .bool d, .int .i64 dr, .int .i64 t] w fun e w' => e = .returned (.tuple #[resV 0 0 false false false false, .slice none 0 0, .int .i64 1]) ∧ Fr Nob w w' := by
        by_cases h16 : 16 < n
        · exact do_long w n c0 A d dr t h16 (by omega)
        · exact do_refused w n c0 A d dr t (by omega) (by omega)
      exact key.mono fun e w' ⟨h1, h2⟩ => ⟨none, 0, h1, h2.none, (hp.fr0 h2).mono fun k q => .inl q, Sl.nil _ _ _ _⟩
    · obtain ⟨A, c0, rfl⟩ := hsl.slice
      exact (tell_refused w n c0 A d dr t ht (by omega)).mono fun e w' ⟨h1, h2⟩ => ⟨none, 0, h1, RTo.near hp h2, rd_nil _ _⟩
  · have ht0 : 0 ≤ t := by omega
    have hn16 : n ≤ 16 := by omega
    obtain ⟨fm, hfm⟩ : ∃ fm : Nat → Bool, ∀ k x, l[k]? = some x → (x.2.1 && muteC P x) = fm k := ⟨fun k => (l.getD k (none, false, 0)).2.1 && muteC P (l.getD k (none, false, 0)), fun k x hx => by simp only [hgd k x hx]⟩
    rcases first_of fm n with hmu' | ⟨k, hk, hk1, hk2⟩
    · have hmu : ∀ x ∈ l, (x.2.1 && muteC P x) = false := fun x hx => by
        obtain ⟨k, hk, he⟩ := List.mem_iff_getElem.1 hx
        have h0 : l[k]? = some x := by rw [← he]; simp
        rw [hfm k x h0]; exact hmu' k (by omega)
      obtain ⟨fc, hfc⟩ : ∃ fc : Nat → Bool, ∀ k x, l[k]? = some x → canC P x = fc k := ⟨fun k => canC P (l.getD k (none, false, 0)), fun k x hx => by simp only [hgd k x hx]⟩
      by_cases hm0 : (rdy fc n).length = 0
      · have hno : ∀ x ∈ l, canC P x = false := fun x hx => by
          obtain ⟨k, hk, he⟩ := List.mem_iff_getElem.1 hx
          have h0 : l[k]? = some x := by rw [← he]; simp
          rw [hfc k x h0]; exact rdy_nil (List.length_eq_zero_iff.1 hm0) k (by omega)
        cases d with
        | true =>
          refine ⟨-1, 0, false, false, false, false, [], 0, 0, P, fun w S B vx T hp hS hsl hst hTw => ?_, fun w S M vx T hp hS hsl hst hTw => ?_, rfl, fun x h => h, fun i h => h, hfew.mono (by omega)⟩
          · exact (do_default hp hS vx l n hn hsl.rd hok hmu hno hn16 dr t ht0).mono fun e w' h => h.at
          · exact tell_default hp hS vx l n hn T hsl hst hTw hok hn16 dr t ht0 hmu hno
        | false =>
          refine ⟨-1, 0, false, false, true, false, [], 0, 0, parkF t l 0 P, fun w S B vx T hp hS hsl hst hTw => ?_, fun w S M vx T hp hS hsl hst hTw => ?_, rfl, fun x h => h.park t l 0 P, fun i h => none_park t i l 0 P h, (Few.park t l 0 P 900 hfew).mono (by omega)⟩
          · exact (do_park hp hS vx l n hn T hsl hst hTw hok hmu hno (hfew.mono (by omega)) hn16 dr t ht0).mono fun e w' h => h
          · exact tell_park hp hS vx l n hn T hsl hst hTw hok hn16 dr t ht0 hmu hno hfew hqf
      · obtain ⟨m, hm⟩ : ∃ m, (rdy fc n).length = m := ⟨_, rfl⟩
        have hmp : 0 < m := by omega
        have hj0 := Int.emod_nonneg dr (show (m : Int) ≠ 0 by omega)
        have hj1 := Int.emod_lt_of_pos dr (show (0 : Int) < m by omega)
        obtain ⟨j, hj⟩ := Int.eq_ofNat_of_zero_le hj0
        have hjm : j < m := by omega
        have hjl : j < (rdy fc n).length := by omega
        obtain ⟨k, hkv, hkn, hkc⟩ := rdy_get (List.getElem?_eq_getElem hjl)
        have hk : (rdy fc n)[j]? = some (k : Int) := by rw [List.getElem?_eq_getElem hjl, hkv]
        have hx0 : l[k]? = some (l[k]'(by omega)) := by simp
        obtain ⟨x, hx⟩ : ∃ x, l[k]? = some x := ⟨_, hx0⟩
        have hcx : canC P x = true := by rw [hfc k x hx]; exact hkc
        obtain ⟨o, s, y⟩ := x
        cases o with
        | none => simp [canC] at hcx
        | some i =>
          obtain ⟨c, hi⟩ := hok _ (List.mem_of_getElem? hx) i rfl
          have hcf := hfew i c hi
          cases s with
          | true =>
            refine ⟨k, 0, (c.sendR y).2.2 == 0, (c.sendR y).2.2 == 5, false, false, (c.sendR y).2.1, (c.sendR y).2.1.length, 0, upd P i (some (c.sendS y)), fun w S B vx T hp hS hsl hst hTw => ?_, fun w S M vx T hp hS hsl hst hTw => ?_, rfl, fun x h => csok_upd _ _ _ h, fun j h => none_upd hi j h, few_upd hfew (by omega) _ _ (by have := (sendS_le c y).1; omega) (by have := (sendS_le c y).2; omega)⟩
            · exact (do_ready hp hS vx l n hn hsl.rd hok hmu fc hfc hn16 d dr t ht0 m j k i (some i, true, y) hm hmp hj hjm hk hkn hx rfl hi 0 _ _ _ _ (by rfl) (by rfl) rfl).mono fun e w' h => h.at
            · exact tell_send hp hS vx l n hn T hsl hst hTw hok hn16 dr t ht0 hmu d fc hfc m j k i y hm hmp hj hjm hk hkn hx hi (rfew hfew hqf (by omega)) _ _ _ _ (by rfl) rfl rfl
          | false =>
            refine ⟨k, c.recvR.1, c.recvR.2.1, false, false, false, c.recvR.2.2.2, c.recvR.2.2.2.length, 0, upd P i (some c.recvS), fun w S B vx T hp hS hsl hst hTw => ?_, fun w S M vx T hp hS hsl hst hTw => ?_, rfl, fun x h => csok_upd _ _ _ h, fun j h => none_upd hi j h, few_upd hfew (by omega) _ _ (by have := (recvS_le c).1; omega) (by have := (recvS_le c).2; omega)⟩
            · exact (do_ready hp hS vx l n hn hsl.rd hok hmu fc hfc hn16 d dr t ht0 m j k i (some i, false, y) hm hmp hj hjm hk hkn hx rfl hi _ _ _ _ _ (by rfl) (by rfl) rfl).mono fun e w' h => h.at
            · exact tell_recv hp hS vx l n hn T hsl hst hTw hok hn16 dr t ht0 hmu d fc hfc m j k i y hm hmp hj hjm hk hkn hx hi (rfew hfew hqf (by omega)) _ _ _ _ _ (by rfl) rfl rfl
    · have hks : l[k]? = some (l[k]'(by omega)) := by simp
      refine ⟨k, 0, false, false, false, true, [], 0, 0, P, fun w S B vx T hp hS hsl hst hTw => ?_, fun w S M vx T hp hS hsl hst hTw => ?_, rfl, fun x h => h, fun i h => h, hfew.mono (by omega)⟩
      · exact (do_mute hp hS vx l n hn hsl.rd hok fm hfm hn16 d dr t ht0 k hk hk1 hk2).mono fun e w' h => h.at
      · exact tell_mute hp hS vx l n hn T hsl hst hTw hok hn16 dr t ht0 d k _ hks (by rw [hfm k _ hks]; exact hk1) (fun j x hj hx => by rw [hfm j x hx]; exact hk2 j hj) hk
open Go.RowKit
set_option maxRecDepth 100000
abbrev Pk := Int × Bool × Int
abbrev pkEn (p : Pk) : List Value := [.int .i64 p.1, .bool p.2.1, .int .i64 p.2.2]
abbrev pvs (B : Nat → Nat) (os : List (Option Nat)) : List Value := os.map fun o => .pointer (pa B o)
def pkO (os : List (Option Nat)) (k : Int) : Option Nat := if 0 ≤ k then os.getD k.toNat none else none
def csOf (os : List (Option Nat)) (l : List Pk) : List Cs := l.map fun p => (pkO os p.1, p.2.1, p.2.2)
theorem info_caseA : (Try.prog.info? 29).map (fun i => (i.zero, i.size, i.bytes)) = some (some (.agg #[.pointer none, .bool false, .int .i64 0]), 3, 24) := by kernel_rfl
theorem info_caseB : (Try.prog.info? 113).map (fun i => (i.zero, i.size, i.bytes)) = some (some (.agg #[.pointer none, .bool false, .int .i64 0]), 3, 24) := by kernel_rfl
theorem lit_cells3 {W : World} {b : Nat} {x y z : Value} {T : TypeId} (h : W.heap[b]? = some (.cells #[x, y, z] T (0, 0))) : ∀ j u, ([x, y, z] : List Value)[j]? = some u → W.cell? ((⟨b, 0, none⟩ : Addr).add j) = some u := fun j u hj => by
  have e : (⟨b, 0, none⟩ : Addr).add j = ⟨b, j, none⟩ := by unfold Addr.add; split <;> simp_all
  rw [e]; exact blk_cell h _ (by simpa using hj)
/-- The slice's block is of its type. -/
theorem Sl.typed {w : World} {S : Nat → Prop} {T : TypeId} {sz : Nat} {v : Value} {n : Nat} {cs : List Value} (h : Sl w S T sz v n cs) : Sl w (fun k => S k ∧ ∃ blk, w.heap[k]? = some (.cells blk T (0, 0))) T sz v n cs := by
  refine ⟨h.1, ?_⟩
  rcases h.2 with h | ⟨g, off, cap, blk, hv, hg, hb, r⟩
  · exact .inl h
  · exact .inr ⟨g, off, cap, blk, hv, ⟨hg, _, hb⟩, hb, r⟩
/-- What another slice's append, of another type, leaves. -/
theorem Sl.pass {w w' : World} {S A : Nat → Prop} {T T' : TypeId} {sz : Nat} {v : Value} {n : Nat} {cs : List Value} (h : Sl w S T sz v n cs) (hf : Fr (fun k => A k ∧ ∃ blk, w.heap[k]? = some (.cells blk T' (0, 0))) w w') (hne : T ≠ T') : Sl w' S T sz v n cs := by
  refine (h.typed.fr hf fun k q q' => ?_).mono fun k _ q => q.1
  obtain ⟨b1, e1⟩ := q.2
  obtain ⟨b2, e2⟩ := q'.2
  rw [e1] at e2
  cases e2
  exact hne rfl
theorem put3 {W : World} {b : Nat} {x0 x1 x2 : Value} {T : TypeId} (h : W.heap[b]? = some (.cells #[x0, x1, x2] T (0, 0))) (y0 y1 y2 : Value) : (((W.setCell ⟨b, 0, none⟩ y0).setCell ⟨b, 1, none⟩ y1).setCell ⟨b, 2, none⟩ y2).heap[b]? = some (.cells #[y0, y1, y2] T (0, 0)) := blk_set (blk_set (blk_set h 0 y0) 1 y1) 2 y2
theorem put3_fr (W : World) (b : Nat) (y0 y1 y2 : Value) : Fr (fun k => k = b) W (((W.setCell ⟨b, 0, none⟩ y0).setCell ⟨b, 1, none⟩ y1).setCell ⟨b, 2, none⟩ y2) := (((Fr.refl (fun k => k = b) W).setB 0 _).setB 1 _).setB 2 _
theorem Fr.new {w W W' : World} {b : Nat} (h : Fr Nob w W) (hf : Fr (fun k => k = b) W W') (hb : w.heap.size ≤ b) : Fr Nob w W' := h.none.trans hf (S := Nob) (fun k hk e => by subst e; omega)
theorem pv_get {B : Nat → Nat} {os : List (Option Nat)} {w : World} {v : Value} {q : Nat} (h : Rd w 1 v q (pvs B os)) (hq : os.length = q) : ∃ A c, v = .slice A q c ∧ q ≤ c ∧ c ≤ maxLen ∧ ∀ j, j < q → ∃ g o, A = some ⟨g, o, none⟩ ∧ w.cell? ⟨g, o + j, none⟩ = some (.pointer (pa B (os.getD j none))) := by
  obtain ⟨_, hl, A, c, rfl, h1, h2, h3⟩ := h
  refine ⟨A, c, rfl, h1, h2, fun j hj => ?_⟩
  obtain ⟨g, o, rfl, hg, hc⟩ := h3 (by omega)
  have hjl : j < os.length := by omega
  exact ⟨g, o, rfl, hc j _ (by simp [List.getD, hjl])⟩
theorem pk_get {l : List Pk} {w : World} {v : Value} {n : Nat} (h : Rd w 3 v n (l.flatMap pkEn)) (hn : l.length = n) : ∃ A c, v = .slice A n c ∧ n ≤ c ∧ c ≤ maxLen ∧ ∀ k, k < n → ∃ (x : Pk) (g o : Nat), l[k]? = some x ∧ A = some ⟨g, o, none⟩ ∧ w.cell? ⟨g, o + k * 3, none⟩ = some (.int .i64 x.1) ∧ w.cell? ⟨g, o + k * 3 + 1, none⟩ = some (.bool x.2.1) ∧ w.cell? ⟨g, o + k * 3 + 2, none⟩ = some (.int .i64 x.2.2) := by
  obtain ⟨_, hl, A, c, rfl, h1, h2, h3⟩ := h
  refine ⟨A, c, rfl, h1, h2, fun k hk => ?_⟩
  obtain ⟨g, o, rfl, hg, hc⟩ := h3 (by omega)
  have h0 : l[k]? = some (l[k]'(by omega)) := by simp
  have r := fun j (u : Value) (hj : j < 3) (hu : (pkEn (l[k]'(by omega)))[j]? = some u) => (rowsGet (sz := 3) pkEn (fun _ => rfl) l k j _ h0 hj).trans hu
  exact ⟨_, g, o, h0, rfl, hc _ _ (r 0 _ (by omega) rfl), by rw [Nat.add_assoc]; exact hc _ _ (r 1 _ (by omega) rfl), by rw [Nat.add_assoc]; exact hc _ _ (r 2 _ (by omega) rfl)⟩
theorem csOf_take {os : List (Option Nat)} {l : List Pk} {k : Nat} {x : Pk} (h : l[k]? = some x) (B : Nat → Nat) : css B ((csOf os l).take (k + 1)) = css B ((csOf os l).take k) ++ [.pointer (pa B (pkO os x.1)), .bool x.2.1, .int .i64 x.2.2] := by
  have h2 : (csOf os l)[k]? = some (pkO os x.1, x.2.1, x.2.2) := by simp [csOf, h]
  rw [take_snocC _ _ _ h2]
  simp [css]
def CasesP (w : World) (B M : Nat → Nat) (l : List Cs) (n : Nat) (e : Ending) (w' : World) : Prop := ∃ (A1 A2 : Option Addr) (c1 c2 : Nat), e = .returned (.tuple #[.slice A1 n c1, .slice A2 n c2]) ∧ Fr Nob w w' ∧ Sl w' (From w.heap.size) 29 3 (.slice A1 n c1) n (css B l) ∧ Sl w' (From w.heap.size) 113 3 (.slice A2 n c2) n (css M l)
set_option maxHeartbeats 8000000 in
theorem cases_any (w : World) (B M : Nat → Nat) (v0 vc vm : Value) (l : List Pk) (n : Nat) (hn : l.length = n) (hn2 : n ≤ 20) (hrd : Rd w 3 v0 n (l.flatMap pkEn)) (os : List (Option Nat)) (q : Nat) (hq : os.length = q) (hq2 : q ≤ 8) (hc : Rd w 1 vc q (pvs B os)) (hm : Rd w 1 vm q (pvs M os)) :
    Calls Try.prog 21 #[v0, vc, vm] w (CasesP w B M (csOf os l) n) := by
  obtain ⟨A0, c0, rfl, h01, h02, hA0⟩ := pk_get hrd hn
  obtain ⟨Ac, cc, rfl, hc1, hc2, hAc⟩ := pv_get hc hq
  obtain ⟨Am, cm, rfl, hm1, hm2, hAm⟩ := pv_get hm hq
  have hend : (csOf os l).take n = csOf os l := List.take_of_length_le (by simp [csOf]; omega)
  have hout : ∀ ch : Int, (ch < 0 ∨ (q : Int) ≤ ch) → pkO os ch = none := fun ch h => by
    unfold pkO
    split
    · simp [List.getD, List.getElem?_eq_none (show os.length ≤ ch.toNat by omega)]
    · rfl
  have hin : ∀ j : Nat, pkO os (j : Int) = os.getD j none := fun j => by unfold pkO; rw [if_pos (by omega)]; rfl
  have H0 := Lib.hid hA0; have HC := Lib.hid hAc; have HM := Lib.hid hAm; have Hend := Lib.hid hend; have Hout := Lib.hid hout; have Hin := Lib.hid hin
  have Hst := Lib.hid (fun (x : Pk) k (h : l[k]? = some x) => And.intro (csOf_take (os := os) h B) (csOf_take (os := os) h M))
  have Hs10 : Hid (Sl w (From w.heap.size) 29 3 (.slice none 0 0) 0 (css B ((csOf os l).take 0))) := Sl.nil _ _ _ _
  have Hs20 : Hid (Sl w (From w.heap.size) 113 3 (.slice none 0 0) 0 (css M ((csOf os l).take 0))) := Sl.nil _ _ _ _
  clear hA0 hAc hAm hrd hc hm hn hend hout hin hq
  unfold maxLen at h02 hc2 hm2
  generalize hcl : csOf os l = cl at *
  clear hcl
  go_enter Try.func21, Try.ntmps21
  go_wp2_with fail
  go_loopw [8, 9, 10] (fun x y i wr => ∃ (k : Nat) (A1 A2 : Option Addr) (c1 c2 : Nat), x = .slice A1 k c1 ∧ y = .slice A2 k c2 ∧ i = .int .i64 k ∧ k ≤ n ∧ Hid (Fr Nob w wr) ∧ Hid (Sl wr (From w.heap.size) 29 3 (.slice A1 k c1) k (css B (cl.take k))) ∧ Hid (Sl wr (From w.heap.size) 113 3 (.slice A2 k c2) k (css M (cl.take k)))) (fun _ _ i _ => n - (intOf i).toNat)
  case atStart => exact ⟨0, none, none, 0, 0, rfl, rfl, rfl, Nat.zero_le _, Fr.refl _ _, Hs10, Hs20⟩
  case round =>
    obtain ⟨wo, rfl⟩ : ∃ wo : World, wo = wr := ⟨_, rfl⟩
    obtain ⟨k, A1, A2, c1, c2, rfl, rfl, rfl, hk, Hf, Hs1, Hs2⟩ := hrel
    by_cases hlt : k < n
    · obtain ⟨x, g0, o0, hx, rfl, x0, x1, x2⟩ := H0.out k hlt
      have e0 := Hf.out.cell (p := ⟨g0, o0 + k * 3, none⟩) id x0
      have e1 := Hf.out.cell (p := ⟨g0, o0 + k * 3 + 1, none⟩) id x1
      have e2 := Hf.out.cell (p := ⟨g0, o0 + k * 3 + 2, none⟩) id x2
      have hki : (k : Int) < n := by omega
      have Hsx := Lib.hid (Hst.out x k hx)
      obtain ⟨ch, s, y⟩ := x
      dsimp only at e0 e1 e2 Hsx
      clear x0 x1 x2 hx
      have hkey : ∀ W, Fr Nob wo W → W.cell? ⟨g0, o0 + k * 3 + 1, none⟩ = some (.bool s) ∧ W.cell? ⟨g0, o0 + k * 3 + 2, none⟩ = some (.int .i64 y) := fun W hW => ⟨hW.cell id e1, hW.cell id e2⟩
      have Key := Lib.hid hkey
      clear hkey
      have hg0 := World.block_lt_of_cell? wo ⟨g0, o0 + k * 3, none⟩ e0
      have Hg0 := Lib.hid hg0
      clear hg0 e1 e2
      go_upto_region 6 with fail
      go_cut [11, 12] from 14 to 72 (fun p q wx => ∃ pb qb : Nat, p = .pointer (some ⟨pb, 0, none⟩) ∧ q = .pointer (some ⟨qb, 0, none⟩) ∧ Hid (Fr Nob wo wx) ∧ Hid (wx.heap[pb]? = some (.cells #[.pointer none, .bool s, .int .i64 y] 29 (0, 0))) ∧ Hid (wx.heap[qb]? = some (.cells #[.pointer none, .bool s, .int .i64 y] 113 (0, 0))) ∧ Hid (wo.heap.size ≤ pb ∧ wo.heap.size ≤ qb))
      case first =>
        refine wp_region_held_drew (S := fun W => W.cell? ⟨g0, o0 + k * 3 + 1, none⟩ = some (.bool s) ∧ W.cell? ⟨g0, o0 + k * 3 + 2, none⟩ = some (.int .i64 y)) (by kernel_rfl) (by exact Key.out _ ((Fr.refl Nob wo).drew)) (fun hHeld => ?_)
        refine wpAnyH_take (i := 0) (v := ?_) rfl (by kernel_rfl) (by kernel_rfl) (by kernel_rfl) (fun _ _ _ h => h) (Or.inl ⟨by rfl, ?_⟩) (by assumption) ?_
        rotate_left
        · intro w hSw; (try dsimp only at hSw); go_simp; try with_reducible rfl
        try simp only [List.getElem_toArray, List.getElem_cons_zero, List.getElem_cons_succ, Act.put, List.setIfInBounds_toArray, List.set_cons_zero, List.set_cons_succ]
        refine wpAnyH_take (i := 1) (v := ?_) rfl (by kernel_rfl) (by kernel_rfl) (by kernel_rfl) (fun _ _ _ h => h) (Or.inl ⟨by rfl, ?_⟩) (by assumption) ?_
        rotate_left
        · intro w hSw; (try dsimp only at hSw); go_simp; try with_reducible rfl
        try simp only [List.getElem_toArray, List.getElem_cons_zero, List.getElem_cons_succ, Act.put, List.setIfInBounds_toArray, List.set_cons_zero, List.set_cons_succ]
        refine wpAnyH_take (i := 2) (v := ?_) rfl (by kernel_rfl) (by kernel_rfl) (by kernel_rfl) (fun _ _ _ h => h) (Or.inl ⟨by rfl, ?_⟩) (by assumption) ?_
        rotate_left
        · intro w hSw; (try dsimp only at hSw); go_simp; try with_reducible rfl
        try simp only [List.getElem_toArray, List.getElem_cons_zero, List.getElem_cons_succ, Act.put, List.setIfInBounds_toArray, List.set_cons_zero, List.set_cons_succ]
        refine wpAnyH_take (i := 3) (v := ?_) rfl (by kernel_rfl) (by kernel_rfl) (by kernel_rfl) (fun _ _ _ h => h) (Or.inl ⟨by rfl, ?_⟩) (by assumption) ?_
        rotate_left
        · intro w hSw; (try dsimp only at hSw); go_simp; try with_reducible rfl
        try simp only [List.getElem_toArray, List.getElem_cons_zero, List.getElem_cons_succ, Act.put, List.setIfInBounds_toArray, List.set_cons_zero, List.set_cons_succ]
        refine wpAnyH_take (i := 4) (v := ?_) rfl (by kernel_rfl) (by kernel_rfl) (by kernel_rfl) (fun _ _ _ h => h) (Or.inl ⟨by rfl, ?_⟩) (by assumption) ?_
        rotate_left
        · intro w hSw; (try dsimp only at hSw); go_simp; try with_reducible rfl
        try simp only [List.getElem_toArray, List.getElem_cons_zero, List.getElem_cons_succ, Act.put, List.setIfInBounds_toArray, List.set_cons_zero, List.set_cons_succ]
        refine wpAnyH_take (i := 5) (v := ?_) rfl (by kernel_rfl) (by kernel_rfl) (by kernel_rfl) (fun _ _ _ h => h) (Or.inl ⟨by rfl, ?_⟩) (by assumption) ?_
        rotate_left
        · intro w hSw; (try dsimp only at hSw); go_simp; try with_reducible rfl
        try simp only [List.getElem_toArray, List.getElem_cons_zero, List.getElem_cons_succ, Act.put, List.setIfInBounds_toArray, List.set_cons_zero, List.set_cons_succ]
        refine wpAnyH_take (i := 6) (v := ?_) rfl (by kernel_rfl) (by kernel_rfl) (by kernel_rfl) (fun _ _ _ h => h) (Or.inl ⟨by rfl, ?_⟩) (by assumption) ?_
        rotate_left
        · intro w hSw; (try dsimp only at hSw); go_simp; try with_reducible rfl
        try simp only [List.getElem_toArray, List.getElem_cons_zero, List.getElem_cons_succ, Act.put, List.setIfInBounds_toArray, List.set_cons_zero, List.set_cons_succ]
        refine wpAnyH_take (i := 7) (v := ?_) rfl (by kernel_rfl) (by kernel_rfl) (by kernel_rfl) (fun _ _ _ h => h) (Or.inl ⟨by rfl, ?_⟩) (by assumption) ?_
        rotate_left
        · intro w hSw; (try dsimp only at hSw); go_simp; try with_reducible rfl
        try simp only [List.getElem_toArray, List.getElem_cons_zero, List.getElem_cons_succ, Act.put, List.setIfInBounds_toArray, List.set_cons_zero, List.set_cons_succ]
        refine wpAnyH_take (i := 8) (v := ?_) rfl (by kernel_rfl) (by kernel_rfl) (by kernel_rfl) (fun _ _ _ h => h) (Or.inl ⟨by rfl, ?_⟩) (by assumption) ?_
        rotate_left
        · intro w hSw; (try dsimp only at hSw); go_simp; try with_reducible rfl
        try simp only [List.getElem_toArray, List.getElem_cons_zero, List.getElem_cons_succ, Act.put, List.setIfInBounds_toArray, List.set_cons_zero, List.set_cons_succ]
        refine wpAnyH_take (i := 9) (v := ?_) rfl (by kernel_rfl) (by kernel_rfl) (by kernel_rfl) (fun _ _ _ h => h) (Or.inl ⟨by rfl, ?_⟩) (by assumption) ?_
        rotate_left
        · intro w hSw; (try dsimp only at hSw); go_simp; try with_reducible rfl
        try simp only [List.getElem_toArray, List.getElem_cons_zero, List.getElem_cons_succ, Act.put, List.setIfInBounds_toArray, List.set_cons_zero, List.set_cons_succ]
        refine wpAnyH_take (i := 10) (v := ?_) rfl (by kernel_rfl) (by kernel_rfl) (by kernel_rfl) (fun _ _ _ h => h) (Or.inl ⟨by rfl, ?_⟩) (by assumption) ?_
        rotate_left
        · intro w hSw; (try dsimp only at hSw); go_simp; try with_reducible rfl
        try simp only [List.getElem_toArray, List.getElem_cons_zero, List.getElem_cons_succ, Act.put, List.setIfInBounds_toArray, List.set_cons_zero, List.set_cons_succ]
        refine wpAnyH_take (i := 11) (v := ?_) rfl (by kernel_rfl) (by kernel_rfl) (by kernel_rfl) (fun _ _ _ h => h) (Or.inl ⟨by rfl, ?_⟩) (by assumption) ?_
        rotate_left
        · intro w hSw; (try dsimp only at hSw); go_simp; try with_reducible rfl
        try simp only [List.getElem_toArray, List.getElem_cons_zero, List.getElem_cons_succ, Act.put, List.setIfInBounds_toArray, List.set_cons_zero, List.set_cons_succ]
        refine wpAnyH_take (i := 12) (v := ?_) rfl (by kernel_rfl) (by kernel_rfl) (by kernel_rfl) (fun _ _ _ h => h) (Or.inl ⟨by rfl, ?_⟩) (by assumption) ?_
        rotate_left
        · intro w hSw; (try dsimp only at hSw); go_simp; try with_reducible rfl
        try simp only [List.getElem_toArray, List.getElem_cons_zero, List.getElem_cons_succ, Act.put, List.setIfInBounds_toArray, List.set_cons_zero, List.set_cons_succ]
        refine wpAnyH_take (i := 13) (v := ?_) rfl (by kernel_rfl) (by kernel_rfl) (by kernel_rfl) (fun _ _ _ h => h) (Or.inl ⟨by rfl, ?_⟩) (by assumption) ?_
        rotate_left
        · intro w hSw; (try dsimp only at hSw); go_simp; try with_reducible rfl
        try simp only [List.getElem_toArray, List.getElem_cons_zero, List.getElem_cons_succ, Act.put, List.setIfInBounds_toArray, List.set_cons_zero, List.set_cons_succ]
        refine wpAnyH_take (i := 14) (v := ?_) rfl (by kernel_rfl) (by kernel_rfl) (by kernel_rfl) (fun _ _ _ h => h) (Or.inl ⟨by rfl, ?_⟩) (by assumption) ?_
        rotate_left
        · intro w hSw; (try dsimp only at hSw); go_simp; try with_reducible rfl
        try simp only [List.getElem_toArray, List.getElem_cons_zero, List.getElem_cons_succ, Act.put, List.setIfInBounds_toArray, List.set_cons_zero, List.set_cons_succ]
        refine wpAnyH_take (i := 15) (v := ?_) rfl (by kernel_rfl) (by kernel_rfl) (by kernel_rfl) (fun _ _ _ h => h) (Or.inl ⟨by rfl, ?_⟩) (by assumption) ?_
        rotate_left
        · intro w hSw; (try dsimp only at hSw); go_simp; try with_reducible rfl
        try simp only [List.getElem_toArray, List.getElem_cons_zero, List.getElem_cons_succ, Act.put, List.setIfInBounds_toArray, List.set_cons_zero, List.set_cons_succ]
        refine wpAnyH_take (i := 16) (v := ?_) rfl (by kernel_rfl) (by kernel_rfl) (by kernel_rfl) (fun _ _ _ h => h) (Or.inl ⟨by rfl, ?_⟩) (by assumption) ?_
        rotate_left
        · intro w hSw; (try dsimp only at hSw); go_simp; try with_reducible rfl
        try simp only [List.getElem_toArray, List.getElem_cons_zero, List.getElem_cons_succ, Act.put, List.setIfInBounds_toArray, List.set_cons_zero, List.set_cons_succ]
        refine wpAnyH_take (i := 17) (v := ?_) rfl (by kernel_rfl) (by kernel_rfl) (by kernel_rfl) (fun _ _ _ h => h) (Or.inl ⟨by rfl, ?_⟩) (by assumption) ?_
        rotate_left
        · intro w hSw; (try dsimp only at hSw); go_simp; try with_reducible rfl
        try simp only [List.getElem_toArray, List.getElem_cons_zero, List.getElem_cons_succ, Act.put, List.setIfInBounds_toArray, List.set_cons_zero, List.set_cons_succ]
        refine wpAnyH_take (i := 18) (v := ?_) rfl (by kernel_rfl) (by kernel_rfl) (by kernel_rfl) (fun _ _ _ h => h) (Or.inl ⟨by rfl, ?_⟩) (by assumption) ?_
        rotate_left
        · intro w hSw; (try dsimp only at hSw); go_simp; try with_reducible rfl
        try simp only [List.getElem_toArray, List.getElem_cons_zero, List.getElem_cons_succ, Act.put, List.setIfInBounds_toArray, List.set_cons_zero, List.set_cons_succ]
        refine wpAnyH_take (i := 19) (v := ?_) rfl (by kernel_rfl) (by kernel_rfl) (by kernel_rfl) (fun _ _ _ h => h) (Or.inl ⟨by rfl, ?_⟩) (by assumption) ?_
        rotate_left
        · intro w hSw; (try dsimp only at hSw); go_simp; try with_reducible rfl
        try simp only [List.getElem_toArray, List.getElem_cons_zero, List.getElem_cons_succ, Act.put, List.setIfInBounds_toArray, List.set_cons_zero, List.set_cons_succ]
        refine wpAnyH_take (i := 20) (v := ?_) rfl (by kernel_rfl) (by kernel_rfl) (by kernel_rfl) (fun _ _ _ h => h) (Or.inl ⟨by rfl, ?_⟩) (by assumption) ?_
        rotate_left
        · intro w hSw; (try dsimp only at hSw); go_simp; try with_reducible rfl
        try simp only [List.getElem_toArray, List.getElem_cons_zero, List.getElem_cons_succ, Act.put, List.setIfInBounds_toArray, List.set_cons_zero, List.set_cons_succ]
        refine wpAnyH_take (i := 21) (v := ?_) rfl (by kernel_rfl) (by kernel_rfl) (by kernel_rfl) (fun _ _ _ h => h) (Or.inl ⟨by rfl, ?_⟩) (by assumption) ?_
        rotate_left
        · intro w hSw; (try dsimp only at hSw); go_simp; try with_reducible rfl
        try simp only [List.getElem_toArray, List.getElem_cons_zero, List.getElem_cons_succ, Act.put, List.setIfInBounds_toArray, List.set_cons_zero, List.set_cons_succ]
        obtain ⟨y0, hy0⟩ : ∃ W, W = wo.drew := ⟨_, rfl⟩
        rw [← hy0] at hHeld ⊢
        have hf0 : Fr Nob wo y0 := by rw [hy0]; exact (Fr.refl Nob wo).drew
        clear hy0
        refine wpAnyH_ready (rs := [22, 23]) (by kernel_rfl) (by simp) ?_
        refine AllReadyH.cons rfl (fun K hK => ?_) (AllReadyH.cons rfl (fun K hK => ?_) AllReadyH.nil)
        · simp only [List.getElem_toArray, List.getElem_cons_zero, List.getElem_cons_succ]
          go_simp
          obtain ⟨y1, hy1⟩ : ∃ W, W = y0.alloc (.cells #[.pointer none, .bool false, .int .i64 0] 29) := ⟨_, rfl⟩
          rw [← hy1]
          obtain ⟨pb, hpb⟩ : ∃ b, b = y0.heap.size := ⟨_, rfl⟩
          rw [← hpb]
          have hf1 : Fr Nob wo y1 := by rw [hy1]; exact hf0.alloc _
          have hp1 : y1.heap[pb]? = some (.cells #[.pointer none, .bool false, .int .i64 0] 29 (0, 0)) := by rw [hy1, hpb]; exact heap_alloc_new _ _
          have hpz : wo.heap.size ≤ pb := by rw [hpb]; exact hf0.size
          clear hy1 hpb
          refine hK.out _ _ (Key.out _ hf1) (fun hHeld1 => ?_)
          clear hK K
          try simp only [List.getElem_toArray, List.getElem_cons_zero, List.getElem_cons_succ, Act.put, List.setIfInBounds_toArray, List.set_cons_zero, List.set_cons_succ]
          refine wpAnyH_ready (rs := [23]) (by kernel_rfl) (by simp) ?_
          refine AllReadyH.cons rfl (fun K hK => ?_) AllReadyH.nil
          · simp only [List.getElem_toArray, List.getElem_cons_zero, List.getElem_cons_succ]
            go_simp
            obtain ⟨y2, hy2⟩ : ∃ W, W = y1.alloc (.cells #[.pointer none, .bool false, .int .i64 0] 113) := ⟨_, rfl⟩
            rw [← hy2]
            obtain ⟨qb, hqb⟩ : ∃ b, b = y1.heap.size := ⟨_, rfl⟩
            rw [← hqb]
            have hf2 : Fr Nob wo y2 := by rw [hy2]; exact hf1.alloc _
            have hq2 : y2.heap[qb]? = some (.cells #[.pointer none, .bool false, .int .i64 0] 113 (0, 0)) := by rw [hy2, hqb]; exact heap_alloc_new _ _
            have hqz : wo.heap.size ≤ qb := by rw [hqb]; exact hf1.size
            have hp2 : y2.heap[pb]? = some (.cells #[.pointer none, .bool false, .int .i64 0] 29 (0, 0)) := by rw [hy2]; exact ((Fr.refl Nob y1).alloc _).blk id hp1
            have hne : qb ≠ pb := by have := lt_of_block hp1; omega
            clear hp1
            clear hy2 hqb
            refine hK.out _ _ (Key.out _ hf2) (fun hHeld2 => ?_)
            clear hK K
            try simp only [List.getElem_toArray, List.getElem_cons_zero, List.getElem_cons_succ, Act.put, List.setIfInBounds_toArray, List.set_cons_zero, List.set_cons_succ]
            refine wpAnyH_ready (rs := [24]) (by kernel_rfl) (by simp) ?_
            refine AllReadyH.cons rfl (fun K hK => ?_) AllReadyH.nil
            · simp only [List.getElem_toArray, List.getElem_cons_zero, List.getElem_cons_succ]
              have k0 := blk_cell hp2 0 rfl
              have z0 := blk_froz hp2 0
              have k1 := blk_cell hp2 1 rfl
              have z1 := blk_froz hp2 1
              have k2 := blk_cell hp2 2 rfl
              have z2 := blk_froz hp2 2
              go_simp
              obtain ⟨y3, hy3⟩ : ∃ W, W = (((y2.setCell ⟨pb, 0, none⟩ (.pointer none)).setCell ⟨pb, 1, none⟩ (.bool s)).setCell ⟨pb, 2, none⟩ (.int .i64 y)) := ⟨_, rfl⟩
              rw [← hy3]
              have hp3 : y3.heap[pb]? = some (.cells #[.pointer none, .bool s, .int .i64 y] 29 (0, 0)) := by rw [hy3]; exact put3 hp2 _ _ _
              have hpf : Fr (fun j => j = pb) y2 y3 := by rw [hy3]; exact put3_fr _ _ _ _ _
              have hf3 : Fr Nob wo y3 := hf2.new hpf hpz
              have hq3 : y3.heap[qb]? = some (.cells #[.pointer none, .bool false, .int .i64 0] 113 (0, 0)) := hpf.blk (fun e => hne (by first | exact e | exact e.symm)) hq2
              clear hq2
              clear hy3 hpf k0 k1 k2 z0 z1 z2 hp2
              refine hK.out _ _ (Key.out _ hf3) (fun hHeld3 => ?_)
              clear hK K
              try simp only [List.getElem_toArray, List.getElem_cons_zero, List.getElem_cons_succ, Act.put, List.setIfInBounds_toArray, List.set_cons_zero, List.set_cons_succ]
              refine wpAnyH_ready (rs := [25]) (by kernel_rfl) (by simp) ?_
              refine AllReadyH.cons rfl (fun K hK => ?_) AllReadyH.nil
              · simp only [List.getElem_toArray, List.getElem_cons_zero, List.getElem_cons_succ]
                have k0 := blk_cell hq3 0 rfl
                have z0 := blk_froz hq3 0
                have k1 := blk_cell hq3 1 rfl
                have z1 := blk_froz hq3 1
                have k2 := blk_cell hq3 2 rfl
                have z2 := blk_froz hq3 2
                go_simp
                obtain ⟨y4, hy4⟩ : ∃ W, W = (((y3.setCell ⟨qb, 0, none⟩ (.pointer none)).setCell ⟨qb, 1, none⟩ (.bool s)).setCell ⟨qb, 2, none⟩ (.int .i64 y)) := ⟨_, rfl⟩
                rw [← hy4]
                have hq4 : y4.heap[qb]? = some (.cells #[.pointer none, .bool s, .int .i64 y] 113 (0, 0)) := by rw [hy4]; exact put3 hq3 _ _ _
                have hpf : Fr (fun j => j = qb) y3 y4 := by rw [hy4]; exact put3_fr _ _ _ _ _
                have hf4 : Fr Nob wo y4 := hf3.new hpf hqz
                have hp4 : y4.heap[pb]? = some (.cells #[.pointer none, .bool s, .int .i64 y] 29 (0, 0)) := hpf.blk (fun e => hne (by first | exact e | exact e.symm)) hp3
                clear hp3
                clear hy4 hpf k0 k1 k2 z0 z1 z2 hq3
                refine hK.out _ _ (Key.out _ hf4) (fun hHeld4 => ?_)
                clear hK K
                try simp only [List.getElem_toArray, List.getElem_cons_zero, List.getElem_cons_succ, Act.put, List.setIfInBounds_toArray, List.set_cons_zero, List.set_cons_succ]
                refine wpAnyH_done (by kernel_rfl) ?_ _
                try simp only [List.getElem_toArray, List.getElem_cons_zero, List.getElem_cons_succ, Act.put, List.setIfInBounds_toArray, List.set_cons_zero, List.set_cons_succ]
                have Hf9 := Lib.hid hf4; have Hp9 := Lib.hid hp4; have Hq9 := Lib.hid hq4; have Hz9 := Lib.hid (And.intro hpz hqz)
                clear hHeld
                go_wp2_with fail
                go_meet
                exact ⟨pb, qb, rfl, rfl, Hf9, Hp9, Hq9, Hz9⟩
        · simp only [List.getElem_toArray, List.getElem_cons_zero, List.getElem_cons_succ]
          go_simp
          obtain ⟨y1, hy1⟩ : ∃ W, W = y0.alloc (.cells #[.pointer none, .bool false, .int .i64 0] 113) := ⟨_, rfl⟩
          rw [← hy1]
          obtain ⟨qb, hqb⟩ : ∃ b, b = y0.heap.size := ⟨_, rfl⟩
          rw [← hqb]
          have hf1 : Fr Nob wo y1 := by rw [hy1]; exact hf0.alloc _
          have hq1 : y1.heap[qb]? = some (.cells #[.pointer none, .bool false, .int .i64 0] 113 (0, 0)) := by rw [hy1, hqb]; exact heap_alloc_new _ _
          have hqz : wo.heap.size ≤ qb := by rw [hqb]; exact hf0.size
          clear hy1 hqb
          refine hK.out _ _ (Key.out _ hf1) (fun hHeld1 => ?_)
          clear hK K
          try simp only [List.getElem_toArray, List.getElem_cons_zero, List.getElem_cons_succ, Act.put, List.setIfInBounds_toArray, List.set_cons_zero, List.set_cons_succ]
          refine wpAnyH_ready (rs := [22]) (by kernel_rfl) (by simp) ?_
          refine AllReadyH.cons rfl (fun K hK => ?_) AllReadyH.nil
          · simp only [List.getElem_toArray, List.getElem_cons_zero, List.getElem_cons_succ]
            go_simp
            obtain ⟨y2, hy2⟩ : ∃ W, W = y1.alloc (.cells #[.pointer none, .bool false, .int .i64 0] 29) := ⟨_, rfl⟩
            rw [← hy2]
            obtain ⟨pb, hpb⟩ : ∃ b, b = y1.heap.size := ⟨_, rfl⟩
            rw [← hpb]
            have hf2 : Fr Nob wo y2 := by rw [hy2]; exact hf1.alloc _
            have hp2 : y2.heap[pb]? = some (.cells #[.pointer none, .bool false, .int .i64 0] 29 (0, 0)) := by rw [hy2, hpb]; exact heap_alloc_new _ _
            have hpz : wo.heap.size ≤ pb := by rw [hpb]; exact hf1.size
            have hq2 : y2.heap[qb]? = some (.cells #[.pointer none, .bool false, .int .i64 0] 113 (0, 0)) := by rw [hy2]; exact ((Fr.refl Nob y1).alloc _).blk id hq1
            have hne : pb ≠ qb := by have := lt_of_block hq1; omega
            clear hq1
            clear hy2 hpb
            refine hK.out _ _ (Key.out _ hf2) (fun hHeld2 => ?_)
            clear hK K
            try simp only [List.getElem_toArray, List.getElem_cons_zero, List.getElem_cons_succ, Act.put, List.setIfInBounds_toArray, List.set_cons_zero, List.set_cons_succ]
            refine wpAnyH_ready (rs := [24]) (by kernel_rfl) (by simp) ?_
            refine AllReadyH.cons rfl (fun K hK => ?_) AllReadyH.nil
            · simp only [List.getElem_toArray, List.getElem_cons_zero, List.getElem_cons_succ]
              have k0 := blk_cell hp2 0 rfl
              have z0 := blk_froz hp2 0
              have k1 := blk_cell hp2 1 rfl
              have z1 := blk_froz hp2 1
              have k2 := blk_cell hp2 2 rfl
              have z2 := blk_froz hp2 2
              go_simp
              obtain ⟨y3, hy3⟩ : ∃ W, W = (((y2.setCell ⟨pb, 0, none⟩ (.pointer none)).setCell ⟨pb, 1, none⟩ (.bool s)).setCell ⟨pb, 2, none⟩ (.int .i64 y)) := ⟨_, rfl⟩
              rw [← hy3]
              have hp3 : y3.heap[pb]? = some (.cells #[.pointer none, .bool s, .int .i64 y] 29 (0, 0)) := by rw [hy3]; exact put3 hp2 _ _ _
              have hpf : Fr (fun j => j = pb) y2 y3 := by rw [hy3]; exact put3_fr _ _ _ _ _
              have hf3 : Fr Nob wo y3 := hf2.new hpf hpz
              have hq3 : y3.heap[qb]? = some (.cells #[.pointer none, .bool false, .int .i64 0] 113 (0, 0)) := hpf.blk (fun e => hne (by first | exact e | exact e.symm)) hq2
              clear hq2
              clear hy3 hpf k0 k1 k2 z0 z1 z2 hp2
              refine hK.out _ _ (Key.out _ hf3) (fun hHeld3 => ?_)
              clear hK K
              try simp only [List.getElem_toArray, List.getElem_cons_zero, List.getElem_cons_succ, Act.put, List.setIfInBounds_toArray, List.set_cons_zero, List.set_cons_succ]
              refine wpAnyH_ready (rs := [25]) (by kernel_rfl) (by simp) ?_
              refine AllReadyH.cons rfl (fun K hK => ?_) AllReadyH.nil
              · simp only [List.getElem_toArray, List.getElem_cons_zero, List.getElem_cons_succ]
                have k0 := blk_cell hq3 0 rfl
                have z0 := blk_froz hq3 0
                have k1 := blk_cell hq3 1 rfl
                have z1 := blk_froz hq3 1
                have k2 := blk_cell hq3 2 rfl
                have z2 := blk_froz hq3 2
                go_simp
                obtain ⟨y4, hy4⟩ : ∃ W, W = (((y3.setCell ⟨qb, 0, none⟩ (.pointer none)).setCell ⟨qb, 1, none⟩ (.bool s)).setCell ⟨qb, 2, none⟩ (.int .i64 y)) := ⟨_, rfl⟩
                rw [← hy4]
                have hq4 : y4.heap[qb]? = some (.cells #[.pointer none, .bool s, .int .i64 y] 113 (0, 0)) := by rw [hy4]; exact put3 hq3 _ _ _
                have hpf : Fr (fun j => j = qb) y3 y4 := by rw [hy4]; exact put3_fr _ _ _ _ _
                have hf4 : Fr Nob wo y4 := hf3.new hpf hqz
                have hp4 : y4.heap[pb]? = some (.cells #[.pointer none, .bool s, .int .i64 y] 29 (0, 0)) := hpf.blk (fun e => hne (by first | exact e | exact e.symm)) hp3
                clear hp3
                clear hy4 hpf k0 k1 k2 z0 z1 z2 hq3
                refine hK.out _ _ (Key.out _ hf4) (fun hHeld4 => ?_)
                clear hK K
                try simp only [List.getElem_toArray, List.getElem_cons_zero, List.getElem_cons_succ, Act.put, List.setIfInBounds_toArray, List.set_cons_zero, List.set_cons_succ]
                refine wpAnyH_done (by kernel_rfl) ?_ _
                try simp only [List.getElem_toArray, List.getElem_cons_zero, List.getElem_cons_succ, Act.put, List.setIfInBounds_toArray, List.set_cons_zero, List.set_cons_succ]
                have Hf9 := Lib.hid hf4; have Hp9 := Lib.hid hp4; have Hq9 := Lib.hid hq4; have Hz9 := Lib.hid (And.intro hpz hqz)
                clear hHeld
                go_wp2_with fail
                go_meet
                exact ⟨pb, qb, rfl, rfl, Hf9, Hp9, Hq9, Hz9⟩
      case rest =>
        obtain ⟨pb, qb, rfl, rfl, Hfc, Hpb, Hqb, Hz⟩ := hcut
        have e0' := Hfc.out.cell (p := ⟨g0, o0 + k * 3, none⟩) id e0
        clear e0 Key
        go_upto_region 8 with fail
        go_cut [54] from 14 to 72 (fun b wx => b = .bool (decide (0 ≤ ch ∧ ch < (q : Int))) ∧ wc = wx)
        case first =>
          by_cases h0 : ch < 0
          · have d0 : decide ((0 : Int) ≤ ch) = false := decide_eq_false (by omega)
            have d0' : ¬ (0 : Int) ≤ ch := by omega
            have dd : decide (0 ≤ ch ∧ ch < (q : Int)) = false := decide_eq_false (by omega)
            have Hd := Lib.hid dd
            clear dd
            go_wp2_with fail
            go_meet
            exact ⟨by rw [Hd.out], rfl⟩
          · have d0 : decide ((0 : Int) ≤ ch) = true := decide_eq_true (by omega)
            have d0' : (0 : Int) ≤ ch := by omega
            by_cases h1 : ch < (q : Int)
            · have d1 : decide (ch < (q : Int)) = true := decide_eq_true h1
              have dd : decide (0 ≤ ch ∧ ch < (q : Int)) = true := decide_eq_true (by omega)
              have Hd := Lib.hid dd
              clear dd
              go_wp2_with fail
              go_meet
              exact ⟨by rw [Hd.out], rfl⟩
            · have d1 : decide (ch < (q : Int)) = false := decide_eq_false h1
              have dd : decide (0 ≤ ch ∧ ch < (q : Int)) = false := decide_eq_false (by omega)
              have Hd := Lib.hid dd
              clear dd
              go_wp2_with fail
              go_meet
              exact ⟨by rw [Hd.out], rfl⟩
        case rest =>
          obtain ⟨rfl, hcc⟩ := hcut
          subst hcc
          go_upto_if 54 with fail
          go_cut [] from 14 to 72 (fun wx => Hid (Fr Nob wo wx) ∧ Hid (wx.heap[pb]? = some (.cells #[.pointer (pa B (pkO os ch)), .bool s, .int .i64 y] 29 (0, 0))) ∧ Hid (wx.heap[qb]? = some (.cells #[.pointer (pa M (pkO os ch)), .bool s, .int .i64 y] 113 (0, 0))))
          case first =>
            by_cases hch : 0 ≤ ch ∧ ch < (q : Int)
            · rw [decide_eq_true hch]
              obtain ⟨j, rfl⟩ := Int.eq_ofNat_of_zero_le hch.1
              have hjq : j < q := by omega
              have hji : (j : Int) < q := by omega
              obtain ⟨g1, o1, rfl, r1⟩ := HC.out j hjq
              obtain ⟨g2, o2, rfl, r2⟩ := HM.out j hjq
              rw [← Hin.out j] at r1 r2
              have Hfw := Lib.hid (Hf.out.trans0 Hfc.out)
              have hkey : ∀ W, Fr Nob w W → W.cell? ⟨g1, o1 + j, none⟩ = some (.pointer (pa B (pkO os (j : Int)))) ∧ W.cell? ⟨g2, o2 + j, none⟩ = some (.pointer (pa M (pkO os (j : Int)))) := fun W hW => ⟨hW.cell id r1, hW.cell id r2⟩
              have Key := Lib.hid hkey
              clear hkey r1 r2 hch
              generalize pa B (pkO os (j : Int)) = ap at *
              generalize pa M (pkO os (j : Int)) = aq at *
              go_wp2_with fail
              refine wp_region_held_drew (S := fun W => W.cell? ⟨g1, o1 + j, none⟩ = some (.pointer ap) ∧ W.cell? ⟨g2, o2 + j, none⟩ = some (.pointer aq)) (by kernel_rfl) (by exact Key.out _ Hfw.out.drew) (fun hHeld => ?_)
              refine wpAnyH_take (i := 0) (v := ?_) rfl (by kernel_rfl) (by kernel_rfl) (by kernel_rfl) (fun _ _ _ h => h) (Or.inl ⟨by rfl, ?_⟩) (by assumption) ?_
              rotate_left
              · intro w hSw; (try dsimp only at hSw); go_simp; try with_reducible rfl
              try simp only [List.getElem_toArray, List.getElem_cons_zero, List.getElem_cons_succ, Act.put, List.setIfInBounds_toArray, List.set_cons_zero, List.set_cons_succ]
              refine wpAnyH_take (i := 1) (v := ?_) rfl (by kernel_rfl) (by kernel_rfl) (by kernel_rfl) (fun _ _ _ h => h) (Or.inl ⟨by rfl, ?_⟩) (by assumption) ?_
              rotate_left
              · intro w hSw; (try dsimp only at hSw); go_simp; try with_reducible rfl
              try simp only [List.getElem_toArray, List.getElem_cons_zero, List.getElem_cons_succ, Act.put, List.setIfInBounds_toArray, List.set_cons_zero, List.set_cons_succ]
              refine wpAnyH_take (i := 2) (v := ?_) rfl (by kernel_rfl) (by kernel_rfl) (by kernel_rfl) (fun _ _ _ h => h) (Or.inl ⟨by rfl, ?_⟩) (by assumption) ?_
              rotate_left
              · intro w hSw; (try dsimp only at hSw); go_simp; try with_reducible rfl
              try simp only [List.getElem_toArray, List.getElem_cons_zero, List.getElem_cons_succ, Act.put, List.setIfInBounds_toArray, List.set_cons_zero, List.set_cons_succ]
              refine wpAnyH_take (i := 3) (v := ?_) rfl (by kernel_rfl) (by kernel_rfl) (by kernel_rfl) (fun _ _ _ h => h) (Or.inl ⟨by rfl, ?_⟩) (by assumption) ?_
              rotate_left
              · intro w hSw; (try dsimp only at hSw); go_simp; try with_reducible rfl
              try simp only [List.getElem_toArray, List.getElem_cons_zero, List.getElem_cons_succ, Act.put, List.setIfInBounds_toArray, List.set_cons_zero, List.set_cons_succ]
              refine wpAnyH_take (i := 4) (v := ?_) rfl (by kernel_rfl) (by kernel_rfl) (by kernel_rfl) (fun _ _ _ h => h) (Or.inl ⟨by rfl, ?_⟩) (by assumption) ?_
              rotate_left
              · intro w hSw; (try dsimp only at hSw); go_simp; try with_reducible rfl
              try simp only [List.getElem_toArray, List.getElem_cons_zero, List.getElem_cons_succ, Act.put, List.setIfInBounds_toArray, List.set_cons_zero, List.set_cons_succ]
              refine wpAnyH_take (i := 5) (v := ?_) rfl (by kernel_rfl) (by kernel_rfl) (by kernel_rfl) (fun _ _ _ h => h) (Or.inl ⟨by rfl, ?_⟩) (by assumption) ?_
              rotate_left
              · intro w hSw; (try dsimp only at hSw); go_simp; try with_reducible rfl
              try simp only [List.getElem_toArray, List.getElem_cons_zero, List.getElem_cons_succ, Act.put, List.setIfInBounds_toArray, List.set_cons_zero, List.set_cons_succ]
              refine wpAnyH_take (i := 6) (v := ?_) rfl (by kernel_rfl) (by kernel_rfl) (by kernel_rfl) (fun _ _ _ h => h) (Or.inl ⟨by rfl, ?_⟩) (by assumption) ?_
              rotate_left
              · intro w hSw; (try dsimp only at hSw); go_simp; try with_reducible rfl
              try simp only [List.getElem_toArray, List.getElem_cons_zero, List.getElem_cons_succ, Act.put, List.setIfInBounds_toArray, List.set_cons_zero, List.set_cons_succ]
              refine wpAnyH_take (i := 7) (v := ?_) rfl (by kernel_rfl) (by kernel_rfl) (by kernel_rfl) (fun _ _ _ h => h) (Or.inl ⟨by rfl, ?_⟩) (by assumption) ?_
              rotate_left
              · intro w hSw; (try dsimp only at hSw); go_simp; try with_reducible rfl
              try simp only [List.getElem_toArray, List.getElem_cons_zero, List.getElem_cons_succ, Act.put, List.setIfInBounds_toArray, List.set_cons_zero, List.set_cons_succ]
              refine wpAnyH_take (i := 8) (v := ?_) rfl (by kernel_rfl) (by kernel_rfl) (by kernel_rfl) (fun _ _ _ h => h) (Or.inl ⟨by rfl, ?_⟩) (by assumption) ?_
              rotate_left
              · intro w hSw; (try dsimp only at hSw); go_simp; try with_reducible rfl
              try simp only [List.getElem_toArray, List.getElem_cons_zero, List.getElem_cons_succ, Act.put, List.setIfInBounds_toArray, List.set_cons_zero, List.set_cons_succ]
              obtain ⟨y0, hy0⟩ : ∃ W, W = wc.drew := ⟨_, rfl⟩
              rw [← hy0] at hHeld ⊢
              have hf0 : Fr Nob wo y0 := by rw [hy0]; exact Hfc.out.drew
              have hp0 : y0.heap[pb]? = some (.cells #[.pointer none, .bool s, .int .i64 y] 29 (0, 0)) := by rw [hy0]; exact Hpb.out
              have hq0 : y0.heap[qb]? = some (.cells #[.pointer none, .bool s, .int .i64 y] 113 (0, 0)) := by rw [hy0]; exact Hqb.out
              have hne : pb ≠ qb := fun e => by subst e; rw [hp0] at hq0; cases hq0
              have hpz := Hz.out.1; have hqz := Hz.out.2
              clear hy0
              refine wpAnyH_ready (rs := [9]) (by kernel_rfl) (by simp) ?_
              refine AllReadyH.cons rfl (fun K hK => ?_) AllReadyH.nil
              · simp only [List.getElem_toArray, List.getElem_cons_zero, List.getElem_cons_succ]
                have k0 := blk_cell hp0 0 rfl
                have z0 := blk_froz hp0 0
                go_simp
                obtain ⟨y1, hy1⟩ : ∃ W, W = y0.setCell ⟨pb, 0, none⟩ (.pointer ap) := ⟨_, rfl⟩
                rw [← hy1]
                have hp1 : y1.heap[pb]? = some (.cells #[.pointer ap, .bool s, .int .i64 y] 29 (0, 0)) := by rw [hy1]; exact blk_set hp0 0 _
                have hpf : Fr (fun j => j = pb) y0 y1 := by rw [hy1]; exact (Fr.refl (fun j => j = pb) y0).setB 0 _
                have hf1 : Fr Nob wo y1 := hf0.new hpf hpz
                have hq1 : y1.heap[qb]? = some (.cells #[.pointer none, .bool s, .int .i64 y] 113 (0, 0)) := hpf.blk (fun e => hne (by first | exact e | exact e.symm)) hq0
                clear hy1 hpf k0 z0 hp0 hq0
                refine hK.out _ _ (Key.out _ (Hf.out.trans0 hf1)) (fun hHeld1 => ?_)
                clear hK K
                try simp only [List.getElem_toArray, List.getElem_cons_zero, List.getElem_cons_succ, Act.put, List.setIfInBounds_toArray, List.set_cons_zero, List.set_cons_succ]
                refine wpAnyH_take (i := 10) (v := ?_) rfl (by kernel_rfl) (by kernel_rfl) (by kernel_rfl) (fun _ _ _ h => h) (Or.inl ⟨by rfl, ?_⟩) (by assumption) ?_
                rotate_left
                · intro w hSw; (try dsimp only at hSw); go_simp; try with_reducible rfl
                try simp only [List.getElem_toArray, List.getElem_cons_zero, List.getElem_cons_succ, Act.put, List.setIfInBounds_toArray, List.set_cons_zero, List.set_cons_succ]
                refine wpAnyH_ready (rs := [11]) (by kernel_rfl) (by simp) ?_
                refine AllReadyH.cons rfl (fun K hK => ?_) AllReadyH.nil
                · simp only [List.getElem_toArray, List.getElem_cons_zero, List.getElem_cons_succ]
                  have k0 := blk_cell hq1 0 rfl
                  have z0 := blk_froz hq1 0
                  go_simp
                  obtain ⟨y2, hy2⟩ : ∃ W, W = y1.setCell ⟨qb, 0, none⟩ (.pointer aq) := ⟨_, rfl⟩
                  rw [← hy2]
                  have hq2 : y2.heap[qb]? = some (.cells #[.pointer aq, .bool s, .int .i64 y] 113 (0, 0)) := by rw [hy2]; exact blk_set hq1 0 _
                  have hpf : Fr (fun j => j = qb) y1 y2 := by rw [hy2]; exact (Fr.refl (fun j => j = qb) y1).setB 0 _
                  have hf2 : Fr Nob wo y2 := hf1.new hpf hqz
                  have hp2 : y2.heap[pb]? = some (.cells #[.pointer ap, .bool s, .int .i64 y] 29 (0, 0)) := hpf.blk (fun e => hne (by first | exact e | exact e.symm)) hp1
                  clear hy2 hpf k0 z0 hq1 hp1
                  refine hK.out _ _ (Key.out _ (Hf.out.trans0 hf2)) (fun hHeld2 => ?_)
                  clear hK K
                  try simp only [List.getElem_toArray, List.getElem_cons_zero, List.getElem_cons_succ, Act.put, List.setIfInBounds_toArray, List.set_cons_zero, List.set_cons_succ]
                  refine wpAnyH_done (by kernel_rfl) ?_ _
                  try simp only [List.getElem_toArray, List.getElem_cons_zero, List.getElem_cons_succ, Act.put, List.setIfInBounds_toArray, List.set_cons_zero, List.set_cons_succ]
                  have Hf9 := Lib.hid hf2; have Hp9 := Lib.hid hp2; have Hq9 := Lib.hid hq2
                  clear hHeld
                  go_wp2_with fail
                  go_meet
                  exact ⟨Hf9, Hp9, Hq9⟩
            · rw [decide_eq_false hch]
              have ho := Lib.hid (Hout.out ch (by omega))
              have HpN : Hid (wc.heap[pb]? = some (.cells #[.pointer (pa B (pkO os ch)), .bool s, .int .i64 y] 29 (0, 0))) := by rw [ho.out]; exact Hpb
              have HqN : Hid (wc.heap[qb]? = some (.cells #[.pointer (pa M (pkO os ch)), .bool s, .int .i64 y] 113 (0, 0))) := by rw [ho.out]; exact Hqb
              clear hch
              go_wp2_with fail
              go_meet
              exact ⟨Hfc, HpN, HqN⟩
          case rest =>
            obtain ⟨Hfc2, Hpb2, Hqb2⟩ := hcut
            clear Hfc Hpb Hqb HC HM Hout Hin e0'
            go_upto_region 10 with fail
            generalize hap : pa B (pkO os ch) = ap at *
            generalize haq : pa M (pkO os ch) = aq at *
            clear hap haq
            have hkey : ∀ W, Fr (fun j => w.heap.size ≤ j ∧ j < wo.heap.size) wc W → W.cell? ⟨pb, 0, none⟩ = some (.pointer ap) ∧ W.cell? ⟨pb, 1, none⟩ = some (.bool s) ∧ W.cell? ⟨pb, 2, none⟩ = some (.int .i64 y) ∧ W.cell? ⟨qb, 0, none⟩ = some (.pointer aq) ∧ W.cell? ⟨qb, 1, none⟩ = some (.bool s) ∧ W.cell? ⟨qb, 2, none⟩ = some (.int .i64 y) := fun W hW => by
              have hz := Hz.out
              have hp := hW.blk (k := pb) (fun e => by have := e.2; omega) Hpb2.out
              have hq := hW.blk (k := qb) (fun e => by have := e.2; omega) Hqb2.out
              exact ⟨blk_cell hp 0 rfl, blk_cell hp 1 rfl, blk_cell hp 2 rfl, blk_cell hq 0 rfl, blk_cell hq 1 rfl, blk_cell hq 2 rfl⟩
            have Key := Lib.hid hkey
            clear hkey
            refine wp_region_held_drew (S := fun W => W.cell? ⟨pb, 0, none⟩ = some (.pointer ap) ∧ W.cell? ⟨pb, 1, none⟩ = some (.bool s) ∧ W.cell? ⟨pb, 2, none⟩ = some (.int .i64 y) ∧ W.cell? ⟨qb, 0, none⟩ = some (.pointer aq) ∧ W.cell? ⟨qb, 1, none⟩ = some (.bool s) ∧ W.cell? ⟨qb, 2, none⟩ = some (.int .i64 y)) (by kernel_rfl) (by exact Key.out _ ((Fr.refl _ wc).drew)) (fun hHeld => ?_)
            refine wpAnyH_take (i := 0) (v := ?_) rfl (by kernel_rfl) (by kernel_rfl) (by kernel_rfl) (fun _ _ _ h => h) (Or.inl ⟨by rfl, ?_⟩) (by assumption) ?_
            rotate_left
            · intro w hSw; (try dsimp only at hSw); go_simp; try with_reducible rfl
            try simp only [List.getElem_toArray, List.getElem_cons_zero, List.getElem_cons_succ, Act.put, List.setIfInBounds_toArray, List.set_cons_zero, List.set_cons_succ]
            refine wpAnyH_take (i := 1) (v := ?_) rfl (by kernel_rfl) (by kernel_rfl) (by kernel_rfl) (fun _ _ _ h => h) (Or.inl ⟨by rfl, ?_⟩) (by assumption) ?_
            rotate_left
            · intro w hSw; (try dsimp only at hSw); go_simp; try with_reducible rfl
            try simp only [List.getElem_toArray, List.getElem_cons_zero, List.getElem_cons_succ, Act.put, List.setIfInBounds_toArray, List.set_cons_zero, List.set_cons_succ]
            refine wpAnyH_take (i := 4) (v := ?_) rfl (by kernel_rfl) (by kernel_rfl) (by kernel_rfl) (fun _ _ _ h => h) (Or.inl ⟨by rfl, ?_⟩) (by assumption) ?_
            rotate_left
            · intro w hSw; (try dsimp only at hSw); go_simp; try with_reducible rfl
            try simp only [List.getElem_toArray, List.getElem_cons_zero, List.getElem_cons_succ, Act.put, List.setIfInBounds_toArray, List.set_cons_zero, List.set_cons_succ]
            refine wpAnyH_take (i := 5) (v := ?_) rfl (by kernel_rfl) (by kernel_rfl) (by kernel_rfl) (fun _ _ _ h => h) (Or.inl ⟨by rfl, ?_⟩) (by assumption) ?_
            rotate_left
            · intro w hSw; (try dsimp only at hSw); go_simp; try with_reducible rfl
            try simp only [List.getElem_toArray, List.getElem_cons_zero, List.getElem_cons_succ, Act.put, List.setIfInBounds_toArray, List.set_cons_zero, List.set_cons_succ]
            obtain ⟨y0, hy0⟩ : ∃ W, W = wc.drew := ⟨_, rfl⟩
            rw [← hy0] at hHeld ⊢
            have hf0 : Fr (fun j => w.heap.size ≤ j ∧ j < wo.heap.size) wc y0 := by rw [hy0]; exact (Fr.refl _ wc).drew
            have hg0 : Fr Nob wo y0 := by rw [hy0]; exact Hfc2.out.drew
            have hwz : w.heap.size ≤ wo.heap.size := Hf.out.size
            have hX0 : Sl y0 (fun j => w.heap.size ≤ j ∧ j < wo.heap.size) 29 3 (.slice A1 k c1) k (css B (cl.take k)) := (Hs1.out.mono fun j hj q => ⟨q, hj⟩).fr hg0 fun _ _ q => q
            have hY0 : Sl y0 (fun j => w.heap.size ≤ j ∧ j < wo.heap.size) 113 3 (.slice A2 k c2) k (css M (cl.take k)) := (Hs2.out.mono fun j hj q => ⟨q, hj⟩).fr hg0 fun _ _ q => q
            have hb24 : (k + 1) * 24 ≤ 140737488355328 := by omega
            have hyz0 : wo.heap.size ≤ y0.heap.size := hg0.size
            clear hy0 hg0
            refine wpAnyH_ready (rs := [2, 6]) (by kernel_rfl) (by simp) ?_
            refine AllReadyH.cons rfl (fun K hK => ?_) (AllReadyH.cons rfl (fun K hK => ?_) AllReadyH.nil)
            · simp only [List.getElem_toArray, List.getElem_cons_zero, List.getElem_cons_succ]
              go_simp
              obtain ⟨y1, hy1⟩ : ∃ W, W = y0.alloc (.cells #[.pointer ap, .bool s, .int .i64 y] 29) := ⟨_, rfl⟩
              rw [← hy1]
              obtain ⟨xb, hxb⟩ : ∃ b, b = y0.heap.size := ⟨_, rfl⟩
              rw [← hxb]
              have hlx1 : y1.heap[xb]? = some (.cells #[.pointer ap, .bool s, .int .i64 y] 29 (0, 0)) := by rw [hy1, hxb]; exact heap_alloc_new _ _
              have hfn : Fr Nob y0 y1 := by rw [hy1]; exact (Fr.refl Nob _).alloc _
              have hf1 : Fr (fun j => w.heap.size ≤ j ∧ j < wo.heap.size) wc y1 := by rw [hy1]; exact hf0.alloc _
              have hyz1 : wo.heap.size ≤ y1.heap.size := Nat.le_trans hyz0 hfn.size
              have hxz : wo.heap.size ≤ xb := by rw [hxb]; exact hyz0
              have hX1 := hX0.fr hfn fun _ _ q => q
              have hY1 := hY0.fr hfn fun _ _ q => q
              clear hy1 hxb hfn hX0 hY0
              refine hK.out _ _ (Key.out _ hf1) (fun hHeld1 => ?_)
              clear hK K hf0 hyz0
              try simp only [List.getElem_toArray, List.getElem_cons_zero, List.getElem_cons_succ, Act.put, List.setIfInBounds_toArray, List.set_cons_zero, List.set_cons_succ]
              refine wpAnyH_ready (rs := [3, 6]) (by kernel_rfl) (by simp) ?_
              refine AllReadyH.cons rfl (fun K hK => ?_) (AllReadyH.cons rfl (fun K hK => ?_) AllReadyH.nil)
              · refine step_append_sl y1 rfl _ _ _ rfl (fun j => (w.heap.size ≤ j ∧ j < wo.heap.size) ∧ ∃ blk, y1.heap[j]? = some (.cells blk 29 (0, 0))) 29 _ 3 24 Try.underlying23 info_caseA rfl (by decide) (.slice A1 k c1) k (css B (cl.take k)) rfl hX1.typed ⟨xb, 0, none⟩ 1 1 [.pointer ap, .bool s, .int .i64 y] rfl rfl (lit_cells3 hlx1) rfl hb24 (by decide) ?_
                intro v2 y2 hs2 hfn
                obtain ⟨Ax, cx, rfl⟩ := hs2.slice
                have hX2 : Sl y2 (From w.heap.size) 29 3 (.slice Ax (k + 1) cx) (k + 1) (css B (cl.take k) ++ [.pointer ap, .bool s, .int .i64 y]) := hs2.mono fun j _ q => by
                  rcases q with q | q
                  · exact q.1.1
                  · unfold From; omega
                have hY2 := hY1.pass hfn (by decide)
                have hf2 : Fr (fun j => w.heap.size ≤ j ∧ j < wo.heap.size) wc y2 := hf1.trans hfn fun j _ q => q.1
                have hyz2 : wo.heap.size ≤ y2.heap.size := Nat.le_trans hyz1 hfn.size
                clear hs2 hfn hX1 hY1 hlx1
                refine hK.out _ _ (Key.out _ hf2) (fun hHeld2 => ?_)
                clear hK K hf1 hyz1
                try simp only [List.getElem_toArray, List.getElem_cons_zero, List.getElem_cons_succ, Act.put, List.setIfInBounds_toArray, List.set_cons_zero, List.set_cons_succ]
                refine wpAnyH_ready (rs := [6]) (by kernel_rfl) (by simp) ?_
                refine AllReadyH.cons rfl (fun K hK => ?_) AllReadyH.nil
                · simp only [List.getElem_toArray, List.getElem_cons_zero, List.getElem_cons_succ]
                  go_simp
                  obtain ⟨y3, hy3⟩ : ∃ W, W = y2.alloc (.cells #[.pointer aq, .bool s, .int .i64 y] 113) := ⟨_, rfl⟩
                  rw [← hy3]
                  obtain ⟨yb, hyb⟩ : ∃ b, b = y2.heap.size := ⟨_, rfl⟩
                  rw [← hyb]
                  have hly3 : y3.heap[yb]? = some (.cells #[.pointer aq, .bool s, .int .i64 y] 113 (0, 0)) := by rw [hy3, hyb]; exact heap_alloc_new _ _
                  have hfn : Fr Nob y2 y3 := by rw [hy3]; exact (Fr.refl Nob _).alloc _
                  have hf3 : Fr (fun j => w.heap.size ≤ j ∧ j < wo.heap.size) wc y3 := by rw [hy3]; exact hf2.alloc _
                  have hyz3 : wo.heap.size ≤ y3.heap.size := Nat.le_trans hyz2 hfn.size
                  have hyz : wo.heap.size ≤ yb := by rw [hyb]; exact hyz2
                  have hX3 := hX2.fr hfn fun _ _ q => q
                  have hY3 := hY2.fr hfn fun _ _ q => q
                  clear hy3 hyb hfn hX2 hY2
                  refine hK.out _ _ (Key.out _ hf3) (fun hHeld3 => ?_)
                  clear hK K hf2 hyz2
                  try simp only [List.getElem_toArray, List.getElem_cons_zero, List.getElem_cons_succ, Act.put, List.setIfInBounds_toArray, List.set_cons_zero, List.set_cons_succ]
                  refine wpAnyH_ready (rs := [7]) (by kernel_rfl) (by simp) ?_
                  refine AllReadyH.cons rfl (fun K hK => ?_) AllReadyH.nil
                  · refine step_append_sl y3 rfl _ _ _ rfl (fun j => (w.heap.size ≤ j ∧ j < wo.heap.size) ∧ ∃ blk, y3.heap[j]? = some (.cells blk 113 (0, 0))) 113 _ 3 24 Try.underlying66 info_caseB rfl (by decide) (.slice A2 k c2) k (css M (cl.take k)) rfl hY3.typed ⟨yb, 0, none⟩ 1 1 [.pointer aq, .bool s, .int .i64 y] rfl rfl (lit_cells3 hly3) rfl hb24 (by decide) ?_
                    intro v4 y4 hs4 hfn
                    obtain ⟨Ay, cy, rfl⟩ := hs4.slice
                    have hY4 : Sl y4 (From w.heap.size) 113 3 (.slice Ay (k + 1) cy) (k + 1) (css M (cl.take k) ++ [.pointer aq, .bool s, .int .i64 y]) := hs4.mono fun j _ q => by
                      rcases q with q | q
                      · exact q.1.1
                      · unfold From; omega
                    have hX4 := hX3.pass hfn (by decide)
                    have hf4 : Fr (fun j => w.heap.size ≤ j ∧ j < wo.heap.size) wc y4 := hf3.trans hfn fun j _ q => q.1
                    have hyz4 : wo.heap.size ≤ y4.heap.size := Nat.le_trans hyz3 hfn.size
                    clear hs4 hfn hX3 hY3 hly3
                    refine hK.out _ _ (Key.out _ hf4) (fun hHeld4 => ?_)
                    clear hK K hf3 hyz3
                    try simp only [List.getElem_toArray, List.getElem_cons_zero, List.getElem_cons_succ, Act.put, List.setIfInBounds_toArray, List.set_cons_zero, List.set_cons_succ]
                    refine wpAnyH_take (i := 8) (v := ?_) rfl (by kernel_rfl) (by kernel_rfl) (by kernel_rfl) (fun _ _ _ h => h) (Or.inl ⟨by rfl, ?_⟩) (by assumption) ?_
                    rotate_left
                    · intro w hSw; (try dsimp only at hSw); go_simp; try with_reducible rfl
                    try simp only [List.getElem_toArray, List.getElem_cons_zero, List.getElem_cons_succ, Act.put, List.setIfInBounds_toArray, List.set_cons_zero, List.set_cons_succ]
                    refine wpAnyH_take (i := 9) (v := ?_) rfl (by kernel_rfl) (by kernel_rfl) (by kernel_rfl) (fun _ _ _ h => h) (Or.inl ⟨by rfl, ?_⟩) (by assumption) ?_
                    rotate_left
                    · intro w hSw; (try dsimp only at hSw); go_simp; try with_reducible rfl
                    try simp only [List.getElem_toArray, List.getElem_cons_zero, List.getElem_cons_succ, Act.put, List.setIfInBounds_toArray, List.set_cons_zero, List.set_cons_succ]
                    refine wpAnyH_done (by kernel_rfl) ?_ _
                    try simp only [List.getElem_toArray, List.getElem_cons_zero, List.getElem_cons_succ, Act.put, List.setIfInBounds_toArray, List.set_cons_zero, List.set_cons_succ]
                    have Hf9 : Hid (Fr Nob w y4) := (Hf.out.trans0 Hfc2.out).trans hf4 fun j hj q => by have := q.1; omega
                    have Hx9 : Hid (Sl y4 (From w.heap.size) 29 3 (.slice Ax (k + 1) cx) (k + 1) (css B (cl.take (k + 1)))) := by rw [Hsx.out.1]; exact hX4
                    have Hy9 : Hid (Sl y4 (From w.heap.size) 113 3 (.slice Ay (k + 1) cy) (k + 1) (css M (cl.take (k + 1)))) := by rw [Hsx.out.2]; exact hY4
                    clear hHeld Hsx hX4 hY4 Key
                    go_wp2_with fail
                    first
                    | (go_roundw
                       case rel => exact ⟨k + 1, Ax, Ay, cx, cy, rfl, rfl, by go_num, by omega, Hf9, Hx9, Hy9⟩
                       case measure => (simp [intOf] <;> omega))
                    | (refine ⟨?_, ?measure2⟩
                       (repeat apply Exists.intro)
                       refine ⟨?rel2, rfl⟩
                       case rel2 => exact ⟨k + 1, Ax, Ay, cx, cy, rfl, rfl, by go_num, by omega, Hf9, Hx9, Hy9⟩
                       case measure2 => (simp [intOf] <;> omega))
              · simp only [List.getElem_toArray, List.getElem_cons_zero, List.getElem_cons_succ]
                go_simp
                obtain ⟨y2, hy2⟩ : ∃ W, W = y1.alloc (.cells #[.pointer aq, .bool s, .int .i64 y] 113) := ⟨_, rfl⟩
                rw [← hy2]
                obtain ⟨yb, hyb⟩ : ∃ b, b = y1.heap.size := ⟨_, rfl⟩
                rw [← hyb]
                have hly2 : y2.heap[yb]? = some (.cells #[.pointer aq, .bool s, .int .i64 y] 113 (0, 0)) := by rw [hy2, hyb]; exact heap_alloc_new _ _
                have hfn : Fr Nob y1 y2 := by rw [hy2]; exact (Fr.refl Nob _).alloc _
                have hf2 : Fr (fun j => w.heap.size ≤ j ∧ j < wo.heap.size) wc y2 := by rw [hy2]; exact hf1.alloc _
                have hyz2 : wo.heap.size ≤ y2.heap.size := Nat.le_trans hyz1 hfn.size
                have hyz : wo.heap.size ≤ yb := by rw [hyb]; exact hyz1
                have hX2 := hX1.fr hfn fun _ _ q => q
                have hY2 := hY1.fr hfn fun _ _ q => q
                have hlx2 : y2.heap[xb]? = some (.cells #[.pointer ap, .bool s, .int .i64 y] 29 (0, 0)) := hfn.blk id hlx1
                clear hlx1
                clear hy2 hyb hfn hX1 hY1
                refine hK.out _ _ (Key.out _ hf2) (fun hHeld2 => ?_)
                clear hK K hf1 hyz1
                try simp only [List.getElem_toArray, List.getElem_cons_zero, List.getElem_cons_succ, Act.put, List.setIfInBounds_toArray, List.set_cons_zero, List.set_cons_succ]
                refine wpAnyH_ready (rs := [3]) (by kernel_rfl) (by simp) ?_
                refine AllReadyH.cons rfl (fun K hK => ?_) AllReadyH.nil
                · refine step_append_sl y2 rfl _ _ _ rfl (fun j => (w.heap.size ≤ j ∧ j < wo.heap.size) ∧ ∃ blk, y2.heap[j]? = some (.cells blk 29 (0, 0))) 29 _ 3 24 Try.underlying23 info_caseA rfl (by decide) (.slice A1 k c1) k (css B (cl.take k)) rfl hX2.typed ⟨xb, 0, none⟩ 1 1 [.pointer ap, .bool s, .int .i64 y] rfl rfl (lit_cells3 hlx2) rfl hb24 (by decide) ?_
                  intro v3 y3 hs3 hfn
                  obtain ⟨Ax, cx, rfl⟩ := hs3.slice
                  have hX3 : Sl y3 (From w.heap.size) 29 3 (.slice Ax (k + 1) cx) (k + 1) (css B (cl.take k) ++ [.pointer ap, .bool s, .int .i64 y]) := hs3.mono fun j _ q => by
                    rcases q with q | q
                    · exact q.1.1
                    · unfold From; omega
                  have hY3 := hY2.pass hfn (by decide)
                  have hf3 : Fr (fun j => w.heap.size ≤ j ∧ j < wo.heap.size) wc y3 := hf2.trans hfn fun j _ q => q.1
                  have hyz3 : wo.heap.size ≤ y3.heap.size := Nat.le_trans hyz2 hfn.size
                  have hly3 : y3.heap[yb]? = some (.cells #[.pointer aq, .bool s, .int .i64 y] 113 (0, 0)) := hfn.blk (fun e => by have := e.1.2; omega) hly2
                  clear hly2
                  clear hs3 hfn hX2 hY2 hlx2
                  refine hK.out _ _ (Key.out _ hf3) (fun hHeld3 => ?_)
                  clear hK K hf2 hyz2
                  try simp only [List.getElem_toArray, List.getElem_cons_zero, List.getElem_cons_succ, Act.put, List.setIfInBounds_toArray, List.set_cons_zero, List.set_cons_succ]
                  refine wpAnyH_ready (rs := [7]) (by kernel_rfl) (by simp) ?_
                  refine AllReadyH.cons rfl (fun K hK => ?_) AllReadyH.nil
                  · refine step_append_sl y3 rfl _ _ _ rfl (fun j => (w.heap.size ≤ j ∧ j < wo.heap.size) ∧ ∃ blk, y3.heap[j]? = some (.cells blk 113 (0, 0))) 113 _ 3 24 Try.underlying66 info_caseB rfl (by decide) (.slice A2 k c2) k (css M (cl.take k)) rfl hY3.typed ⟨yb, 0, none⟩ 1 1 [.pointer aq, .bool s, .int .i64 y] rfl rfl (lit_cells3 hly3) rfl hb24 (by decide) ?_
                    intro v4 y4 hs4 hfn
                    obtain ⟨Ay, cy, rfl⟩ := hs4.slice
                    have hY4 : Sl y4 (From w.heap.size) 113 3 (.slice Ay (k + 1) cy) (k + 1) (css M (cl.take k) ++ [.pointer aq, .bool s, .int .i64 y]) := hs4.mono fun j _ q => by
                      rcases q with q | q
                      · exact q.1.1
                      · unfold From; omega
                    have hX4 := hX3.pass hfn (by decide)
                    have hf4 : Fr (fun j => w.heap.size ≤ j ∧ j < wo.heap.size) wc y4 := hf3.trans hfn fun j _ q => q.1
                    have hyz4 : wo.heap.size ≤ y4.heap.size := Nat.le_trans hyz3 hfn.size
                    clear hs4 hfn hX3 hY3 hly3
                    refine hK.out _ _ (Key.out _ hf4) (fun hHeld4 => ?_)
                    clear hK K hf3 hyz3
                    try simp only [List.getElem_toArray, List.getElem_cons_zero, List.getElem_cons_succ, Act.put, List.setIfInBounds_toArray, List.set_cons_zero, List.set_cons_succ]
                    refine wpAnyH_take (i := 8) (v := ?_) rfl (by kernel_rfl) (by kernel_rfl) (by kernel_rfl) (fun _ _ _ h => h) (Or.inl ⟨by rfl, ?_⟩) (by assumption) ?_
                    rotate_left
                    · intro w hSw; (try dsimp only at hSw); go_simp; try with_reducible rfl
                    try simp only [List.getElem_toArray, List.getElem_cons_zero, List.getElem_cons_succ, Act.put, List.setIfInBounds_toArray, List.set_cons_zero, List.set_cons_succ]
                    refine wpAnyH_take (i := 9) (v := ?_) rfl (by kernel_rfl) (by kernel_rfl) (by kernel_rfl) (fun _ _ _ h => h) (Or.inl ⟨by rfl, ?_⟩) (by assumption) ?_
                    rotate_left
                    · intro w hSw; (try dsimp only at hSw); go_simp; try with_reducible rfl
                    try simp only [List.getElem_toArray, List.getElem_cons_zero, List.getElem_cons_succ, Act.put, List.setIfInBounds_toArray, List.set_cons_zero, List.set_cons_succ]
                    refine wpAnyH_done (by kernel_rfl) ?_ _
                    try simp only [List.getElem_toArray, List.getElem_cons_zero, List.getElem_cons_succ, Act.put, List.setIfInBounds_toArray, List.set_cons_zero, List.set_cons_succ]
                    have Hf9 : Hid (Fr Nob w y4) := (Hf.out.trans0 Hfc2.out).trans hf4 fun j hj q => by have := q.1; omega
                    have Hx9 : Hid (Sl y4 (From w.heap.size) 29 3 (.slice Ax (k + 1) cx) (k + 1) (css B (cl.take (k + 1)))) := by rw [Hsx.out.1]; exact hX4
                    have Hy9 : Hid (Sl y4 (From w.heap.size) 113 3 (.slice Ay (k + 1) cy) (k + 1) (css M (cl.take (k + 1)))) := by rw [Hsx.out.2]; exact hY4
                    clear hHeld Hsx hX4 hY4 Key
                    go_wp2_with fail
                    first
                    | (go_roundw
                       case rel => exact ⟨k + 1, Ax, Ay, cx, cy, rfl, rfl, by go_num, by omega, Hf9, Hx9, Hy9⟩
                       case measure => (simp [intOf] <;> omega))
                    | (refine ⟨?_, ?measure2⟩
                       (repeat apply Exists.intro)
                       refine ⟨?rel2, rfl⟩
                       case rel2 => exact ⟨k + 1, Ax, Ay, cx, cy, rfl, rfl, by go_num, by omega, Hf9, Hx9, Hy9⟩
                       case measure2 => (simp [intOf] <;> omega))
            · simp only [List.getElem_toArray, List.getElem_cons_zero, List.getElem_cons_succ]
              go_simp
              obtain ⟨y1, hy1⟩ : ∃ W, W = y0.alloc (.cells #[.pointer aq, .bool s, .int .i64 y] 113) := ⟨_, rfl⟩
              rw [← hy1]
              obtain ⟨yb, hyb⟩ : ∃ b, b = y0.heap.size := ⟨_, rfl⟩
              rw [← hyb]
              have hly1 : y1.heap[yb]? = some (.cells #[.pointer aq, .bool s, .int .i64 y] 113 (0, 0)) := by rw [hy1, hyb]; exact heap_alloc_new _ _
              have hfn : Fr Nob y0 y1 := by rw [hy1]; exact (Fr.refl Nob _).alloc _
              have hf1 : Fr (fun j => w.heap.size ≤ j ∧ j < wo.heap.size) wc y1 := by rw [hy1]; exact hf0.alloc _
              have hyz1 : wo.heap.size ≤ y1.heap.size := Nat.le_trans hyz0 hfn.size
              have hyz : wo.heap.size ≤ yb := by rw [hyb]; exact hyz0
              have hX1 := hX0.fr hfn fun _ _ q => q
              have hY1 := hY0.fr hfn fun _ _ q => q
              clear hy1 hyb hfn hX0 hY0
              refine hK.out _ _ (Key.out _ hf1) (fun hHeld1 => ?_)
              clear hK K hf0 hyz0
              try simp only [List.getElem_toArray, List.getElem_cons_zero, List.getElem_cons_succ, Act.put, List.setIfInBounds_toArray, List.set_cons_zero, List.set_cons_succ]
              refine wpAnyH_ready (rs := [2]) (by kernel_rfl) (by simp) ?_
              refine AllReadyH.cons rfl (fun K hK => ?_) AllReadyH.nil
              · simp only [List.getElem_toArray, List.getElem_cons_zero, List.getElem_cons_succ]
                go_simp
                obtain ⟨y2, hy2⟩ : ∃ W, W = y1.alloc (.cells #[.pointer ap, .bool s, .int .i64 y] 29) := ⟨_, rfl⟩
                rw [← hy2]
                obtain ⟨xb, hxb⟩ : ∃ b, b = y1.heap.size := ⟨_, rfl⟩
                rw [← hxb]
                have hlx2 : y2.heap[xb]? = some (.cells #[.pointer ap, .bool s, .int .i64 y] 29 (0, 0)) := by rw [hy2, hxb]; exact heap_alloc_new _ _
                have hfn : Fr Nob y1 y2 := by rw [hy2]; exact (Fr.refl Nob _).alloc _
                have hf2 : Fr (fun j => w.heap.size ≤ j ∧ j < wo.heap.size) wc y2 := by rw [hy2]; exact hf1.alloc _
                have hyz2 : wo.heap.size ≤ y2.heap.size := Nat.le_trans hyz1 hfn.size
                have hxz : wo.heap.size ≤ xb := by rw [hxb]; exact hyz1
                have hX2 := hX1.fr hfn fun _ _ q => q
                have hY2 := hY1.fr hfn fun _ _ q => q
                have hly2 : y2.heap[yb]? = some (.cells #[.pointer aq, .bool s, .int .i64 y] 113 (0, 0)) := hfn.blk id hly1
                clear hly1
                clear hy2 hxb hfn hX1 hY1
                refine hK.out _ _ (Key.out _ hf2) (fun hHeld2 => ?_)
                clear hK K hf1 hyz1
                try simp only [List.getElem_toArray, List.getElem_cons_zero, List.getElem_cons_succ, Act.put, List.setIfInBounds_toArray, List.set_cons_zero, List.set_cons_succ]
                refine wpAnyH_ready (rs := [3]) (by kernel_rfl) (by simp) ?_
                refine AllReadyH.cons rfl (fun K hK => ?_) AllReadyH.nil
                · refine step_append_sl y2 rfl _ _ _ rfl (fun j => (w.heap.size ≤ j ∧ j < wo.heap.size) ∧ ∃ blk, y2.heap[j]? = some (.cells blk 29 (0, 0))) 29 _ 3 24 Try.underlying23 info_caseA rfl (by decide) (.slice A1 k c1) k (css B (cl.take k)) rfl hX2.typed ⟨xb, 0, none⟩ 1 1 [.pointer ap, .bool s, .int .i64 y] rfl rfl (lit_cells3 hlx2) rfl hb24 (by decide) ?_
                  intro v3 y3 hs3 hfn
                  obtain ⟨Ax, cx, rfl⟩ := hs3.slice
                  have hX3 : Sl y3 (From w.heap.size) 29 3 (.slice Ax (k + 1) cx) (k + 1) (css B (cl.take k) ++ [.pointer ap, .bool s, .int .i64 y]) := hs3.mono fun j _ q => by
                    rcases q with q | q
                    · exact q.1.1
                    · unfold From; omega
                  have hY3 := hY2.pass hfn (by decide)
                  have hf3 : Fr (fun j => w.heap.size ≤ j ∧ j < wo.heap.size) wc y3 := hf2.trans hfn fun j _ q => q.1
                  have hyz3 : wo.heap.size ≤ y3.heap.size := Nat.le_trans hyz2 hfn.size
                  have hly3 : y3.heap[yb]? = some (.cells #[.pointer aq, .bool s, .int .i64 y] 113 (0, 0)) := hfn.blk (fun e => by have := e.1.2; omega) hly2
                  clear hly2
                  clear hs3 hfn hX2 hY2 hlx2
                  refine hK.out _ _ (Key.out _ hf3) (fun hHeld3 => ?_)
                  clear hK K hf2 hyz2
                  try simp only [List.getElem_toArray, List.getElem_cons_zero, List.getElem_cons_succ, Act.put, List.setIfInBounds_toArray, List.set_cons_zero, List.set_cons_succ]
                  refine wpAnyH_ready (rs := [7]) (by kernel_rfl) (by simp) ?_
                  refine AllReadyH.cons rfl (fun K hK => ?_) AllReadyH.nil
                  · refine step_append_sl y3 rfl _ _ _ rfl (fun j => (w.heap.size ≤ j ∧ j < wo.heap.size) ∧ ∃ blk, y3.heap[j]? = some (.cells blk 113 (0, 0))) 113 _ 3 24 Try.underlying66 info_caseB rfl (by decide) (.slice A2 k c2) k (css M (cl.take k)) rfl hY3.typed ⟨yb, 0, none⟩ 1 1 [.pointer aq, .bool s, .int .i64 y] rfl rfl (lit_cells3 hly3) rfl hb24 (by decide) ?_
                    intro v4 y4 hs4 hfn
                    obtain ⟨Ay, cy, rfl⟩ := hs4.slice
                    have hY4 : Sl y4 (From w.heap.size) 113 3 (.slice Ay (k + 1) cy) (k + 1) (css M (cl.take k) ++ [.pointer aq, .bool s, .int .i64 y]) := hs4.mono fun j _ q => by
                      rcases q with q | q
                      · exact q.1.1
                      · unfold From; omega
                    have hX4 := hX3.pass hfn (by decide)
                    have hf4 : Fr (fun j => w.heap.size ≤ j ∧ j < wo.heap.size) wc y4 := hf3.trans hfn fun j _ q => q.1
                    have hyz4 : wo.heap.size ≤ y4.heap.size := Nat.le_trans hyz3 hfn.size
                    clear hs4 hfn hX3 hY3 hly3
                    refine hK.out _ _ (Key.out _ hf4) (fun hHeld4 => ?_)
                    clear hK K hf3 hyz3
                    try simp only [List.getElem_toArray, List.getElem_cons_zero, List.getElem_cons_succ, Act.put, List.setIfInBounds_toArray, List.set_cons_zero, List.set_cons_succ]
                    refine wpAnyH_take (i := 8) (v := ?_) rfl (by kernel_rfl) (by kernel_rfl) (by kernel_rfl) (fun _ _ _ h => h) (Or.inl ⟨by rfl, ?_⟩) (by assumption) ?_
                    rotate_left
                    · intro w hSw; (try dsimp only at hSw); go_simp; try with_reducible rfl
                    try simp only [List.getElem_toArray, List.getElem_cons_zero, List.getElem_cons_succ, Act.put, List.setIfInBounds_toArray, List.set_cons_zero, List.set_cons_succ]
                    refine wpAnyH_take (i := 9) (v := ?_) rfl (by kernel_rfl) (by kernel_rfl) (by kernel_rfl) (fun _ _ _ h => h) (Or.inl ⟨by rfl, ?_⟩) (by assumption) ?_
                    rotate_left
                    · intro w hSw; (try dsimp only at hSw); go_simp; try with_reducible rfl
                    try simp only [List.getElem_toArray, List.getElem_cons_zero, List.getElem_cons_succ, Act.put, List.setIfInBounds_toArray, List.set_cons_zero, List.set_cons_succ]
                    refine wpAnyH_done (by kernel_rfl) ?_ _
                    try simp only [List.getElem_toArray, List.getElem_cons_zero, List.getElem_cons_succ, Act.put, List.setIfInBounds_toArray, List.set_cons_zero, List.set_cons_succ]
                    have Hf9 : Hid (Fr Nob w y4) := (Hf.out.trans0 Hfc2.out).trans hf4 fun j hj q => by have := q.1; omega
                    have Hx9 : Hid (Sl y4 (From w.heap.size) 29 3 (.slice Ax (k + 1) cx) (k + 1) (css B (cl.take (k + 1)))) := by rw [Hsx.out.1]; exact hX4
                    have Hy9 : Hid (Sl y4 (From w.heap.size) 113 3 (.slice Ay (k + 1) cy) (k + 1) (css M (cl.take (k + 1)))) := by rw [Hsx.out.2]; exact hY4
                    clear hHeld Hsx hX4 hY4 Key
                    go_wp2_with fail
                    first
                    | (go_roundw
                       case rel => exact ⟨k + 1, Ax, Ay, cx, cy, rfl, rfl, by go_num, by omega, Hf9, Hx9, Hy9⟩
                       case measure => (simp [intOf] <;> omega))
                    | (refine ⟨?_, ?measure2⟩
                       (repeat apply Exists.intro)
                       refine ⟨?rel2, rfl⟩
                       case rel2 => exact ⟨k + 1, Ax, Ay, cx, cy, rfl, rfl, by go_num, by omega, Hf9, Hx9, Hy9⟩
                       case measure2 => (simp [intOf] <;> omega))
    · obtain rfl : k = n := by omega
      have He1 := Lib.hid Hs1.out; have He2 := Lib.hid Hs2.out
      go_wp2_with fail
      go_ret2
      exact ⟨A1, A2, c1, c2, rfl, Hf.out, by have := He1.out; rwa [Hend.out] at this, by have := He2.out; rwa [Hend.out] at this⟩
end Go.Proofs.Ytdemeghhjnehbaa
