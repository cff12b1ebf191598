/- A slice of acts on a channel, that came in. -/
import Derived.Test.YtdemeghhjnehbaaOpen
import Derived.Test.YtdemeghhjnehbaaTellShows
import Derived.Test.YtdemeghhjnehbaaRound
import Derived.Test.YtdemeghhjnehbaaTellCases
set_option linter.unusedVariables false
set_option linter.unusedSimpArgs false
namespace Go.Proofs.Ytdemeghhjnehbaa
open Go.RowKit
set_option maxRecDepth 100000
abbrev Act9 := Int × Int × Wt × Bool
abbrev act9En (a : Act9) : List Value := [.int .i64 a.1, .int .i64 a.2.1, .int .i64 a.2.2.1.1, .int .i64 a.2.2.1.2.1, .int .i64 a.2.2.1.2.2, .bool a.2.2.2]
def IsActs9 (w : World) (v : Value) (l : List Act9) : Prop := Rd w 6 v l.length (l.flatMap act9En) ∧ ∀ a ∈ l, True
theorem cells_int : Try.prog.cellsOf 3 = 1 := by kernel_rfl
theorem cells_bool : Try.prog.cellsOf 4 = 1 := by kernel_rfl
theorem cells_wait : Try.prog.cellsOf 63 = 3 := by kernel_rfl
theorem dec_wait (W : World) : Dec Try.prog W 63 fun cs => ∃ x : Wt, cs = wtCells x := by
  refine (dec_struct Try.underlying63 (sz := 3) (by kernel_rfl) (fun i cs => ∃ x, cs = [.int .i64 x] ∧ (Lit.int .i64 x).wf = true) ?_).mono ?_
  · intro i f hf
    have hi := (Array.getElem?_eq_some_iff.1 hf).1
    have hi' : i = 0 ∨ i = 1 ∨ i = 2 := by simp at hi; omega
    rcases hi' with rfl | rfl | rfl <;> (cases hf; exact dec_int Try.underlying3)
  · rintro cs ⟨hl, hk⟩
    obtain ⟨x, hx, _⟩ := hk 0 _ rfl
    obtain ⟨y, hy, _⟩ := hk 1 _ rfl
    obtain ⟨z, hz, _⟩ := hk 2 _ rfl
    match cs, hl with
    | [a, b, c], _ =>
      simp at hx hy hz
      rw [cells_int] at hx hy hz
      simp at hx hy hz
      exact ⟨(x, y, z), by simp [hx, hy, hz]⟩
theorem opn_acts9 {H : Type} {enc : TypeId × Value → H} {W : World} {base : Nat} {v : Value} {d : DataW H} {p : List MemPlace} (hv : Value.okWide Try.prog W .any base 60 v) (h : DataW.Trod enc Try.prog W 0 (fun _ => true) true 60 v d p) : ∃ l, IsActs9 W v l := by
  refine opn_slice (sz := 6) act9En (fun _ => True) (by omega) Try.underlying60 (by kernel_rfl) (fun _ => rfl) ?_ hv h
  refine (dec_struct Try.underlying65 (sz := 6) (by kernel_rfl) (fun i cs => if i = 2 then ∃ x : Wt, cs = wtCells x else if i = 3 then ∃ x, cs = [.bool x] else ∃ x, cs = [.int .i64 x] ∧ (Lit.int .i64 x).wf = true) ?_).mono ?_
  · intro i f hf
    have hi := (Array.getElem?_eq_some_iff.1 hf).1
    have hi' : i = 0 ∨ i = 1 ∨ i = 2 ∨ i = 3 := by simp at hi; omega
    rcases hi' with rfl | rfl | rfl | rfl
    · cases hf; exact dec_int Try.underlying3
    · cases hf; exact dec_int Try.underlying3
    · cases hf; exact dec_wait W
    · cases hf; exact dec_bool Try.underlying4
  · rintro cs ⟨hl, hk⟩
    obtain ⟨x, hx, _⟩ := hk 0 _ rfl
    obtain ⟨z, hz, _⟩ := hk 1 _ rfl
    obtain ⟨y, hy⟩ := hk 2 _ rfl
    obtain ⟨u, hu⟩ := hk 3 _ rfl
    match cs, hl with
    | [a0, a1, a2, a3, a4, a5], _ =>
      simp at hx hy hz hu
      rw [cells_int] at hx hz
      rw [cells_wait] at hy
      rw [cells_bool] at hu
      simp at hx hy hz hu
      obtain ⟨y0, y1, y2⟩ := y
      exact ⟨(x, z, (y0, y1, y2), u), by simp at hy; simp [hx, hy, hz, hu], trivial⟩
open Go.RowKit
set_option maxRecDepth 100000
theorem dec_act10 (W : World) : Dec Try.prog W 65 fun cs => ∃ a : Act9, cs = act9En a ∧ True := by
  refine (dec_struct Try.underlying65 (sz := 6) (by kernel_rfl) (fun i cs => if i = 2 then ∃ x : Wt, cs = wtCells x else if i = 3 then ∃ x, cs = [.bool x] else ∃ x, cs = [.int .i64 x] ∧ (Lit.int .i64 x).wf = true) ?_).mono ?_
  · intro i f hf
    have hi := (Array.getElem?_eq_some_iff.1 hf).1
    have hi' : i = 0 ∨ i = 1 ∨ i = 2 ∨ i = 3 := by simp at hi; omega
    rcases hi' with rfl | rfl | rfl | rfl
    · cases hf; exact dec_int Try.underlying3
    · cases hf; exact dec_int Try.underlying3
    · cases hf; exact dec_wait W
    · cases hf; exact dec_bool Try.underlying4
  · rintro cs ⟨hl, hk⟩
    obtain ⟨x, hx, _⟩ := hk 0 _ rfl
    obtain ⟨z, hz, _⟩ := hk 1 _ rfl
    obtain ⟨y, hy⟩ := hk 2 _ rfl
    obtain ⟨u, hu⟩ := hk 3 _ rfl
    match cs, hl with
    | [a0, a1, a2, a3, a4, a5], _ =>
      simp at hx hy hz hu
      rw [cells_int] at hx hz
      rw [cells_wait] at hy
      rw [cells_bool] at hu
      simp at hx hy hz hu
      obtain ⟨y0, y1, y2⟩ := y
      exact ⟨(x, z, (y0, y1, y2), u), by simp at hy; simp [hx, hy, hz, hu], trivial⟩
abbrev ActsL := List (Value × List Act9)
def IsActs10 (w : World) (v : Value) (L : ActsL) : Prop := Rd w 1 v L.length (L.flatMap fun a => [a.1]) ∧ ∀ a ∈ L, Rd w 6 a.1 a.2.length (a.2.flatMap act9En)
theorem opn_acts10 {H : Type} {enc : TypeId × Value → H} {W : World} {base : Nat} {v : Value} {d : DataW H} {p : List MemPlace} (hv : Value.okWide Try.prog W .any base 53 v) (h : DataW.Trod enc Try.prog W 0 (fun _ => true) true 53 v d p) : ∃ L, IsActs10 W v L := by
  refine opn_slice (sz := 1) (fun a : Value × List Act9 => [a.1]) (fun a => Rd W 6 a.1 a.2.length (a.2.flatMap act9En)) (by omega) Try.underlying53 (by kernel_rfl) (fun _ => rfl) ?_ hv h
  refine (dec_slice (sz := 6) act9En (fun _ => True) (by omega) Try.underlying60 (by kernel_rfl) (fun _ => rfl) (dec_act10 W)).mono ?_
  rintro cs ⟨v, rfl, l, hl, _⟩
  exact ⟨(v, l), rfl, hl⟩
def IsPicks (w : World) (v : Value) (l : List Pk) : Prop := Rd w 3 v l.length (l.flatMap pkEn) ∧ ∀ a ∈ l, True
theorem opn_picks {H : Type} {enc : TypeId × Value → H} {W : World} {base : Nat} {v : Value} {d : DataW H} {p : List MemPlace} (hv : Value.okWide Try.prog W .any base 54 v) (h : DataW.Trod enc Try.prog W 0 (fun _ => true) true 54 v d p) : ∃ l, IsPicks W v l := by
  refine opn_slice (sz := 3) pkEn (fun _ => True) (by omega) Try.underlying54 (by kernel_rfl) (fun _ => rfl) ?_ hv h
  refine (dec_struct Try.underlying111 (sz := 3) (by kernel_rfl) (fun i cs => if i = 1 then ∃ x, cs = [.bool x] else ∃ x, cs = [.int .i64 x] ∧ (Lit.int .i64 x).wf = true) ?_).mono ?_
  · intro i f hf
    have hi := (Array.getElem?_eq_some_iff.1 hf).1
    have hi' : i = 0 ∨ i = 1 ∨ i = 2 := by simp at hi; omega
    rcases hi' with rfl | rfl | rfl
    · cases hf; exact dec_int Try.underlying3
    · cases hf; exact dec_bool Try.underlying4
    · cases hf; exact dec_int Try.underlying3
  · rintro cs ⟨hl, hk⟩
    obtain ⟨x, hx, _⟩ := hk 0 _ rfl
    obtain ⟨y, hy⟩ := hk 1 _ rfl
    obtain ⟨z, hz, _⟩ := hk 2 _ rfl
    match cs, hl with
    | [a0, a1, a2], _ =>
      simp at hx hy hz
      rw [cells_int] at hx hz
      rw [cells_bool] at hy
      simp at hx hy hz
      exact ⟨(x, y, z), by simp [hx, hy, hz], trivial⟩
theorem info_ptrA : (Try.prog.info? 24).map (fun i => (i.zero, i.size, i.bytes)) = some (some (.pointer none), 1, 8) := by kernel_rfl
theorem info_ptrB : (Try.prog.info? 57).map (fun i => (i.zero, i.size, i.bytes)) = some (some (.pointer none), 1, 8) := by kernel_rfl
open Go.RowKit
set_option maxRecDepth 100000
theorem pool_add2 {w w' : World} {S : Nat → Prop} {B : Nat → Nat} {P : Nat → Option ChS} (h : Pool w S B P) (n : Nat) {T : Nat → Prop} {b : Nat} {c : ChS} (hf : Fr Nob w w') (hc : ChanAt w' T b c) (hT : ∀ k, T k → w.heap.size ≤ k) : Pool w' (fun k => S k ∨ T k) (upd B n b) (upd P n (some c)) := by
  obtain ⟨F, h1, h2, h3⟩ := h
  have hz := hf.size
  refine ⟨upd F n T, fun i x hi => ?_, fun i k q => ?_, fun i j k q r => ?_⟩
  · by_cases e : i = n
    · subst e
      rw [upd_same] at hi ⊢; rw [upd_same]
      cases hi
      exact hc
    · rw [upd_ne _ _ e] at hi ⊢; rw [upd_ne _ _ e]
      exact (h1 i x hi).fr0 hf
  · by_cases e : i = n
    · subst e
      rw [upd_same] at q
      exact ⟨.inr q, hc.lt k q⟩
    · rw [upd_ne _ _ e] at q
      exact ⟨.inl (h2 i k q).1, by have := (h2 i k q).2; omega⟩
  · by_cases e : i = n
    · by_cases e2 : j = n
      · omega
      · subst e
        rw [upd_same] at q; rw [upd_ne _ _ e2] at r
        have := hT k q; have := (h2 j k r).2; omega
    · by_cases e2 : j = n
      · subst e2
        rw [upd_same] at r; rw [upd_ne _ _ e] at q
        have := hT k r; have := (h2 i k q).2; omega
      · rw [upd_ne _ _ e] at q; rw [upd_ne _ _ e2] at r
        exact h3 i j k q r
theorem rpool_add2 {w w' : World} {S : Nat → Prop} {M : Nat → Nat} {P : Nat → Option ChS} (h : RPool w S M P) (n : Nat) {T : Nat → Prop} {b : Nat} {c : ChS} (hf : Fr Nob w w') (hc : RefAt w' T b c) (hT : ∀ k, T k → w.heap.size ≤ k) : RPool w' (fun k => S k ∨ T k) (upd M n b) (upd P n (some c)) := by
  obtain ⟨F, h1, h2, h3⟩ := h
  have hz := hf.size
  refine ⟨upd F n T, fun i x hi => ?_, fun i k q => ?_, fun i j k q r => ?_⟩
  · by_cases e : i = n
    · subst e
      rw [upd_same] at hi ⊢; rw [upd_same]
      cases hi
      exact hc
    · rw [upd_ne _ _ e] at hi ⊢; rw [upd_ne _ _ e]
      exact (h1 i x hi).fr0 hf
  · by_cases e : i = n
    · subst e
      rw [upd_same] at q
      exact ⟨.inr q, hc.lt k q⟩
    · rw [upd_ne _ _ e] at q
      exact ⟨.inl (h2 i k q).1, by have := (h2 i k q).2; omega⟩
  · by_cases e : i = n
    · by_cases e2 : j = n
      · omega
      · subst e
        rw [upd_same] at q; rw [upd_ne _ _ e2] at r
        have := hT k q; have := (h2 j k r).2; omega
    · by_cases e2 : j = n
      · subst e2
        rw [upd_same] at r; rw [upd_ne _ _ e] at q
        have := hT k r; have := (h2 i k q).2; omega
      · rw [upd_ne _ _ e] at q; rw [upd_ne _ _ e2] at r
        exact h3 i j k q r
structure Tw (w0 w : World) (S T U : Nat → Prop) (B M : Nat → Nat) (P : Nat → Option ChS) : Prop where
  fr : Fr Nob w0 w
  s : ∀ k, S k → w0.heap.size ≤ k ∧ k < w.heap.size
  t : ∀ k, T k → w0.heap.size ≤ k ∧ k < w.heap.size
  u : ∀ k, U k → w0.heap.size ≤ k ∧ k < w.heap.size
  st : ∀ k, S k → T k → False
  su : ∀ k, S k → U k → False
  tu : ∀ k, T k → U k → False
  pool : Pool w S B P
  rp : RPool w T M P
section
variable {w0 w w' w1 w2 : World} {S T U : Nat → Prop} {B M : Nat → Nat} {P P' : Nat → Option ChS}
theorem Tw.start (w0 : World) : Tw w0 w0 Nob Nob Nob (fun _ => 0) (fun _ => 0) (fun _ => none) :=
  ⟨Fr.refl _ _, fun _ q => q.elim, fun _ q => q.elim, fun _ q => q.elim, fun _ q _ => q, fun _ q _ => q, fun _ q _ => q, Pool.start _ _ _, RPool.start _ _ _⟩
theorem Tw.fr0 (h : Tw w0 w S T U B M P) (hf : Fr Nob w w') : Tw w0 w' S T U B M P :=
  ⟨h.fr.trans0 hf, grow h.s hf.size, grow h.t hf.size, grow h.u hf.size, h.st, h.su, h.tu, h.pool.fr0 hf, h.rp.fr0 hf⟩
/-- A row is written; it may lie in new memory. -/
theorem Tw.row (h : Tw w0 w S T U B M P) (hf : Fr U w w') : Tw w0 w' S T (And' U w w') B M P :=
  ⟨h.fr.trans hf fun k hk q => by have := (h.u k q).1; omega, grow h.s hf.size, grow h.t hf.size, growA h.fr.size h.u hf.size, h.st,
    fun k q q' => apart h.s (fun k a b => h.su k b a) k q' q, fun k q q' => apart h.t (fun k a b => h.tu k b a) k q' q, h.pool.fr hf h.su, h.rp.fr hf h.tu⟩
/-- One more channel. -/
theorem Tw.add (h : Tw w0 w S T U B M P) {b m : Nat} {c : ChS} (j : Nat) (hb : Both w w' b m c) : ∃ S' T' : Nat → Prop, Tw w0 w' S' T' U (upd B j b) (upd M j m) (upd P j (some c)) := by
  obtain ⟨S1, T1, hc, hr, hS, hT, hd, hf⟩ := hb
  have hpl := h.pool.add j hf hc hS
  have hrp := h.rp.add j hf hr hT
  have hz := hf.size
  have hz0 := h.fr.size
  refine ⟨fun k => S k ∨ S1 k, fun k => T k ∨ T1 k, h.fr.trans0 hf, fun k q => ?_, fun k q => ?_, grow h.u hz, fun k q r => ?_, fun k q r => ?_, fun k q r => ?_, ?_, ?_⟩
  · rcases q with q | q
    · exact grow h.s hz k q
    · exact ⟨by have := hS k q; omega, hc.lt k q⟩
  · rcases q with q | q
    · exact grow h.t hz k q
    · exact ⟨by have := hT k q; omega, hr.lt k q⟩
  · rcases q with q | q
    · rcases r with r | r
      · exact h.st k q r
      · have := (h.s k q).2; have := hT k r; omega
    · rcases r with r | r
      · have := (h.t k r).2; have := hS k q; omega
      · exact hd k q r
  · rcases q with q | q
    · exact h.su k q r
    · have := (h.u k r).2; have := hS k q; omega
  · rcases q with q | q
    · exact h.tu k q r
    · have := (h.u k r).2; have := hT k q; omega
  · exact pool_add2 h.pool j hf hc hS
  · exact rpool_add2 h.rp j hf hr hT
/-- A step on all the program's channels, then one on all the document's. -/
theorem Tw.step (h : Tw w0 w S T U B M P) {S' : Nat → Prop} (hf : Fr S w w1) (hp : Pool w1 S' B P') (hS : ∀ k, S' k → S k ∨ w.heap.size ≤ k) {w1' : World} (hg : Fr Nob w1 w1') (hr : RTo w1' T M P' w2) : ∃ S2 T2 : Nat → Prop, Tw w0 w2 S2 T2 U B M P' ∧ Fr (fun k => S k ∨ T k) w w2 := by
  obtain ⟨hf2, T2, hp2, hT2⟩ := hr
  have z0 := h.fr.size
  have z1 := hf.size
  have z2 := hg.size
  have z3 := hf2.size
  have hpl : Pool w1 (fun k => S' k ∧ k < w1.heap.size) B P' := by
    obtain ⟨F, h1, h2, h3⟩ := hp
    exact ⟨F, h1, fun i k q => ⟨h2 i k q, (h2 i k q).2⟩, h3⟩
  have hall : Fr (fun k => S k ∨ T k) w w2 := ((hf.mono fun k _ q => .inl q).trans0 hg.none).trans0 (hf2.mono fun k _ q => .inr q)
  refine ⟨fun k => S' k ∧ k < w1.heap.size, fun k => T2 k ∧ k < w2.heap.size, ⟨h.fr.trans hall fun k hk q => ?_, fun k q => ?_, fun k q => ?_, grow h.u (by omega), fun k q r => ?_, fun k q r => ?_, fun k q r => ?_, ?_, hp2.lt⟩, hall⟩
  · rcases q with q | q
    · have := (h.s k q).1; omega
    · have := (h.t k q).1; omega
  · have h1 := q.2
    rcases hS k q.1 with r | r
    · exact ⟨(h.s k r).1, by omega⟩
    · exact ⟨by omega, by omega⟩
  · have h1 := q.2
    rcases hT2 k q.1 with r | r
    · exact ⟨(h.t k r).1, by omega⟩
    · exact ⟨by omega, by omega⟩
  · have h1 := q.2
    rcases hT2 k r.1 with t | t
    · rcases hS k q.1 with s | s
      · exact h.st k s t
      · have := (h.t k t).2; omega
    · omega
  · have h1 := (h.u k r).2
    rcases hS k q.1 with s | s
    · exact h.su k s r
    · omega
  · have h1 := (h.u k r).2
    rcases hT2 k q.1 with s | s
    · exact h.tu k s r
    · omega
  · exact (hpl.fr0 hg).fr hf2 fun k q t => by
      rcases hS k q.1 with s | s
      · exact h.st k s t
      · have := (h.t k t).2; omega
theorem Tw.keep (h : Tw w0 w S T U B M P) (hf : Fr (fun k => S k ∨ T k) w w') {E : TypeId} {sz : Nat} {v : Value} {n : Nat} {cs : List Value} (hs : Sl w U E sz v n cs) : Sl w' U E sz v n cs :=
  hs.fr hf fun k q r => by
    rcases r with r | r
    · exact h.su k r q
    · exact h.tu k r q
theorem Tw.shows (h : Tw w0 w S T U B M P) (o : Option Nat) (ho : ∀ j, o = some j → ∃ c, P j = some c) :
    Calls Try.prog 26 #[.pointer (pa B o), .pointer (pa M o)] w fun e w' => e = .returned (.bool true) ∧ Fr Nob w w' := by
  cases o with
  | none => exact shows_nil w
  | some j =>
    obtain ⟨c, hc⟩ := ho j rfl
    obtain ⟨X, h1, _⟩ := h.pool.at hc
    obtain ⟨Y, h2, _⟩ := h.rp.at hc
    exact shows_own h1 h2
end
/-- What the channels' row is, in plain words. -/
structure OsOk (os : List (Option Nat)) (P : Nat → Option ChS) (k : Nat) : Prop where
  len : os.length = k
  ok : ∀ o ∈ os, ∀ j, o = some j → j < k ∧ ∃ c, P j = some c
  none : ∀ j, k ≤ j → P j = none
  few : Few P 20
theorem OsOk.start : OsOk [] (fun _ => Option.none) 0 := ⟨rfl, fun o h => by simp at h, fun _ _ => rfl, fun i c h => by cases h⟩
theorem OsOk.nil {os : List (Option Nat)} {P : Nat → Option ChS} {k : Nat} (h : OsOk os P k) : OsOk (os ++ [Option.none]) P (k + 1) :=
  ⟨by simp [h.len], fun o ho j hj => by
    rcases List.mem_append.1 ho with q | q
    · have := h.ok o q j hj; exact ⟨by omega, this.2⟩
    · (simp at q; subst q; (cases hj)), fun j hj => h.none j (by omega), h.few⟩
theorem OsOk.add {os : List (Option Nat)} {P : Nat → Option ChS} {k : Nat} (h : OsOk os P k) (c : ChS) (h1 : c.rv.length ≤ 20) (h2 : c.sd.length ≤ 20) : OsOk (os ++ [some k]) (upd P k (some c)) (k + 1) :=
  ⟨by simp [h.len], fun o ho j hj => by
    rcases List.mem_append.1 ho with q | q
    · have := h.ok o q j hj; exact ⟨by omega, by rw [upd_ne _ _ (by omega)]; exact this.2⟩
    · (simp at q; subst q; cases hj; exact ⟨by omega, _, upd_same _ _ _⟩), fun j hj => by rw [upd_ne _ _ (by omega)]; exact h.none j (by omega), few_upd h.few (Nat.le_refl _) k c h1 h2⟩
theorem pvs_upd {os : List (Option Nat)} {P : Nat → Option ChS} {k : Nat} (h : OsOk os P k) (B : Nat → Nat) (b : Nat) : pvs (upd B k b) os = pvs B os := by
  refine List.map_congr_left fun o ho => ?_
  cases o with
  | none => rfl
  | some j => have := (h.ok _ ho j rfl).1; show Value.pointer (some ⟨upd B k b j, 0, Option.none⟩) = _; rw [upd_ne _ _ (by omega)]; rfl
theorem OsOk.cs {os : List (Option Nat)} {P : Nat → Option ChS} {k : Nat} (h : OsOk os P k) (l : List Pk) : ∀ x ∈ csOf os l, CsOk P x := fun x hx i hi => by
  simp only [csOf, List.mem_map] at hx
  obtain ⟨p, _, rfl⟩ := hx
  dsimp only at hi
  unfold pkO at hi
  split at hi
  · have hm : some i ∈ os := by
      rw [List.getD] at hi
      cases hg : os[p.1.toNat]? with
      | none => rw [hg] at hi; cases hi
      | some o => rw [hg] at hi; simp at hi; subst hi; exact List.mem_of_getElem? hg
    exact (h.ok _ hm i rfl).2
  · cases hi
theorem csOf_len (os : List (Option Nat)) (l : List Pk) : (csOf os l).length = l.length := by simp [csOf]
theorem canC_f (P : Nat → Option ChS) (l : List Cs) : ∃ f : Nat → Bool, ∀ k x, l[k]? = some x → canC P x = f k := ⟨fun k => canC P (l.getD k (none, false, 0)), fun k x hx => by simp [List.getD, hx]⟩
end Go.Proofs.Ytdemeghhjnehbaa
