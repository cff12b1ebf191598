/- Who waits on a channel, from outside; what two laws need. -/
import Derived.Test.YtcffplgimbbflaaGreatProg
import Derived.WalkKit
import Derived.OneCell
import Derived.Deep.Draws
import Derived.Deep.OwnRows
import Derived.Deep.QuietTactic
import Derived.BigQuiet
import Derived.Outline
import Derived.Lib.Hide
import Derived.BigRegion
import Derived.Deep.RegionHeld3
import Derived.Deep.RegionLaw
import Derived.StillTailTactics
import Derived.IntWalk
import Derived.WalkSpells
import Derived.LaidEqlPtr
import Derived.Laws.Rows
import Derived.Deep.MidRow
import Derived.Lib.SliceRun
import Derived.Maps.OwnSet
import Derived.Maps.OwnOps
import Derived.ProofKit
import Derived.OpenShut
import Derived.ShutString
import Derived.ChangeOld
import Derived.Below
import Derived.Deep.Slices
import Derived.Laws.OwnMore
set_option linter.unusedVariables false
set_option linter.unusedSimpArgs false
namespace Go.Proofs.YtcffplgimbbflaaGreat
open Go.RowKit
set_option maxRecDepth 100000
/-- Of what was there nothing has turned but in blocks of S. -/
structure Fr (S : Nat → Prop) (w w' : World) : Prop where
  os : w'.os = w.os
  tape : w'.tape = w.tape
  output : w'.output = w.output
  size : w.heap.size ≤ w'.heap.size
  block : ∀ k, k < w.heap.size → ¬ S k → w'.heap[k]? = w.heap[k]?
/-- Blocks from b on. -/
abbrev From (b : Nat) : Nat → Prop := fun k => b ≤ k
/-- No block. -/
abbrev Nob : Nat → Prop := fun _ => False
theorem Fr.refl (S : Nat → Prop) (w : World) : Fr S w w := ⟨rfl, rfl, rfl, Nat.le_refl _, fun _ _ _ => rfl⟩
theorem Fr.mono {S T : Nat → Prop} {w w' : World} (h : Fr S w w') (hs : ∀ k, k < w.heap.size → S k → T k) : Fr T w w' := ⟨h.os, h.tape, h.output, h.size, fun k hk hn => h.block k hk (fun q => hn (hs k hk q))⟩
theorem Fr.trans {S T : Nat → Prop} {a b c : World} (h : Fr S a b) (k : Fr T b c) (hs : ∀ k, k < a.heap.size → T k → S k) : Fr S a c :=
  ⟨k.os.trans h.os, k.tape.trans h.tape, k.output.trans h.output, Nat.le_trans h.size k.size, fun i hi hn => (k.block i (Nat.lt_of_lt_of_le hi h.size) (fun q => hn (hs i hi q))).trans (h.block i hi hn)⟩
theorem Fr.trans0 {S : Nat → Prop} {a b c : World} (h : Fr S a b) (k : Fr S b c) : Fr S a c := h.trans k fun _ _ q => q
theorem Fr.drew {S : Nat → Prop} {a b : World} (h : Fr S a b) : Fr S a b.drew := ⟨h.os, h.tape, h.output, h.size, h.block⟩
theorem Fr.drewN {S : Nat → Prop} {a b : World} (h : Fr S a b) (n : Nat) : Fr S a (b.drewN n) := ⟨h.os, h.tape, h.output, h.size, h.block⟩
theorem Fr.alloc {S : Nat → Prop} {a b : World} (h : Fr S a b) (o : Obj) : Fr S a (b.alloc o) :=
  ⟨h.os, h.tape, h.output, by have := h.size; simp; omega, fun k hk hn => (heap_alloc_old b o (Nat.lt_of_lt_of_le hk h.size)).trans (h.block k hk hn)⟩
theorem Fr.setCell {S : Nat → Prop} {a b : World} (h : Fr S a b) {p : Addr} (hp : S p.block ∨ a.heap.size ≤ p.block) (u : Value) : Fr S a (b.setCell p u) :=
  ⟨h.os, h.tape, h.output, by have := h.size; simp; omega, fun k hk hn => by
    rw [heap_setCell_other _ _ _ _ (by rintro rfl; rcases hp with hp | hp; exact hn hp; omega)]; exact h.block k hk hn⟩
theorem Fr.grown {S : Nat → Prop} {a b c : World} {row : Option Nat} (h : Fr S a b) (hg : b.grownBy c row) (hr : ∀ k, row = some k → S k ∨ a.heap.size ≤ k) : Fr S a c :=
  ⟨hg.os.trans h.os, hg.tape.trans h.tape, hg.output.trans h.output, Nat.le_trans h.size hg.size, fun k hk hn =>
    (hg.block k (Nat.lt_of_lt_of_le hk h.size) (fun e => by rcases hr k e.symm with q | q; exact hn q; omega)).trans (h.block k hk hn)⟩
theorem Fr.ofDrew {w w' : World} (h : ∃ m, w' = w.drewN m) : Fr Nob w w' := by obtain ⟨m, rfl⟩ := h; exact (Fr.refl _ _).drewN m
theorem Fr.none {S : Nat → Prop} {w w' : World} (h : Fr Nob w w') : Fr S w w' := h.mono fun _ _ q => q.elim
theorem Fr.cell {S : Nat → Prop} {w w' : World} (h : Fr S w w') {p : Addr} {v : Value} (hp : ¬ S p.block) (hc : w.cell? p = some v) : w'.cell? p = some v :=
  (World.cell?_of_block (h.block p.block (World.block_lt_of_cell? w p hc) hp)).trans hc
theorem Fr.frozen {S : Nat → Prop} {w w' : World} (h : Fr S w w') {p : Addr} (hp : ¬ S p.block) (hlt : p.block < w.heap.size) : w'.frozen? p = w.frozen? p :=
  World.frozen?_of_block (h.block p.block hlt hp)
theorem Fr.blk {S : Nat → Prop} {w w' : World} (h : Fr S w w') {k : Nat} {o : Obj} (hk : ¬ S k) (hb : w.heap[k]? = some o) : w'.heap[k]? = some o :=
  (h.block k (lt_of_block hb) hk).trans hb
/-- Two sets of blocks, both from block B on, both of blocks that are there, that have no block in common. -/
structure Two (B : Nat) (w : World) (S T : Nat → Prop) : Prop where
  l : ∀ k, S k → B ≤ k ∧ k < w.heap.size
  r : ∀ k, T k → B ≤ k ∧ k < w.heap.size
  dis : ∀ k, S k → T k → False
theorem Two.keep {B : Nat} {w w' : World} {S T : Nat → Prop} (h : Two B w S T) (hs : w.heap.size ≤ w'.heap.size) : Two B w' S T :=
  ⟨fun k q => ⟨(h.l k q).1, by have := (h.l k q).2; omega⟩, fun k q => ⟨(h.r k q).1, by have := (h.r k q).2; omega⟩, h.dis⟩
theorem Two.fr {B : Nat} {w w' : World} {S T F : Nat → Prop} (h : Two B w S T) (hf : Fr F w w') : Two B w' S T := h.keep hf.size
/-- A set and the blocks that are new in w'. -/
abbrev And' (S : Nat → Prop) (w w' : World) : Nat → Prop := fun k => S k ∨ (w.heap.size ≤ k ∧ k < w'.heap.size)
theorem Two.growR {B : Nat} {w w' : World} {S T : Nat → Prop} (h : Two B w S T) (hs : w.heap.size ≤ w'.heap.size) (hB : B ≤ w.heap.size) : Two B w' S (And' T w w') :=
  ⟨fun k q => ⟨(h.l k q).1, by have := (h.l k q).2; omega⟩, fun k q => by rcases q with q | q; exact ⟨(h.r k q).1, by have := (h.r k q).2; omega⟩; omega,
   fun k q r => by rcases r with r | r; exact h.dis k q r; have := (h.l k q).2; omega⟩
theorem Two.swap {B : Nat} {w : World} {S T : Nat → Prop} (h : Two B w S T) : Two B w T S := ⟨h.r, h.l, fun k a b => h.dis k b a⟩
theorem Two.growL {B : Nat} {w w' : World} {S T : Nat → Prop} (h : Two B w S T) (hs : w.heap.size ≤ w'.heap.size) (hB : B ≤ w.heap.size) : Two B w' (And' S w w') T := (h.swap.growR hs hB).swap
theorem Two.noR {B : Nat} {w : World} {S T : Nat → Prop} (h : Two B w S T) : Two B w S Nob := ⟨h.l, fun _ q => q.elim, fun _ _ q => q⟩
/-- The set of the blocks of a set that are there. -/
theorem there {w w' : World} {S : Nat → Prop} (k : Nat) (hk : k < w'.heap.size) (q : S k ∨ w.heap.size ≤ k) : And' S w w' k := by rcases q with q | q; exact .inl q; exact .inr ⟨q, hk⟩
/-! Blocks that are known whole -/
theorem blk_cell {w : World} {b : Nat} {cs : Array Value} {T : TypeId} {fr : Nat × Nat} (h : w.heap[b]? = some (.cells cs T fr)) (o : Nat) {v : Value} (hv : cs[o]? = some v) : w.cell? ⟨b, o, none⟩ = some v := by
  simp [World.cell?, h, hv]
theorem blk_froz {w : World} {b : Nat} {cs : Array Value} {T : TypeId} (h : w.heap[b]? = some (.cells cs T (0,0))) (o : Nat) : w.frozen? ⟨b, o, none⟩ = false := by
  simp [World.frozen?, h]
theorem blk_set {w : World} {b : Nat} {cs : Array Value} {T : TypeId} {fr : Nat × Nat} (h : w.heap[b]? = some (.cells cs T fr)) (o : Nat) (v : Value) : (w.setCell ⟨b, o, none⟩ v).heap[b]? = some (.cells (cs.setIfInBounds o v) T fr) := by
  have hlt := lt_of_block h
  have h' : w.heap[b] = .cells cs T fr := by simpa [Array.getElem?_eq_getElem hlt] using h
  show (w.heap.modify b _)[b]? = _
  rw [Array.getElem?_eq_getElem (by simpa using hlt), Array.getElem_modify_self, h']
  rfl
theorem blk_set_ne {w : World} {b k : Nat} (o : Nat) (v : Value) (h : k ≠ b) : (w.setCell ⟨b, o, none⟩ v).heap[k]? = w.heap[k]? := heap_setCell_other _ _ _ _ h
theorem blk_alloc_ne {w : World} {k : Nat} (o : Obj) (h : k < w.heap.size) : (w.alloc o).heap[k]? = w.heap[k]? := heap_alloc_old w o h
theorem blk_alloc_eq {w : World} {k : Nat} (o : Obj) (h : k = w.heap.size) : (w.alloc o).heap[k]? = some o := by subst h; exact heap_alloc_new w o
theorem blk_drew {w : World} (k : Nat) : w.drew.heap[k]? = w.heap[k]? := rfl
theorem size_drewN' {w : World} (n : Nat) : (w.drewN n).heap.size = w.heap.size := rfl
/-! A slice that lies in a block of S (nil let in): n elements of sz cells each, the cells cs -/
def Sl (w : World) (S : Nat → Prop) (T : TypeId) (sz : Nat) (v : Value) (n : Nat) (cs : List Value) : Prop :=
  cs.length = n * sz ∧ ((v = .slice none 0 0 ∧ n = 0) ∨
    ∃ g off cap blk, v = .slice (some ⟨g, off, none⟩) n cap ∧ S g ∧ w.heap[g]? = some (.cells blk T (0, 0)) ∧ n ≤ cap ∧ cap ≤ maxLen ∧ off + cap * sz ≤ blk.size ∧
      ∀ j u, cs[j]? = some u → blk[off + j]? = some u)
theorem Sl.nil (w : World) (S : Nat → Prop) (T : TypeId) (sz : Nat) : Sl w S T sz (.slice none 0 0) 0 [] := ⟨by simp, .inl ⟨rfl, rfl⟩⟩
theorem Sl.mono {w : World} {S S' : Nat → Prop} {T : TypeId} {sz : Nat} {v : Value} {n : Nat} {cs : List Value} (h : Sl w S T sz v n cs) (hs : ∀ k, k < w.heap.size → S k → S' k) : Sl w S' T sz v n cs := by
  refine ⟨h.1, ?_⟩
  rcases h.2 with h | ⟨g, off, cap, blk, hv, hg, hb, r⟩
  · exact .inl h
  · exact .inr ⟨g, off, cap, blk, hv, hs g (lt_of_block hb) hg, hb, r⟩
theorem Sl.fr {w w' : World} {S F : Nat → Prop} {T : TypeId} {sz : Nat} {v : Value} {n : Nat} {cs : List Value} (h : Sl w S T sz v n cs) (hf : Fr F w w') (hd : ∀ k, S k → F k → False) : Sl w' S T sz v n cs := by
  refine ⟨h.1, ?_⟩
  rcases h.2 with h | ⟨g, off, cap, blk, hv, hg, hb, r⟩
  · exact .inl h
  · exact .inr ⟨g, off, cap, blk, hv, hg, hf.blk (fun q => hd g hg q) hb, r⟩
theorem Sl.alloc {w : World} {S : Nat → Prop} {T : TypeId} {sz : Nat} {v : Value} {n : Nat} {cs : List Value} (h : Sl w S T sz v n cs) (o : Obj) : Sl (w.alloc o) S T sz v n cs := h.fr ((Fr.refl Nob w).alloc o) fun _ _ q => q
theorem Sl.drew {w : World} {S : Nat → Prop} {T : TypeId} {sz : Nat} {v : Value} {n : Nat} {cs : List Value} (h : Sl w S T sz v n cs) : Sl w.drew S T sz v n cs := h
theorem Sl.drewN {w : World} {S : Nat → Prop} {T : TypeId} {sz : Nat} {v : Value} {n : Nat} {cs : List Value} (h : Sl w S T sz v n cs) (m : Nat) : Sl (w.drewN m) S T sz v n cs := h
theorem Sl.slice {w : World} {S : Nat → Prop} {T : TypeId} {sz : Nat} {v : Value} {n : Nat} {cs : List Value} (h : Sl w S T sz v n cs) : ∃ A cap, v = .slice A n cap := by
  rcases h.2 with ⟨rfl, rfl⟩ | ⟨g, off, cap, blk, rfl, _⟩
  · exact ⟨_, _, rfl⟩
  · exact ⟨_, _, rfl⟩
/-- It has an element: its place, its cells. -/
theorem Sl.form {w : World} {S : Nat → Prop} {T : TypeId} {sz : Nat} {v : Value} {n : Nat} {cs : List Value} (h : Sl w S T sz v n cs) (hn : 0 < n) :
    ∃ g off cap, v = .slice (some ⟨g, off, none⟩) n cap ∧ S g ∧ g < w.heap.size ∧ n ≤ cap ∧ cap ≤ maxLen ∧ (∀ j u, cs[j]? = some u → w.cell? ⟨g, off + j, none⟩ = some u) ∧ ∀ j, w.frozen? ⟨g, j, none⟩ = false := by
  rcases h.2 with ⟨rfl, rfl⟩ | ⟨g, off, cap, blk, rfl, hg, hb, h1, h2, h3, h4⟩
  · omega
  · exact ⟨g, off, cap, rfl, hg, lt_of_block hb, h1, h2, fun j u hj => blk_cell hb _ (h4 j u hj), fun j => blk_froz hb j⟩
theorem Sl.len_le {w : World} {S : Nat → Prop} {T : TypeId} {sz : Nat} {v : Value} {n : Nat} {cs : List Value} (h : Sl w S T sz v n cs) : n ≤ maxLen := by
  rcases h.2 with ⟨rfl, rfl⟩ | ⟨g, off, cap, blk, rfl, hg, hb, h1, h2, h3, h4⟩
  · simp [maxLen]
  · omega
theorem Sl.ofOwns {w : World} {base : Nat} {T : TypeId} {sz : Nat} {v : Value} {n : Nat} {cs : List Value} (h : w.ownsRow base T sz v n cs) : Sl w (From base) T sz v n cs := by
  refine ⟨h.1, ?_⟩
  rcases h.2 with h2 | ⟨g, cap, cur, rfl, hb, hg, h1, h2, h3, h4⟩
  · exact .inl h2
  · refine .inr ⟨g, 0, cap, cur, rfl, hb, hg, h1, h2, by omega, fun j u hj => ?_⟩
    rw [← h4, List.getElem?_take] at hj
    split at hj
    · simpa using hj
    · cases hj
/-- A store into an element's cell. -/
theorem Sl.set {w : World} {S : Nat → Prop} {T : TypeId} {sz : Nat} {n cap g off : Nat} {cs : List Value} (h : Sl w S T sz (.slice (some ⟨g, off, none⟩) n cap) n cs) (j : Nat) (hj : j < n * sz) (u : Value) :
    Sl (w.setCell ⟨g, off + j, none⟩ u) S T sz (.slice (some ⟨g, off, none⟩) n cap) n (cs.set j u) := by
  refine ⟨by simp [h.1], ?_⟩
  rcases h.2 with ⟨h', _⟩ | ⟨g', off', cap', blk, hv, hg, hb, h1, h2, h3, h4⟩
  · cases h'
  · injection hv with ha hb' hc
    injection ha with ha
    injection ha with ha hoff
    subst ha; subst hoff; subst hc
    refine .inr ⟨g, off, cap, _, rfl, hg, blk_set hb _ _, h1, h2, by simpa using h3, fun i x hx => ?_⟩
    rw [List.getElem?_set] at hx
    rw [Array.getElem?_setIfInBounds]
    split at hx
    · next e =>
      subst e
      rw [if_pos rfl]
      have : off + j < blk.size := by have := Nat.mul_le_mul_right sz h1; omega
      split at hx
      · rw [if_pos this]; exact hx
      · cases hx
    · next e =>
      rw [if_neg (by omega)]
      exact h4 i x hx
/-- A new literal block, whole. -/
theorem Sl.lit (w : World) (T : TypeId) (sz : Nat) (blk : Array Value) (n : Nat) (S : Nat → Prop) (hS : S w.heap.size) (hn : n ≤ maxLen) (hs : blk.size = n * sz) :
    Sl (w.alloc (.cells blk T)) S T sz (.slice (some ⟨w.heap.size, 0, none⟩) n n) n blk.toList :=
  ⟨by simpa using hs, .inr ⟨w.heap.size, 0, n, blk, rfl, hS, heap_alloc_new w _, Nat.le_refl _, hn, by omega, fun j u hj => by simpa using hj⟩⟩
theorem setCells_blk (b : Nat) (T : TypeId) (fr : Nat × Nat) : ∀ (vs : List Value) (o : Nat) (w : World) (blk : Array Value), w.heap[b]? = some (.cells blk T fr) → o + vs.length ≤ blk.size →
    ∃ blk' : Array Value, (w.setCells b o vs).heap[b]? = some (.cells blk' T fr) ∧ blk'.size = blk.size ∧ (∀ j, j < o → blk'[j]? = blk[j]?) ∧ ∀ j u, vs[j]? = some u → blk'[o + j]? = some u
  | [], o, w, blk, h, _ => ⟨blk, h, rfl, fun _ _ => rfl, fun j u hj => by simp at hj⟩
  | v :: r, o, w, blk, h, hs => by
    simp only [List.length_cons] at hs
    obtain ⟨blk', h1, h2, h3, h4⟩ := setCells_blk b T fr r (o + 1) (w.setCell ⟨b, o, none⟩ v) (blk.setIfInBounds o v) (blk_set h o v) (by simp; omega)
    refine ⟨blk', h1, by simpa using h2, fun j hj => ?_, fun j u hj => ?_⟩
    · rw [h3 j (by omega), Array.getElem?_setIfInBounds, if_neg (by omega)]
    · cases j with
      | zero =>
        simp at hj
        subst hj
        rw [h3 _ (by omega), Nat.add_zero, Array.getElem?_setIfInBounds, if_pos rfl, if_pos (by omega)]
      | succ j =>
        rw [show o + (j + 1) = o + 1 + j by omega]
        exact h4 j u (by simpa using hj)
theorem setCells_fr (b : Nat) : ∀ (vs : List Value) (o : Nat) (w : World), Fr (fun k => k = b) w (w.setCells b o vs)
  | [], _, w => Fr.refl _ w
  | v :: r, o, w => ((Fr.refl (fun k => k = b) w).setCell (p := ⟨b, o, none⟩) (.inl rfl) v).trans0 (setCells_fr b r (o + 1) _)
/-- append onto such a slice: it lies in S, or in a new block; of what was there nothing else has turned. -/
theorem run_append_sl {P : Program} (w : World) (S : Nat → Prop) (t ty e : TypeId) (i : TypeInfo) (z : Value) (size bytes : Nat) (ht : P.underlying t = some (.slice e)) (hi : P.info? e = some i) (hz : i.zero = some z)
    (hsize : i.size = size) (hby : i.bytes = bytes) (hzs : z.cells.size = size) (hsz : 0 < size)
    (v : Value) (n : Nat) (xs : List Value) (hown : Sl w S e size v n xs)
    (a : Addr) (m c : Nat) (news : List Value) (hl : news.length = m * size) (hnews : ∀ j u, news[j]? = some u → w.cell? (a.add j) = some u) (h1 : ∀ u ∈ news, u.oneCell' = true)
    (h63 : n + m ≤ maxLen) (hbytes : (n + m) * bytes ≤ 140737488355328) :
    ∃ v' w', (Builtin.append_ #[t, t] ty #[v, .slice (some a) m c]).run P w = .ok v' w' ∧ Sl w' (fun k => S k ∨ w.heap.size ≤ k) e size v' (n + m) (xs ++ news) ∧ Fr S w w' := by
  rcases hown.2 with ⟨rfl, rfl⟩ | ⟨g, off, cap, blk, rfl, hg, hb, g1, g2, g3, g4⟩
  · obtain rfl : xs = [] := List.eq_nil_of_length_eq_zero (by simpa using hown.1)
    obtain ⟨v', w', hrun, r1, r2, _⟩ := run_append_own (P := P) w w.heap.size t ty e i z size bytes ht hi hz hsize hby hzs hsz (.slice none 0 0) 0 [] (World.ownsRow_nil w _ e size) a m c news hl hnews h1 h63 hbytes (Nat.le_refl _)
    exact ⟨v', w', hrun, (Sl.ofOwns r1).mono fun k _ q => .inr q, (Fr.refl S w).grown r2 (by intro k hk; simp [Value.ownBlock] at hk)⟩
  · by_cases hr : n + m ≤ cap
    · subst hsize
      have hm1 : n * i.size + m * i.size ≤ cap * i.size := by rw [← Nat.add_mul]; exact Nat.mul_le_mul_right _ hr
      have hrun := run_append_room_cells (P := P) w t ty e i ht hi g off n cap a m c news hl hnews h1 hr
        (fun j hj => by
          have hlt : off + n * i.size + j < blk.size := by omega
          rw [blk_cell hb (off + n * i.size + j) (Array.getElem?_eq_getElem hlt)]; rfl)
        (fun j hj => blk_froz hb _)
      obtain ⟨blk', q1, q2, q3, q4⟩ := setCells_blk g e (0, 0) news (off + n * i.size) w blk hb (by omega)
      refine ⟨_, _, hrun, ⟨by rw [List.length_append, hown.1, hl, Nat.add_mul], .inr ⟨g, off, cap, blk', rfl, .inl hg, q1, hr, g2, by omega, fun j u hj => ?_⟩⟩, (setCells_fr g news _ w).mono fun k _ e => by rw [e]; exact hg⟩
      rw [List.getElem?_append] at hj
      split at hj
      · next hlt =>
        rw [hown.1] at hlt
        rw [q3 _ (by omega)]
        exact g4 j u hj
      · next hlt =>
        rw [hown.1] at hlt hj
        have := q4 _ u hj
        rwa [show off + n * i.size + (j - n * i.size) = off + j by omega] at this
    · obtain ⟨v', w', hrun, r1, r2⟩ := run_append_arg_grows (P := P) w t ty e i z size bytes ht hi hz hsize hby hzs hsz ⟨g, off, none⟩ n cap xs hown.1 (fun j u hj => by rw [Addr.add_lit]; exact blk_cell hb _ (g4 j u hj)) a m c news hl hnews (by omega) h63 hbytes
      exact ⟨v', w', hrun, (Sl.ofOwns r1).mono fun k _ q => .inr q, (Fr.refl S w).grown r2 (by intro k hk; cases hk)⟩
theorem wpList_append_sl {P : Program} (w : World) {ops : Array Oper} {rest : List Oper} {o : Oper} {a : Act} {Q : Exit → Act → World → Prop} (hgd : o.guard = none) (s x : Operand) (t : TypeId)
    (ho : o.op = .call { callee := .builtin .append, args := #[s, x], argTypes := #[t, t] })
    (S : Nat → Prop) (e : TypeId) (z : Value) (size bytes : Nat) (ht : P.underlying t = some (.slice e)) (hinfo : (P.info? e).map (fun i => (i.zero, i.size, i.bytes)) = some (some z, size, bytes)) (hzs : z.cells.size = size) (hsz : 0 < size)
    (v : Value) (n : Nat) (xs : List Value) (hs : a.eval s = v) (hown : Sl w S e size v n xs)
    (ad : Addr) (m c : Nat) (news : List Value) (hx : a.eval x = .slice (some ad) m c) (hl : news.length = m * size) (hnews : ∀ j u, news[j]? = some u → w.cell? (ad.add j) = some u) (h1 : ∀ u ∈ news, u.oneCell' = true)
    (h63 : n + m ≤ maxLen) (hbytes : (n + m) * bytes ≤ 140737488355328)
    (h : ∀ v' w', Sl w' (fun k => S k ∨ w.heap.size ≤ k) e size v' (n + m) (xs ++ news) → Fr S w w' → wpList P ops Q rest (a.put o.dst v') w') : wpList P ops Q (o :: rest) a w := by
  obtain ⟨i, hi, hz, hs1, hb1⟩ := info_parts hinfo
  refine wpList_plain hgd fun K hK => ?_
  obtain ⟨v', w', hr, h2, h3⟩ := run_append_sl (P := P) w S t o.type e i z size bytes ht hi hz hs1 hb1 hzs hsz v n xs hown ad m c news hl hnews h1 h63 hbytes
  unfold Oper.wp execOp
  simp only [ho, resolve, invoke, builtin, Sem.run_bind, Sem.run_pure, Result.andThen_ok, List.map_toArray, List.map_cons, List.map_nil, hs, hx, hr]
  exact hK _ _ (h v' w' h2 h3)
/-- append(v, y): behind the one-element block that the translation lays for y (cells: ys). -/
theorem wpList_append1 {P : Program} (W : World) {ops : Array Oper} {rest : List Oper} {o : Oper} {a : Act} {Q : Exit → Act → World → Prop} (hgd : o.guard = none) (s x : Operand) (t : TypeId)
    (ho : o.op = .call { callee := .builtin .append, args := #[s, x], argTypes := #[t, t] })
    (S : Nat → Prop) (e : TypeId) (z : Value) (size bytes : Nat) (ht : P.underlying t = some (.slice e)) (hinfo : (P.info? e).map (fun i => (i.zero, i.size, i.bytes)) = some (some z, size, bytes)) (hzs : z.cells.size = size) (hsz : 0 < size)
    (v : Value) (n : Nat) (xs ys : List Value) (hs : a.eval s = v) (hown : Sl W S e size v n xs)
    (hx : a.eval x = .slice (some ⟨W.heap.size, 0, none⟩) 1 1) (hl : ys.length = size) (h1 : ys.all (·.oneCell') = true)
    (hbytes : (n + 1) * bytes ≤ 140737488355328) (hb0 : 0 < bytes)
    (h : ∀ v' w', Sl w' (fun k => S k ∨ W.heap.size ≤ k) e size v' (n + 1) (xs ++ ys) → Fr S W w' → W.heap.size < w'.heap.size → wpList P ops Q rest (a.put o.dst v') w') : wpList P ops Q (o :: rest) a (W.alloc (.cells ys.toArray e)) := by
  have hlen : n + 1 ≤ 140737488355328 := Nat.le_trans (Nat.le_mul_of_pos_right _ hb0) hbytes
  have hown' : Sl (W.alloc (.cells ys.toArray e)) S e size v n xs := hown.fr ((Fr.refl Nob W).alloc _) fun _ _ q => q
  refine wpList_append_sl (W.alloc (.cells ys.toArray e)) hgd s x t ho S e z size bytes ht hinfo hzs hsz v n xs hs hown' ⟨W.heap.size, 0, none⟩ 1 1 ys hx (by omega) (fun j u hj => ?_) (fun u hu => List.all_eq_true.1 h1 u hu) (by simp only [maxLen]; omega) hbytes ?_
  · rw [Addr.add_lit, blk_cell (heap_alloc_new W _)]
    simpa using hj
  · intro v' w' hsl hfr
    refine h v' w' (hsl.mono fun k _ q => ?_) (((Fr.refl S W).alloc _).trans0 hfr) (by have := hfr.size; simp at this; omega)
    rcases q with q | q
    · exact .inl q
    · simp at q; exact .inr (by omega)
/-- append as one step of a region that draws (go_region_held3, go_region_law). -/
theorem step_append_sl {P : Program} {ops : Array Oper} {o : Oper} {a : Act} {K : Act → World → Prop} {Q : Exit → Act → World → Prop} {E : Prop} (w : World) (hg : o.guard = none) (s x : Operand) (t : TypeId)
    (ho : o.op = .call { callee := .builtin .append, args := #[s, x], argTypes := #[t, t] })
    (S : Nat → Prop) (e : TypeId) (z : Value) (size bytes : Nat) (ht : P.underlying t = some (.slice e)) (hinfo : (P.info? e).map (fun i => (i.zero, i.size, i.bytes)) = some (some z, size, bytes)) (hzs : z.cells.size = size) (hsz : 0 < size)
    (v : Value) (n : Nat) (xs : List Value) (hs : a.eval s = v) (hown : Sl w S e size v n xs)
    (ad : Addr) (m c : Nat) (news : List Value) (hx : a.eval x = .slice (some ad) m c) (hl : news.length = m * size) (hnews : ∀ j u, news[j]? = some u → w.cell? (ad.add j) = some u) (h1 : news.all (·.oneCell') = true)
    (hbytes : (n + m) * bytes ≤ 140737488355328) (hb0 : 0 < bytes)
    (h : ∀ v' w', Sl w' (fun k => S k ∨ w.heap.size ≤ k) e size v' (n + m) (xs ++ news) → Fr S w w' → K (a.put o.dst v') w') :
    if Region.wanted o (yielded ops a.tmps) = true then Oper.wp P o a w K Q else E := by
  have hlen : n + m ≤ 140737488355328 := Nat.le_trans (Nat.le_mul_of_pos_right _ hb0) hbytes
  have hw : Region.wanted o (yielded ops a.tmps) = true := by simp [Region.wanted, hg]
  rw [if_pos hw]
  obtain ⟨i, hi, hz, hs1, hb1⟩ := info_parts hinfo
  obtain ⟨v', w', hr, h2, h3⟩ := run_append_sl (P := P) w S t o.type e i z size bytes ht hi hz hs1 hb1 hzs hsz v n xs hown ad m c news hl hnews (fun u hu => List.all_eq_true.1 h1 u hu) (by simp only [maxLen]; omega) hbytes
  unfold Oper.wp execOp
  simp only [ho, resolve, invoke, builtin, Sem.run_bind, Sem.run_pure, Result.andThen_ok, List.map_toArray, List.map_cons, List.map_nil, hs, hx, hr]
  exact h v' w' h2 h3
theorem news_lit (W : World) (ys : List Value) (T : TypeId) (fr : Nat × Nat) (b : Nat) (h : W.heap[b]? = some (.cells ys.toArray T fr)) : ∀ j u, ys[j]? = some u → W.cell? ((⟨b, 0, none⟩ : Addr).add j) = some u := by
  intro j u hj
  rw [Addr.add_lit, blk_cell h]
  simpa using hj
/-! A slice that is read: its elements' cells are there (nil let in) -/
def Rd (w : World) (sz : Nat) (v : Value) (n : Nat) (cs : List Value) : Prop :=
  cs.length = n * sz ∧ n ≤ maxLen ∧ ∃ A cap, v = .slice A n cap ∧ n ≤ cap ∧ cap ≤ maxLen ∧ (0 < n → ∃ g off, A = some ⟨g, off, none⟩ ∧ g < w.heap.size ∧ ∀ j u, cs[j]? = some u → w.cell? ⟨g, off + j, none⟩ = some u)
theorem Sl.rd {w : World} {S : Nat → Prop} {T : TypeId} {sz : Nat} {v : Value} {n : Nat} {cs : List Value} (h : Sl w S T sz v n cs) : Rd w sz v n cs := by
  refine ⟨h.1, h.len_le, ?_⟩
  rcases h.2 with ⟨rfl, rfl⟩ | ⟨g, off, cap, blk, rfl, hg, hb, h1, h2, h3, h4⟩
  · exact ⟨_, _, rfl, Nat.le_refl _, by simp [maxLen], fun h => absurd h (by omega)⟩
  · exact ⟨_, _, rfl, h1, h2, fun _ => ⟨g, off, rfl, lt_of_block hb, fun j u hj => blk_cell hb _ (h4 j u hj)⟩⟩
theorem Rd.fr {w w' : World} {sz : Nat} {v : Value} {n : Nat} {cs : List Value} (h : Rd w sz v n cs) (hf : Fr Nob w w') : Rd w' sz v n cs := by
  obtain ⟨h1, h2, A, cap, hv, h3, h4, h5⟩ := h
  refine ⟨h1, h2, A, cap, hv, h3, h4, fun hn => ?_⟩
  obtain ⟨g, off, hA, hg, hc⟩ := h5 hn
  exact ⟨g, off, hA, Nat.lt_of_lt_of_le hg hf.size, fun j u hj => hf.cell (p := ⟨g, off + j, none⟩) id (hc j u hj)⟩
/-! xs[m:k] -/
theorem Sl.sub {w : World} {S : Nat → Prop} {T : TypeId} {sz n c : Nat} {A : Option Addr} {cs : List Value} (h : Sl w S T sz (.slice A n c) n cs) (m k : Nat) (hm : m ≤ k) (hk : k ≤ n) :
    Sl w S T sz (.slice (if c = m then A else A.map (·.add (m * sz))) (k - m) (c - m)) (k - m) ((cs.drop (m * sz)).take ((k - m) * sz)) := by
  obtain ⟨h1, h2⟩ := h
  have e0 : (k - m) * sz + m * sz = k * sz := by rw [← Nat.add_mul]; congr 1; omega
  have e1 : k * sz ≤ n * sz := Nat.mul_le_mul_right _ hk
  refine ⟨by rw [List.length_take, List.length_drop, h1]; omega, ?_⟩
  rcases h2 with ⟨hv, hn⟩ | ⟨g, off, cap, blk, hv, hg, hb, g1, g2, g3, g4⟩
  · injection hv with a1 a2 a3
    subst a1; subst a3
    left
    have : m = 0 := by omega
    have : k = 0 := by omega
    subst_vars
    exact ⟨rfl, rfl⟩
  · injection hv with a1 a2 a3
    subst a1; subst a3
    right
    by_cases hc : c = m
    · subst hc
      have : k = c := by omega
      subst this
      refine ⟨g, off, 0, blk, by simp, hg, hb, by omega, by simp [maxLen], by omega, fun j u hj => by simp at hj⟩
    · refine ⟨g, off + m * sz, c - m, blk, by rw [if_neg hc]; simp [Addr.add_lit], hg, hb, by omega, by omega, ?_, fun j u hj => ?_⟩
      · have : (c - m) * sz + m * sz = c * sz := by rw [← Nat.add_mul]; congr 1; omega
        omega
      · rw [List.getElem?_take] at hj
        split at hj
        · rw [List.getElem?_drop] at hj
          have := g4 _ u hj
          rwa [← Nat.add_assoc] at this
        · cases hj
theorem Rd.sub {w : World} {sz n c : Nat} {A : Option Addr} {cs : List Value} (h : Rd w sz (.slice A n c) n cs) (m k : Nat) (hm : m ≤ k) (hk : k ≤ n) :
    Rd w sz (.slice (if c = m then A else A.map (·.add (m * sz))) (k - m) (c - m)) (k - m) ((cs.drop (m * sz)).take ((k - m) * sz)) := by
  obtain ⟨h1, h2, A', cap, hv, h3, h4, h5⟩ := h
  injection hv with a1 a2 a3
  subst a1; subst a3
  have e0 : (k - m) * sz + m * sz = k * sz := by rw [← Nat.add_mul]; congr 1; omega
  have e1 : k * sz ≤ n * sz := Nat.mul_le_mul_right _ hk
  refine ⟨by rw [List.length_take, List.length_drop, h1]; omega, by omega, _, _, rfl, by omega, by omega, fun hp => ?_⟩
  obtain ⟨g, off, rfl, hg, hc⟩ := h5 (by omega)
  rw [if_neg (by omega)]
  refine ⟨g, off + m * sz, by simp [Addr.add_lit], hg, fun j u hj => ?_⟩
  rw [List.getElem?_take] at hj
  split at hj
  · rw [List.getElem?_drop] at hj
    have := hc _ u hj
    rwa [← Nat.add_assoc] at this
  · cases hj
section
variable {P : Program} (t e : TypeId) (sz : Nat) (ht : P.underlying t = some (.slice e)) (hi : (P.info? e).map (·.size) = some sz) (A : Option Addr) (n c : Nat)
include ht hi
theorem cut_h (k : Nat) (hk : k ≤ n) (hn : n ≤ c) : ∃ A', (∀ W : World, (Instr.slice t (.slice A n c) none (some (.int .i64 (k : Int))) none).run P W = .ok (.slice A' k c) W) ∧
    (∀ (w : World) (S : Nat → Prop) (T : TypeId) (cs : List Value), Sl w S T sz (.slice A n c) n cs → Sl w S T sz (.slice A' k c) k (cs.take (k * sz))) ∧
    ∀ (w : World) (cs : List Value), Rd w sz (.slice A n c) n cs → Rd w sz (.slice A' k c) k (cs.take (k * sz)) := by
  obtain ⟨i, hi1, hi2⟩ := Option.map_eq_some_iff.1 hi
  have hel : P.elem t = e := by simp [Program.elem, ht]
  refine ⟨if c = 0 then A else A.map (·.add (0 * sz)), fun W => ?_, fun w S T cs h => ?_, fun w cs h => ?_⟩
  · rw [run_slice_h W t A n c (by rw [hel]; exact ht) .i64 (k : Int) (by omega) (by omega), hel]
    simp [sizeOf, typeInfo, hi1, hi2, sliced, Result.andThen]
  · have := h.sub 0 k (Nat.zero_le _) hk
    simpa using this
  · have := h.sub 0 k (Nat.zero_le _) hk
    simpa using this
end
/-! Lists of whole numbers as cells -/
abbrev ints (l : List Int) : List Value := l.map (Value.int .i64)
theorem ints_get {l : List Int} {j : Nat} (h : j < l.length) : (ints l)[j]? = some (.int .i64 (l.getD j 0)) := by simp [List.getD, h]
/-! Two arrays of whole numbers that are alike -/
/-- A case; an instruction: its operation, A, B, C; the value of its cases, these, and its default. -/
abbrev ICs := Bool × Int × Int
abbrev icsEn (c : ICs) : List Value := [.bool c.1, .int .i64 c.2.1, .int .i64 c.2.2]
abbrev Ins := (Int × Int × Int × Int) × Value × List ICs × Bool
abbrev insEn (i : Ins) : List Value := [.int .i64 i.1.1, .int .i64 i.1.2.1, .int .i64 i.1.2.2.1, .int .i64 i.1.2.2.2, i.2.1, .bool i.2.2.2]
abbrev insV (i : Ins) : Value := .agg #[.int .i64 i.1.1, .int .i64 i.1.2.1, .int .i64 i.1.2.2.1, .int .i64 i.1.2.2.2, i.2.1, .bool i.2.2.2]
def InsOk (w : World) (i : Ins) : Prop := Rd w 3 i.2.1 i.2.2.1.length (i.2.2.1.flatMap icsEn)
theorem InsOk.fr {w w' : World} {i : Ins} (h : InsOk w i) (hf : Fr Nob w w') : InsOk w' i := Rd.fr h hf
theorem csGet (cs : List ICs) (k j : Nat) (y : ICs) (h : cs[k]? = some y) (hj : j < 3) : (cs.flatMap icsEn)[k * 3 + j]? = (icsEn y)[j]? := by
  induction cs generalizing k with
  | nil => simp at h
  | cons x cs ih =>
    rw [List.flatMap_cons]
    cases k with
    | zero =>
      simp at h; subst h
      rw [Nat.zero_mul, Nat.zero_add, List.getElem?_append_left (by simpa using hj)]
    | succ k =>
      rw [List.getElem?_append_right (by simp; omega), show (k + 1) * 3 + j - (icsEn x).length = k * 3 + j by simp; omega]
      exact ih k (by simpa using h)
def regB (n : Int) : Bool := decide (0 ≤ n) && decide (n < 8)
def mayB (k n places : Int) : Bool := if k = 114 then regB n else if k = 112 then decide (0 ≤ n) && decide (n ≤ places) else if k = 103 then decide (0 ≤ n) && decide (n < 16) else if k = 45 then n == 0 else true
def fieldsL : List Int := [114, 110, 45, 114, 114, 45, 114, 110, 45, 112, 45, 45, 114, 112, 45, 114, 45, 45, 45, 45, 45, 114, 103, 45, 114, 110, 45, 114, 114, 45, 114, 114, 114, 114, 45, 45, 114, 114, 45, 114, 114, 45, 114, 114, 114, 114, 45, 45, 114, 114, 114, 114, 114, 114, 114, 114, 103, 114, 114, 45, 114, 114, 114, 114, 114, 45, 114, 114, 114, 114, 114, 114, 114, 114, 45, 114, 114, 45, 114, 114, 45, 114, 114, 45, 114, 114, 45, 114, 114, 114, 114, 114, 103, 114, 114, 45]
def kindB (op : Int) (k : Nat) : Int := fieldsL.getD (3 * (op - 1) + k).toNat 0
def csB (c : ICs) : Bool := regB c.2.1 && regB c.2.2 && (c.1 || c.2.2 == 0)
def headB (op : Int) (cs : List ICs) (d : Bool) : Bool := decide (1 ≤ op) && decide (op ≤ 32) && (op == 15 || (cs.length == 0 && !d)) && decide (cs.length ≤ 16)
def goodB (i : Ins) (places : Int) : Bool := headB i.1.1 i.2.2.1 i.2.2.2 && mayB (kindB i.1.1 0) i.1.2.1 places && mayB (kindB i.1.1 1) i.1.2.2.1 places && mayB (kindB i.1.1 2) i.1.2.2.2 places && i.2.2.1.all csB
theorem register_any (w : World) (n : Int) : Calls Tryz.prog 106 #[.int .i64 n] w fun e w' => e = .returned (.bool (regB n)) ∧ w = w' := by
  by_cases h0 : 0 ≤ n
  · by_cases h8 : n < 8
    · have hr : regB n = true := by simp [regB, h0, h8]
      have Hr := Lib.hid hr
      clear hr
      go_enter Tryz.func106, Tryz.ntmps106
      go_wp2
      go_ret
      exact ⟨by rw [Hr.out]; rfl, rfl⟩
    · have hr : regB n = false := by simp [regB, h8]
      have Hr := Lib.hid hr
      have hd : decide (n < 8) = false := by simp; omega
      clear hr
      go_enter Tryz.func106, Tryz.ntmps106
      go_wp2
      go_ret
      exact ⟨by rw [Hr.out]; rfl, rfl⟩
  · have hr : regB n = false := by simp [regB, h0]
    have Hr := Lib.hid hr
    have hd : decide (0 ≤ n) = false := by simp; omega
    clear hr
    go_enter Tryz.func106, Tryz.ntmps106
    go_wp2
    go_ret
    exact ⟨by rw [Hr.out]; rfl, rfl⟩
theorem may_any (w : World) (k n places : Int) : Calls Tryz.prog 103 #[.int .u8 k, .int .i64 n, .int .i64 places] w fun e w' => e = .returned (.bool (mayB k n places)) ∧ w = w' := by
  have hreg := register_any w n
  by_cases h1 : k = 114
  · subst h1
    have hm : mayB 114 n places = regB n := rfl
    rw [hm]
    have Hreg := Lib.hid hreg
    clear hreg hm
    generalize regB n = r at *
    go_enter Tryz.func103, Tryz.ntmps103
    go_wp2_with fail
    refine Hreg.out.mono ?_
    rintro e w' ⟨rfl, rfl⟩
    go_wp2_with fail
    go_ret
    exact ⟨rfl, rfl⟩
  · clear hreg
    have e1 : (k == 114) = false := beq_eq_false_iff_ne.2 h1
    by_cases h2 : k = 112
    · subst h2
      have hm : mayB 112 n places = (decide (0 ≤ n) && decide (n ≤ places)) := rfl
      by_cases h0 : 0 ≤ n
      · by_cases h8 : n ≤ places
        · have Hr : Hid (mayB 112 n places = true) := by rw [hm]; exact Lib.hid (by simp [h0, h8])
          clear hm
          go_enter Tryz.func103, Tryz.ntmps103
          go_wp2
          go_ret
          exact ⟨by rw [Hr.out]; rfl, rfl⟩
        · have Hr : Hid (mayB 112 n places = false) := by rw [hm]; exact Lib.hid (by simp [h8])
          have hd : decide (n ≤ places) = false := by simp; omega
          clear hm
          go_enter Tryz.func103, Tryz.ntmps103
          go_wp2
          go_ret
          exact ⟨by rw [Hr.out]; rfl, rfl⟩
      · have Hr : Hid (mayB 112 n places = false) := by rw [hm]; exact Lib.hid (by simp [h0])
        have hd : decide (0 ≤ n) = false := by simp; omega
        clear hm
        go_enter Tryz.func103, Tryz.ntmps103
        go_wp2
        go_ret
        exact ⟨by rw [Hr.out]; rfl, rfl⟩
    · have e2 : (k == 112) = false := beq_eq_false_iff_ne.2 h2
      by_cases h3 : k = 103
      · subst h3
        have hm : mayB 103 n places = (decide (0 ≤ n) && decide (n < 16)) := rfl
        by_cases h0 : 0 ≤ n
        · by_cases h8 : n < 16
          · have Hr : Hid (mayB 103 n places = true) := by rw [hm]; exact Lib.hid (by simp [h0, h8])
            clear hm
            go_enter Tryz.func103, Tryz.ntmps103
            go_wp2
            go_ret
            exact ⟨by rw [Hr.out]; rfl, rfl⟩
          · have Hr : Hid (mayB 103 n places = false) := by rw [hm]; exact Lib.hid (by simp [h8])
            have hd : decide (n < 16) = false := by simp; omega
            clear hm
            go_enter Tryz.func103, Tryz.ntmps103
            go_wp2
            go_ret
            exact ⟨by rw [Hr.out]; rfl, rfl⟩
        · have Hr : Hid (mayB 103 n places = false) := by rw [hm]; exact Lib.hid (by simp [h0])
          have hd : decide (0 ≤ n) = false := by simp; omega
          clear hm
          go_enter Tryz.func103, Tryz.ntmps103
          go_wp2
          go_ret
          exact ⟨by rw [Hr.out]; rfl, rfl⟩
      · have e3 : (k == 103) = false := beq_eq_false_iff_ne.2 h3
        by_cases h4 : k = 45
        · subst h4
          have hm : mayB 45 n places = (n == 0) := rfl
          rw [hm]
          clear hm
          generalize hz : (n == 0) = z
          go_enter Tryz.func103, Tryz.ntmps103
          go_wp2
          go_ret
          exact ⟨rfl, rfl⟩
        · have e4 : (k == 45) = false := beq_eq_false_iff_ne.2 h4
          have hm : mayB k n places = true := by simp [mayB, h1, h2, h3, h4]
          have Hm := Lib.hid hm
          clear hm h1 h2 h3 h4
          go_enter Tryz.func103, Tryz.ntmps103
          go_wp2
          go_ret
          exact ⟨by rw [Hm.out]; rfl, rfl⟩
/-- Of a case: that it may not be. -/
theorem bad_case (w : World) (c : ICs) : Calls Tryz.prog 105 #[.agg #[.bool c.1, .int .i64 c.2.1, .int .i64 c.2.2]] w fun e w' => e = .returned (.bool (!(csB c))) ∧ Fr Nob w w' := by
  obtain ⟨s, x, y⟩ := c
  have hr1 := fun w => register_any w x
  have hr2 := fun w => register_any w y
  have hcs : csB (s, x, y) = (regB x && regB y && (s || y == 0)) := rfl
  rw [hcs]
  generalize regB x = r1 at *
  generalize regB y = r2 at *
  have H1 := Lib.hid hr1; have H2 := Lib.hid hr2
  clear hr1 hr2 hcs
  cases r1 with
  | false =>
    go_enter Tryz.func105, Tryz.ntmps105
    go_wp2_with fail
    refine (H1.out _).mono ?_
    rintro e w' ⟨rfl, rfl⟩
    go_wp2_with fail
    go_ret
    exact ⟨rfl, (Fr.refl _ _).alloc _⟩
  | true =>
    cases r2 with
    | false =>
      go_enter Tryz.func105, Tryz.ntmps105
      go_wp2_with fail
      refine (H1.out _).mono ?_
      rintro e w' ⟨rfl, rfl⟩
      go_wp2_with fail
      refine (H2.out _).mono ?_
      rintro e w' ⟨rfl, rfl⟩
      go_wp2_with fail
      go_ret
      exact ⟨rfl, (Fr.refl _ _).alloc _⟩
    | true =>
      cases s with
      | true =>
        go_enter Tryz.func105, Tryz.ntmps105
        go_wp2_with fail
        refine (H1.out _).mono ?_
        rintro e w' ⟨rfl, rfl⟩
        go_wp2_with fail
        refine (H2.out _).mono ?_
        rintro e w' ⟨rfl, rfl⟩
        go_wp2_with fail
        go_ret
        exact ⟨rfl, (Fr.refl _ _).alloc _⟩
      | false =>
        by_cases hy : y = 0
        · subst hy
          go_enter Tryz.func105, Tryz.ntmps105
          go_wp2_with fail
          refine (H1.out _).mono ?_
          rintro e w' ⟨rfl, rfl⟩
          go_wp2_with fail
          refine (H2.out _).mono ?_
          rintro e w' ⟨rfl, rfl⟩
          go_wp2_with fail
          go_ret
          exact ⟨rfl, (Fr.refl _ _).alloc _⟩
        · have e1 : (y == 0) = false := beq_eq_false_iff_ne.2 hy
          have e2 : (y != 0) = true := by simp [hy]
          have hv : (!(true && true && (false || y == 0))) = true := by rw [e1]; rfl
          have Hv := Lib.hid hv
          clear hv hy
          go_enter Tryz.func105, Tryz.ntmps105
          go_wp2_with fail
          refine (H1.out _).mono ?_
          rintro e w' ⟨rfl, rfl⟩
          go_wp2_with fail
          refine (H2.out _).mono ?_
          rintro e w' ⟨rfl, rfl⟩
          go_wp2_with fail
          go_ret
          exact ⟨by rw [Hv.out]; rfl, (Fr.refl _ _).alloc _⟩
def IxP (P : Bool) (w : World) (e : Ending) (w' : World) : Prop := ∃ r : Int, e = .returned (.int .i64 r) ∧ decide (0 ≤ r) = P ∧ Fr Nob w w'
set_option maxHeartbeats 1000000 in
theorem index_cases (w : World) (v : Value) (cs : List ICs) (n : Nat) (hn : cs.length = n) (h : Rd w 3 v n (cs.flatMap icsEn)) :
    Calls Tryz.prog 154 #[v, .func (.func 105) #[] #[]] w (IxP (cs.any fun c => !(csB c)) w) := by
  obtain ⟨_, hl, A, c, rfl, hc1, hc2, hA⟩ := h
  unfold maxLen at hl
  have hyes : ∀ (k : Nat) (x : ICs), cs[k]? = some x → csB x = false → (cs.any fun c => !(csB c)) = true := fun k x hk e => List.any_eq_true.2 ⟨x, List.mem_of_getElem? hk, by simp [e]⟩
  have hno : (∀ (k : Nat) (x : ICs), k < n → cs[k]? = some x → csB x = true) → (cs.any fun c => !(csB c)) = false := fun hh => by
    rw [List.any_eq_false]
    intro y hy
    obtain ⟨k, hk, e⟩ := List.mem_iff_getElem.1 hy
    have := hh k y (by omega) (by rw [List.getElem?_eq_getElem hk, e])
    simp [this]
  have hg : ∀ k, k < n → ∃ x : ICs, cs[k]? = some x ∧ (cs.flatMap icsEn)[k * 3]? = some (.bool x.1) ∧ (cs.flatMap icsEn)[k * 3 + 1]? = some (.int .i64 x.2.1) ∧ (cs.flatMap icsEn)[k * 3 + 2]? = some (.int .i64 x.2.2) := fun k hk => by
    have h0 : cs[k]? = some (cs[k]'(by omega)) := by simp
    refine ⟨_, h0, ?_, ?_, ?_⟩
    · exact csGet cs k 0 _ h0 (by omega)
    · exact csGet cs k 1 _ h0 (by omega)
    · exact csGet cs k 2 _ h0 (by omega)
  have HA := Lib.hid hA; have Hyes := Lib.hid hyes; have Hno := Lib.hid hno; have Hg := Lib.hid hg
  generalize (cs.any fun c => !(csB c)) = P at *
  clear hA hyes hno hg
  go_enter Tryz.func154, Tryz.ntmps154
  go_wp2_with fail
  go_loopw [8] (fun i wr => ∃ k : Nat, k ≤ n ∧ i = .int .i64 k ∧ Fr Nob w wr ∧ Hid (∀ (j : Nat) (x : ICs), j < k → cs[j]? = some x → csB x = true)) (fun i _ => n - (intOf i).toNat)
  case atStart => exact ⟨0, Nat.zero_le _, rfl, Fr.refl _ _, Lib.hid fun j x hj => by omega⟩
  case round =>
    obtain ⟨k, hk, rfl, hfr, hall⟩ := hrel
    have Hfr := Lib.hid hfr
    clear hfr
    by_cases hlt : k < n
    · obtain ⟨x, hx, q0, q1, q2⟩ := Hg.out k hlt
      obtain ⟨g, o, rfl, hgl, hc⟩ := HA.out (by omega)
      have x0 := Hfr.out.cell (p := ⟨g, o + k * 3, none⟩) id (hc _ _ q0)
      have x1 := Hfr.out.cell (p := ⟨g, o + (k * 3 + 1), none⟩) id (hc _ _ q1)
      have x2 := Hfr.out.cell (p := ⟨g, o + (k * 3 + 2), none⟩) id (hc _ _ q2)
      rw [← Nat.add_assoc] at x1 x2
      have hbc := fun W => bad_case W x
      have hy := Hyes.out k x hx
      have hall2 : csB x = true → ∀ (j : Nat) (y : ICs), j < k + 1 → cs[j]? = some y → csB y = true := fun hb j y hj hy => by
        by_cases hjk : j = k
        · subst hjk; rw [hx] at hy; cases hy; exact hb
        · exact hall.out j y (by omega) hy
      obtain ⟨s, a, b⟩ := x
      dsimp only at x0 x1 x2 hbc
      generalize csB (s, a, b) = r at *
      have Hbc := Lib.hid hbc; have Hy := Lib.hid hy; have Hall2 := Lib.hid hall2
      have hki : (k : Int) < n := by omega
      clear hc q0 q1 q2 hx hbc hy hall2
      cases r with
      | true =>
        have Hn2 := Lib.hid (Hall2.out rfl)
        go_wp2_with fail
        refine (Hbc.out _).mono ?_
        rintro e w2 ⟨rfl, hf2⟩
        have Hf2 := Lib.hid (Hfr.out.trans0 hf2)
        clear hf2
        go_wp2_with fail
        go_roundw
        case rel => exact ⟨k + 1, by omega, by go_num, Hf2.out, Hn2⟩
        case measure => simp [intOf]; omega
      | false =>
        have hP := Hy.out rfl
        have HP := Lib.hid hP
        clear hP
        go_wp2_with fail
        refine (Hbc.out _).mono ?_
        rintro e w2 ⟨rfl, hf2⟩
        have Hf2 := Lib.hid (Hfr.out.trans0 hf2)
        clear hf2
        go_wp2_with fail
        go_ret
        exact ⟨k, rfl, by rw [HP.out]; simp, Hf2.out⟩
    · obtain rfl : k = n := by omega
      have HP := Lib.hid (Hno.out fun j x hj hx => hall.out j x hj hx)
      go_wp2_with fail
      go_ret
      exact ⟨-1, rfl, by rw [HP.out]; rfl, Hfr.out⟩
theorem contains_cases (w : World) (v : Value) (cs : List ICs) (n : Nat) (hn : cs.length = n) (h : Rd w 3 v n (cs.flatMap icsEn)) :
    Calls Tryz.prog 104 #[v, .func (.func 105) #[] #[]] w fun e w' => e = .returned (.bool (cs.any fun c => !(csB c))) ∧ Fr Nob w w' := by
  have H := Lib.hid (index_cases w v cs n hn h)
  obtain ⟨_, _, A, c, rfl, _⟩ := h
  generalize (cs.any fun c => !(csB c)) = P at *
  go_enter Tryz.func104, Tryz.ntmps104
  go_wp2_with fail
  refine H.out.mono ?_
  rintro e w' ⟨r, rfl, hr, hf⟩
  have Hf := Lib.hid hf; have Hr := Lib.hid hr
  clear hf hr
  go_wp2_with fail
  go_ret
  exact ⟨by rw [← Hr.out]; rfl, Hf.out⟩
theorem good_no_low (w : World) (op a b c : Int) (A : Option Addr) (m cp : Nat) (d : Bool) (places : Int) (h : op < 1) :
    Calls Tryz.prog 64 #[.agg #[.int .i64 op, .int .i64 a, .int .i64 b, .int .i64 c, .slice A m cp, .bool d], .int .i64 places] w fun e w' => e = .returned (.bool false) ∧ Fr Nob w w' := by
  have h1 : decide (op < 1) = true := by simp; omega
  go_enter Tryz.func64, Tryz.ntmps64
  go_wp2_with fail
  go_ret
  exact ⟨rfl, (Fr.refl _ _).alloc _⟩
theorem good_no_high (w : World) (op a b c : Int) (A : Option Addr) (m cp : Nat) (d : Bool) (places : Int) (h : 32 < op) :
    Calls Tryz.prog 64 #[.agg #[.int .i64 op, .int .i64 a, .int .i64 b, .int .i64 c, .slice A m cp, .bool d], .int .i64 places] w fun e w' => e = .returned (.bool false) ∧ Fr Nob w w' := by
  have h0 : ¬ op < 1 := by omega
  have h00 : decide (op < 1) = false := by simp; omega
  have h1 : decide ((32 : Int) < op) = true := by simp; omega
  go_enter Tryz.func64, Tryz.ntmps64
  go_wp2_with fail
  go_ret
  exact ⟨rfl, (Fr.refl _ _).alloc _⟩
theorem good_no_cases (w : World) (op a b c : Int) (A : Option Addr) (m cp : Nat) (d : Bool) (places : Int) (h1 : 1 ≤ op) (h2 : op ≤ 32) (h3 : op ≠ 15) (h4 : 0 < m) :
    Calls Tryz.prog 64 #[.agg #[.int .i64 op, .int .i64 a, .int .i64 b, .int .i64 c, .slice A m cp, .bool d], .int .i64 places] w fun e w' => e = .returned (.bool false) ∧ Fr Nob w w' := by
  have e1 : decide (op < 1) = false := by simp; omega
  have e2 : decide ((32 : Int) < op) = false := by simp; omega
  have e3 : (op != 15) = true := by simp [h3]
  have e4 : decide ((0 : Int) < (m : Int)) = true := by simp; omega
  have e5 : decide (0 < m) = true := by simp; omega
  clear h3
  go_enter Tryz.func64, Tryz.ntmps64
  go_wp2_with fail
  go_ret
  exact ⟨rfl, (Fr.refl _ _).alloc _⟩
theorem good_no_def (w : World) (op a b c : Int) (A : Option Addr) (m cp : Nat) (d : Bool) (places : Int) (h1 : 1 ≤ op) (h2 : op ≤ 32) (h3 : op ≠ 15) :
    Calls Tryz.prog 64 #[.agg #[.int .i64 op, .int .i64 a, .int .i64 b, .int .i64 c, .slice A 0 cp, .bool true], .int .i64 places] w fun e w' => e = .returned (.bool false) ∧ Fr Nob w w' := by
  have e1 : decide (op < 1) = false := by simp; omega
  have e2 : decide ((32 : Int) < op) = false := by simp; omega
  have e3 : (op != 15) = true := by simp [h3]
  clear h3
  go_enter Tryz.func64, Tryz.ntmps64
  go_wp2_with fail
  go_ret
  exact ⟨rfl, (Fr.refl _ _).alloc _⟩
theorem good_no_many (w : World) (op a b c : Int) (A : Option Addr) (m cp : Nat) (d : Bool) (places : Int) (h4 : 16 < m) :
    Calls Tryz.prog 64 #[.agg #[.int .i64 15, .int .i64 a, .int .i64 b, .int .i64 c, .slice A m cp, .bool d], .int .i64 places] w fun e w' => e = .returned (.bool false) ∧ Fr Nob w w' := by
  have e4 : decide ((16 : Int) < (m : Int)) = true := by simp; omega
  have e5 : decide (16 < m) = true := by simp; omega
  go_enter Tryz.func64, Tryz.ntmps64
  go_wp2_with fail
  go_ret
  exact ⟨rfl, (Fr.refl _ _).alloc _⟩
def fieldsB : ByteArray := ⟨([114, 110, 45, 114, 114, 45, 114, 110, 45, 112, 45, 45, 114, 112, 45, 114, 45, 45, 45, 45, 45, 114, 103, 45, 114, 110, 45, 114, 114, 45, 114, 114, 114, 114, 45, 45, 114, 114, 45, 114, 114, 45, 114, 114, 114, 114, 45, 45, 114, 114, 114, 114, 114, 114, 114, 114, 103, 114, 114, 45, 114, 114, 114, 114, 114, 45, 114, 114, 114, 114, 114, 114, 114, 114, 45, 114, 114, 45, 114, 114, 45, 114, 114, 45, 114, 114, 45, 114, 114, 114, 114, 114, 103, 114, 114, 45] : List UInt8).toArray⟩
theorem kind_tab (t : Nat) (h : t < fieldsB.size) : ((fieldsB[t]'h).toNat : Int) = fieldsL.getD t 0 := by
  have key : ∀ u : Fin fieldsB.size, ((fieldsB[u.1]'u.2).toNat : Int) = fieldsL.getD u.1 0 := by decide
  exact key ⟨t, h⟩
theorem kind0 (op : Int) (h : (3 * (op - 1)).toNat < fieldsB.size) : ((fieldsB[(3 * (op - 1)).toNat]'h).toNat : Int) = kindB op 0 := (kind_tab _ h).trans (by unfold kindB; simp)
theorem kind1 (op : Int) (h : (3 * (op - 1) + 1).toNat < fieldsB.size) : ((fieldsB[(3 * (op - 1) + 1).toNat]'h).toNat : Int) = kindB op 1 := kind_tab _ h
theorem kind2 (op : Int) (h : (3 * (op - 1) + 2).toNat < fieldsB.size) : ((fieldsB[(3 * (op - 1) + 2).toNat]'h).toNat : Int) = kindB op 2 := kind_tab _ h
theorem may_at (w : World) (k n places kd : Int) (h : k = kd) : Calls Tryz.prog 103 #[.int .u8 k, .int .i64 n, .int .i64 places] w fun e w' => e = .returned (.bool (mayB kd n places)) ∧ w = w' := by
  subst h; exact may_any w k n places
set_option maxHeartbeats 4000000 in
theorem good_yes_plain (w : World) (op a b c : Int) (A : Option Addr) (m cp : Nat) (d : Bool) (places : Int) (cs : List ICs) (h1 : 1 ≤ op) (h2 : op ≤ 32) (h3 : op ≠ 15) (hA : Rd w 3 (.slice A 0 cp) 0 ((([] : List ICs)).flatMap icsEn)) :
    Calls Tryz.prog 64 #[.agg #[.int .i64 op, .int .i64 a, .int .i64 b, .int .i64 c, .slice A 0 cp, .bool false], .int .i64 places] w fun e w' => e = .returned (.bool (mayB (kindB op 0) a places && mayB (kindB op 1) b places && mayB (kindB op 2) c places && (([] : List ICs)).all csB)) ∧ Fr Nob w w' := by
  have e1 : decide (op < 1) = false := by simp; omega
  have e2 : decide ((32 : Int) < op) = false := by simp; omega
  have e3 : (op != 15) = true := by simp [h3]
  clear h3
  obtain ⟨r0, hr0⟩ : ∃ r, r = mayB (kindB op 0) a places := ⟨_, rfl⟩
  obtain ⟨r1, hr1⟩ : ∃ r, r = mayB (kindB op 1) b places := ⟨_, rfl⟩
  obtain ⟨r2, hr2⟩ : ∃ r, r = mayB (kindB op 2) c places := ⟨_, rfl⟩
  rw [← hr0, ← hr1, ← hr2]
  have hm0 := fun W k (hk : k = kindB op 0) => may_at W k a places _ hk
  have hm1 := fun W k (hk : k = kindB op 1) => may_at W k b places _ hk
  have hm2 := fun W k (hk : k = kindB op 2) => may_at W k c places _ hk
  rw [← hr0] at hm0
  rw [← hr1] at hm1
  rw [← hr2] at hm2
  have Hm0 := Lib.hid hm0; have Hm1 := Lib.hid hm1; have Hm2 := Lib.hid hm2
  have Hrd := Lib.hid hA
  clear hA hr0 hr1 hr2 hm0 hm1 hm2
  go_enter Tryz.func64, Tryz.ntmps64
  go_wp2_with fail
  obtain ⟨w0, hw0⟩ : ∃ w0, w0 = (w.alloc (.cells #[.int .i64 op, .int .i64 a, .int .i64 b, .int .i64 c, .slice A 0 cp, .bool false] 25)).alloc (.cells #[.int .i64 a, .int .i64 b, .int .i64 c] 3) := ⟨_, rfl⟩
  rw [← hw0]
  have hf0 : Fr Nob w w0 := by rw [hw0]; exact ((Fr.refl _ _).alloc _).alloc _
  have hb1 : w0.heap[w.heap.size]? = some (.cells #[.int .i64 op, .int .i64 a, .int .i64 b, .int .i64 c, .slice A 0 cp, .bool false] 25 (0, 0)) := by rw [hw0, blk_alloc_ne _ (by simp)]; exact heap_alloc_new _ _
  have hb2 : w0.heap[w.heap.size + 1]? = some (.cells #[.int .i64 a, .int .i64 b, .int .i64 c] 3 (0, 0)) := by rw [hw0]; exact blk_alloc_eq _ (by simp)
  obtain ⟨bb, hbb⟩ : ∃ bb, bb = w.heap.size := ⟨_, rfl⟩
  rw [← hbb] at hb1 hb2 ⊢
  have x0 : w0.cell? ⟨bb, 0, none⟩ = some (.int .i64 op) := blk_cell hb1 0 rfl
  have x4 : w0.cell? ⟨bb, 4, none⟩ = some (.slice A 0 cp) := blk_cell hb1 4 rfl
  have y0 : w0.cell? ⟨bb + 1, 0, none⟩ = some (.int .i64 a) := blk_cell hb2 0 rfl
  have y1 : w0.cell? ⟨bb + 1, 1, none⟩ = some (.int .i64 b) := blk_cell hb2 1 rfl
  have y2 : w0.cell? ⟨bb + 1, 2, none⟩ = some (.int .i64 c) := blk_cell hb2 2 rfl
  have Hf0 := Lib.hid hf0
  clear hw0 hf0 hb1 hb2 hbb
  go_loopw [44] (fun i wr => ∃ k : Nat, k ≤ 3 ∧ i = .int .i64 k ∧ Hid ((0 < k → r0 = true) ∧ (1 < k → r1 = true) ∧ (2 < k → r2 = true)) ∧ w0 = wr) (fun i _ => 3 - (intOf i).toNat)
  case atStart => exact ⟨0, by omega, rfl, Lib.hid ⟨fun h => by omega, fun h => by omega, fun h => by omega⟩, rfl⟩
  case round =>
    obtain ⟨k, hk, rfl, hrs, rfl⟩ := hrel
    rcases (by omega : k = 0 ∨ k = 1 ∨ k = 2 ∨ k = 3) with rfl | rfl | rfl | rfl
    · go_wp2_with fail
      refine (Hm0.out w0 _ ?_).mono ?_
      · exact kind0 op _
      rintro e w' ⟨rfl, rfl⟩
      cases r0 with
      | true =>
        have hrs2 : Hid ((0 < 1 → true = true) ∧ (1 < 1 → r1 = true) ∧ (2 < 1 → r2 = true)) := Lib.hid ⟨fun _ => rfl, fun h => by omega, fun h => by omega⟩
        go_wp2_with fail
        go_roundw
        case rel => exact ⟨1, by omega, rfl, hrs2, by first | rfl | trivial⟩
        case measure => simp [intOf]
      | false =>
        go_wp2_with fail
        go_ret
        exact ⟨by simp, Hf0.out⟩
    · go_wp2_with fail
      refine (Hm1.out w0 _ ?_).mono ?_
      · exact kind1 op _
      rintro e w' ⟨rfl, rfl⟩
      cases r1 with
      | true =>
        have hrs2 : Hid ((0 < 2 → r0 = true) ∧ (1 < 2 → true = true) ∧ (2 < 2 → r2 = true)) := Lib.hid ⟨fun _ => hrs.out.1 (by omega), fun h => rfl, fun h => by omega⟩
        go_wp2_with fail
        go_roundw
        case rel => exact ⟨2, by omega, rfl, hrs2, by first | rfl | trivial⟩
        case measure => simp [intOf]
      | false =>
        go_wp2_with fail
        go_ret
        exact ⟨by simp, Hf0.out⟩
    · go_wp2_with fail
      refine (Hm2.out w0 _ ?_).mono ?_
      · exact kind2 op _
      rintro e w' ⟨rfl, rfl⟩
      cases r2 with
      | true =>
        have hrs2 : Hid ((0 < 3 → r0 = true) ∧ (1 < 3 → r1 = true) ∧ (2 < 3 → true = true)) := Lib.hid ⟨fun _ => hrs.out.1 (by omega), fun h => hrs.out.2.1 (by omega), fun h => rfl⟩
        go_wp2_with fail
        go_roundw
        case rel => exact ⟨3, by omega, rfl, hrs2, by first | rfl | trivial⟩
        case measure => simp [intOf]
      | false =>
        go_wp2_with fail
        go_ret
        exact ⟨by simp, Hf0.out⟩
    · obtain ⟨q0, q1, q2⟩ := hrs.out
      obtain rfl := q0 (by omega)
      obtain rfl := q1 (by omega)
      obtain rfl := q2 (by omega)
      clear q0 q1 q2 hrs
      go_wp2_with fail
      refine (contains_cases w0 _ (([] : List ICs)) 0 rfl (Hrd.out.fr Hf0.out)).mono ?_
      rintro e w' ⟨rfl, hf⟩
      have Hf := Lib.hid (Hf0.out.trans0 hf)
      clear hf
      go_wp2_with fail
      go_ret
      exact ⟨by rfl, Hf.out⟩
set_option maxHeartbeats 4000000 in
theorem good_yes_select (w : World) (op a b c : Int) (A : Option Addr) (m cp : Nat) (d : Bool) (places : Int) (cs : List ICs) (hcs : cs.length = m) (hm : m ≤ 16) (hA : Rd w 3 (.slice A m cp) m ((cs).flatMap icsEn)) :
    Calls Tryz.prog 64 #[.agg #[.int .i64 15, .int .i64 a, .int .i64 b, .int .i64 c, .slice A m cp, .bool d], .int .i64 places] w fun e w' => e = .returned (.bool (mayB (kindB 15 0) a places && mayB (kindB 15 1) b places && mayB (kindB 15 2) c places && (cs).all csB)) ∧ Fr Nob w w' := by
  have e4 : decide ((16 : Int) < (m : Int)) = false := by simp; omega
  have e5 : decide (16 < m) = false := by simp; omega
  obtain ⟨r0, hr0⟩ : ∃ r, r = mayB (kindB 15 0) a places := ⟨_, rfl⟩
  obtain ⟨r1, hr1⟩ : ∃ r, r = mayB (kindB 15 1) b places := ⟨_, rfl⟩
  obtain ⟨r2, hr2⟩ : ∃ r, r = mayB (kindB 15 2) c places := ⟨_, rfl⟩
  rw [← hr0, ← hr1, ← hr2]
  have hm0 := fun W k (hk : k = kindB 15 0) => may_at W k a places _ hk
  have hm1 := fun W k (hk : k = kindB 15 1) => may_at W k b places _ hk
  have hm2 := fun W k (hk : k = kindB 15 2) => may_at W k c places _ hk
  rw [← hr0] at hm0
  rw [← hr1] at hm1
  rw [← hr2] at hm2
  have Hm0 := Lib.hid hm0; have Hm1 := Lib.hid hm1; have Hm2 := Lib.hid hm2
  have Hrd := Lib.hid hA
  clear hA hr0 hr1 hr2 hm0 hm1 hm2
  go_enter Tryz.func64, Tryz.ntmps64
  go_wp2_with fail
  obtain ⟨w0, hw0⟩ : ∃ w0, w0 = (w.alloc (.cells #[.int .i64 15, .int .i64 a, .int .i64 b, .int .i64 c, .slice A m cp, .bool d] 25)).alloc (.cells #[.int .i64 a, .int .i64 b, .int .i64 c] 3) := ⟨_, rfl⟩
  rw [← hw0]
  have hf0 : Fr Nob w w0 := by rw [hw0]; exact ((Fr.refl _ _).alloc _).alloc _
  have hb1 : w0.heap[w.heap.size]? = some (.cells #[.int .i64 15, .int .i64 a, .int .i64 b, .int .i64 c, .slice A m cp, .bool d] 25 (0, 0)) := by rw [hw0, blk_alloc_ne _ (by simp)]; exact heap_alloc_new _ _
  have hb2 : w0.heap[w.heap.size + 1]? = some (.cells #[.int .i64 a, .int .i64 b, .int .i64 c] 3 (0, 0)) := by rw [hw0]; exact blk_alloc_eq _ (by simp)
  obtain ⟨bb, hbb⟩ : ∃ bb, bb = w.heap.size := ⟨_, rfl⟩
  rw [← hbb] at hb1 hb2 ⊢
  have x0 : w0.cell? ⟨bb, 0, none⟩ = some (.int .i64 15) := blk_cell hb1 0 rfl
  have x4 : w0.cell? ⟨bb, 4, none⟩ = some (.slice A m cp) := blk_cell hb1 4 rfl
  have y0 : w0.cell? ⟨bb + 1, 0, none⟩ = some (.int .i64 a) := blk_cell hb2 0 rfl
  have y1 : w0.cell? ⟨bb + 1, 1, none⟩ = some (.int .i64 b) := blk_cell hb2 1 rfl
  have y2 : w0.cell? ⟨bb + 1, 2, none⟩ = some (.int .i64 c) := blk_cell hb2 2 rfl
  have Hf0 := Lib.hid hf0
  clear hw0 hf0 hb1 hb2 hbb
  go_loopw [44] (fun i wr => ∃ k : Nat, k ≤ 3 ∧ i = .int .i64 k ∧ Hid ((0 < k → r0 = true) ∧ (1 < k → r1 = true) ∧ (2 < k → r2 = true)) ∧ w0 = wr) (fun i _ => 3 - (intOf i).toNat)
  case atStart => exact ⟨0, by omega, rfl, Lib.hid ⟨fun h => by omega, fun h => by omega, fun h => by omega⟩, rfl⟩
  case round =>
    obtain ⟨k, hk, rfl, hrs, rfl⟩ := hrel
    rcases (by omega : k = 0 ∨ k = 1 ∨ k = 2 ∨ k = 3) with rfl | rfl | rfl | rfl
    · go_wp2_with fail
      refine (Hm0.out w0 _ ?_).mono ?_
      · rfl
      rintro e w' ⟨rfl, rfl⟩
      cases r0 with
      | true =>
        have hrs2 : Hid ((0 < 1 → true = true) ∧ (1 < 1 → r1 = true) ∧ (2 < 1 → r2 = true)) := Lib.hid ⟨fun _ => rfl, fun h => by omega, fun h => by omega⟩
        go_wp2_with fail
        go_roundw
        case rel => exact ⟨1, by omega, rfl, hrs2, by first | rfl | trivial⟩
        case measure => simp [intOf]
      | false =>
        go_wp2_with fail
        go_ret
        exact ⟨by simp, Hf0.out⟩
    · go_wp2_with fail
      refine (Hm1.out w0 _ ?_).mono ?_
      · rfl
      rintro e w' ⟨rfl, rfl⟩
      cases r1 with
      | true =>
        have hrs2 : Hid ((0 < 2 → r0 = true) ∧ (1 < 2 → true = true) ∧ (2 < 2 → r2 = true)) := Lib.hid ⟨fun _ => hrs.out.1 (by omega), fun h => rfl, fun h => by omega⟩
        go_wp2_with fail
        go_roundw
        case rel => exact ⟨2, by omega, rfl, hrs2, by first | rfl | trivial⟩
        case measure => simp [intOf]
      | false =>
        go_wp2_with fail
        go_ret
        exact ⟨by simp, Hf0.out⟩
    · go_wp2_with fail
      refine (Hm2.out w0 _ ?_).mono ?_
      · rfl
      rintro e w' ⟨rfl, rfl⟩
      cases r2 with
      | true =>
        have hrs2 : Hid ((0 < 3 → r0 = true) ∧ (1 < 3 → r1 = true) ∧ (2 < 3 → true = true)) := Lib.hid ⟨fun _ => hrs.out.1 (by omega), fun h => hrs.out.2.1 (by omega), fun h => rfl⟩
        go_wp2_with fail
        go_roundw
        case rel => exact ⟨3, by omega, rfl, hrs2, by first | rfl | trivial⟩
        case measure => simp [intOf]
      | false =>
        go_wp2_with fail
        go_ret
        exact ⟨by simp, Hf0.out⟩
    · obtain ⟨q0, q1, q2⟩ := hrs.out
      obtain rfl := q0 (by omega)
      obtain rfl := q1 (by omega)
      obtain rfl := q2 (by omega)
      clear q0 q1 q2 hrs
      go_wp2_with fail
      refine (contains_cases w0 _ (cs) m hcs (Hrd.out.fr Hf0.out)).mono ?_
      rintro e w' ⟨rfl, hf⟩
      have Hf := Lib.hid (Hf0.out.trans0 hf)
      clear hf
      go_wp2_with fail
      go_ret
      exact ⟨by rw [List.any_eq_not_all_not]; simp, Hf.out⟩
theorem good_any (w : World) (i : Ins) (places : Int) (h : InsOk w i) :
    Calls Tryz.prog 64 #[insV i, .int .i64 places] w fun e w' => e = .returned (.bool (goodB i places)) ∧ Fr Nob w w' := by
  obtain ⟨⟨op, a, b, c⟩, v, cs, d⟩ := i
  unfold InsOk at h
  dsimp only at h
  obtain ⟨q1, q2, A, cp, rfl, q3, q4, q5⟩ := id h
  show Calls Tryz.prog 64 #[.agg #[.int .i64 op, .int .i64 a, .int .i64 b, .int .i64 c, .slice A cs.length cp, .bool d], .int .i64 places] w _
  unfold goodB
  dsimp only
  by_cases h1 : op < 1
  · have : headB op cs d = false := by unfold headB; simp; omega
    rw [this]; simpa using good_no_low w op a b c A cs.length cp d places h1
  · by_cases h2 : 32 < op
    · have : headB op cs d = false := by unfold headB; simp; omega
      rw [this]; simpa using good_no_high w op a b c A cs.length cp d places h2
    · by_cases h3 : op = 15
      · subst h3
        by_cases h4 : 16 < cs.length
        · have : headB 15 cs d = false := by unfold headB; simp; omega
          rw [this]; simpa using good_no_many w 15 a b c A cs.length cp d places h4
        · have : headB 15 cs d = true := by unfold headB; simp; omega
          rw [this]; simpa using good_yes_select w 15 a b c A cs.length cp d places cs rfl (by omega) h
      · have h15 : (op == 15) = false := beq_eq_false_iff_ne.2 h3
        by_cases h5 : 0 < cs.length
        · have : headB op cs d = false := by
            have hz : (cs.length == 0) = false := beq_eq_false_iff_ne.2 (by omega)
            unfold headB; rw [h15, hz]; simp
          rw [this]; simpa using good_no_cases w op a b c A cs.length cp d places (by omega) (by omega) h3 h5
        · obtain rfl : cs = [] := List.eq_nil_of_length_eq_zero (by omega)
          cases d with
          | true =>
            have : headB op [] true = false := by unfold headB; rw [h15]; simp
            rw [this]; simpa using good_no_def w op a b c A 0 cp true places (by omega) (by omega) h3
          | false =>
            have : headB op [] false = true := by unfold headB; simp; omega
            rw [this]; simpa using good_yes_plain w op a b c A 0 cp false places [] (by omega) (by omega) h3 h
end Go.Proofs.YtcffplgimbbflaaGreat
